/- Walks: metric.decimal, edge, Read. Walks: metric.edge, Read (whether a text is one; the number itself stays open). -/
import Derived.Test.YtjdknhalcpkeaaaGreatDoorJ09
import Derived.Test.YtjdknhalcpkeaaaGreatDoorJ11
import Derived.Test.YtjdknhalcpkeaaaGreatDoorJ01
namespace Mtr
open Go Go.Lib Adr
theorem int_ok {l : List UInt8} {v : Int} (h : atoiAll l = .ok v) : (intOk l = true ∧ l.length ≤ 6 ∧ 0 ≤ v ∧ v = (val l : Int) ∧ itoa v = l) ∨ (intOk l = false ∧ (6 < l.length ∨ v < 0 ∨ itoa v ≠ l)) := by
 unfold intOk
 rcases num_ok l v h with ⟨h1, h2, h3, h4⟩ | ⟨h1, h2⟩
 · have hc : canon l = true := by
    cases hc : canon l with
    | true => rfl
    | false => rw [num_of_not hc] at h1; omega
   rw [num_of_canon hc] at h1
   by_cases h6 : l.length ≤ 6
   · left; rw [hc, decide_eq_true h6]; exact ⟨rfl, h6, h3, h1.symm, h4⟩
   · right; rw [decide_eq_false h6, Bool.and_false]; exact ⟨rfl, .inl (by omega)⟩
 · right
   have hc : canon l = false := by
    cases hc : canon l with
    | false => rfl
    | true => rw [num_of_canon hc] at h1; omega
   rw [hc]
   refine ⟨rfl, ?_⟩
   rcases h2 with h2 | h2
   · exact .inl (by omega)
   · exact .inr h2
theorem int_bad {l : List UInt8} (h : ∀ v, atoiAll l ≠ .ok v) : intOk l = false := by
 unfold intOk
 cases hc : canon l with
 | false => rfl
 | true => exact absurd (atoi_canon l hc) (h _)
theorem frac_bad {b : List UInt8} (h : ∀ v, atoiAll (b ++ repeatL [48] (3 - b.length)) ≠ .ok v) : fracOk b = false := by
 rw [Bool.eq_false_iff]; intro e
 unfold fracOk at e; simp only [Bool.and_eq_true, decide_eq_true_eq] at e
 exact h _ (frac_atoi e.1.1.1 e.1.1.2 e.1.2)
theorem frac_ok {b : List UInt8} {k : Int} (h : atoiAll (b ++ repeatL [48] (3 - b.length)) = .ok k) :
 (fracOk b = true ∧ 1 ≤ b.length ∧ b.length ≤ 3 ∧ trimS b digits = [] ∧ hasSuffix b [48] = false ∧ k = (frac b : Int)) ∨ (fracOk b = false ∧ (b.length < 1 ∨ 3 < b.length ∨ trimS b digits ≠ [] ∨ hasSuffix b [48] = true)) := by
 by_cases h1 : 1 ≤ b.length
 · by_cases h3 : b.length ≤ 3
   · by_cases hd : b.all isDig = true
     · cases hs : hasSuffix b [48] with
       | false =>
         left
         rw [frac_atoi h1 h3 hd] at h
         injection h with h
         refine ⟨?_, h1, h3, (trim_digits b).2 hd, rfl, h.symm⟩
         unfold fracOk; rw [decide_eq_true h1, decide_eq_true h3, hd, hs]; rfl
       | true => right; refine ⟨?_, .inr (.inr (.inr rfl))⟩; unfold fracOk; rw [hs]; simp
     · right; refine ⟨?_, .inr (.inr (.inl fun e => hd ((trim_digits b).1 e)))⟩; unfold fracOk; rw [show b.all isDig = false by simpa using hd]; simp
   · right; refine ⟨?_, .inr (.inl (by omega))⟩; unfold fracOk; rw [decide_eq_false h3]; simp
 · right; refine ⟨?_, .inl (by omega)⟩; unfold fracOk; rw [decide_eq_false h1]; rfl
theorem val_small {a : List UInt8} (h : intOk a = true) : val a < 1000000 := by
 have hd := int_digits h
 unfold intOk at h; simp only [Bool.and_eq_true, decide_eq_true_eq] at h
 have h1 := val_lt a hd
 have h2 : 10 ^ a.length ≤ 10 ^ 6 := Nat.pow_le_pow_right (by decide) h.2
 omega
theorem frac_small {b : List UInt8} (h : fracOk b = true) : frac b < 1000 := by
 unfold fracOk at h; simp only [Bool.and_eq_true, decide_eq_true_eq] at h
 have h1 := val_lt b h.1.2
 unfold frac
 have : b.length = 1 ∨ b.length = 2 ∨ b.length = 3 := by omega
 rcases this with e | e | e <;> rw [e] at h1 ⊢ <;> simp at * <;> omega
end Mtr
namespace Go.Proofs.YtjdknhalcpkeaaaGreatDoor
open Go Go.RowKit Mtr
def decRet (o : Option Nat) : Value := .tuple #[.int .i64 (match o with | some n => (n : Int) | none => 0), .bool o.isSome]
theorem cut_any (s : ByteArray) (w : World) (hE : Env w) (hs : s.size ≤ 100000000) :
 ∃ (a b : List UInt8) (pt : Bool), (Calls Tryz.prog 196 #[.string s, .string ⟨#[46]⟩] w fun e w' => e = .returned (.tuple #[.string ⟨a.toArray⟩, .string ⟨b.toArray⟩, .bool pt]) ∧ Below w.heap.size w w') ∧ a.length ≤ 100000000 ∧ b.length ≤ 100000000 ∧
   dec s.data.toList = if pt then (if intOk a && fracOk b then some (1000 * Adr.val a + frac b) else none) else (if intOk a then some (1000 * Adr.val a) else none) := by
 have hz := size_data s
 by_cases h : (46 : UInt8) ∈ s.data.toList
 · obtain ⟨a, b, e, ha⟩ := List.eq_append_cons_of_mem h
   have hl := congrArg List.length e
   rw [List.length_append, List.length_cons] at hl
   exact ⟨a, b, true, cut_hit s 46 a b w hE hs e ha, by omega, by omega, by rw [e, dec_point a b ha]; rfl⟩
 · refine ⟨s.data.toList, [], false, ?_, by omega, by simp, by rw [dec_whole _ h]; rfl⟩
   rw [mk_data]; exact cut_no s 46 w hE hs h
theorem isEmpty_mk (l : List UInt8) : (⟨l.toArray⟩ : ByteArray).toList.isEmpty = l.isEmpty := by rw [Lib.toList_data, data_mk]
set_option maxHeartbeats 4000000 in
theorem decimal_any (s : ByteArray) (w : World) (hE : Env w) (hs : s.size ≤ 100000000) :
 Calls Tryz.prog 214 #[.string s] w fun e w' => e = .returned (decRet (dec s.data.toList)) ∧ Below w.heap.size w w' := by
 obtain ⟨a, b, pt, hC, hal, hbl, hD⟩ := cut_any s w hE hs
 have HC := Lib.hid hC
 have HE := Lib.hid hE
 clear hC hE
 generalize dec s.data.toList = D at *
 by_cases hok : ∃ v, Lib.atoiAll a = .ok v
 · obtain ⟨v, hv⟩ := hok
   have HA := Lib.hid (show ∀ W, Env W → _ from fun W _ => atoi_ok ⟨a.toArray⟩ W v (by rw [size_mk]; omega) (by rw [data_mk]; exact hv))
   have hvb := Lib.atoiAll_bounds hv
   have HI := Lib.hid (show ∀ W, Env W → _ from fun W hW => itoa_any v W hW hvb.1 hvb.2)
   rcases int_ok hv with ⟨hi, h6, hv0, hve, hit⟩ | ⟨hi, hbad⟩
   · rw [hi] at hD
     rw [hit] at HI
     have hvs := val_small hi
     cases pt with
     | false =>
       have HD : Hid (D = some (1000 * Adr.val a)) := hD
       have hz6 : ¬ (6 : Int) < (a.length : Int) := by omega
       have HV : Hid (v = (Adr.val a : Int)) := hve
       have hv1 : v < 1000000 := by omega
       clear hD hi hit hv hve hvb hvs
       go_enter Tryz.func214, Tryz.ntmps214
       go_wp2_with fail
       refine HC.out.mono ?_
       rintro e w1 ⟨rfl, hb1⟩
       go_wp2_with fail
       refine (HA.out _ (HE.out.below hb1)).mono ?_
       rintro e w2 ⟨rfl, hb2⟩
       have hb3 := below_step hb1 hb2
       clear hb1 hb2
       go_wp2_with fail
       refine (HI.out _ (HE.out.below hb3)).mono ?_
       rintro e w3 ⟨rfl, hb4⟩
       have hb5 := below_step hb3 hb4
       clear hb3 hb4 HA HI HC
       go_wp2
       go_ret2
       exact ⟨by rw [HD.out, HV.out]; rfl, hb5⟩
     | true =>
       have hz6 : ¬ (6 : Int) < (a.length : Int) := by omega
       have HV : Hid (v = (Adr.val a : Int)) := hve
       have hv1 : v < 1000000 := by omega
       have hD1 : D = if fracOk b then some (1000 * Adr.val a + frac b) else none := by rw [hD]; rfl
       obtain ⟨m, hm⟩ : ∃ m, 3 - b.length = m := ⟨_, rfl⟩
       have HRp := fun W => Tryz.strings_Repeat ⟨#[48]⟩ m W (by omega) (by show 1 * m ≤ _; omega)
       have hmx : max (3 - (b.length : Int)) 0 = (m : Int) := by omega
       have hmi : (3 - (b.length : Int)).toNat = m := by omega
       have hcat : (⟨b.toArray⟩ : ByteArray) ++ (⟨(Lib.repeatL (⟨#[48]⟩ : ByteArray).data.toList m).toArray⟩ : ByteArray) = ⟨(b ++ Lib.repeatL [48] m).toArray⟩ := str_append b (Lib.repeatL [48] m)
       have hrl := (repeat_all m).2
       by_cases hok2 : ∃ k, Lib.atoiAll (b ++ Lib.repeatL [48] m) = .ok k
       · obtain ⟨k, hk⟩ := hok2
         have HA2 := Lib.hid (show ∀ W, Env W → _ from fun W _ => atoi_ok ⟨(b ++ Lib.repeatL [48] m).toArray⟩ W k (by rw [size_mk, List.length_append, hrl]; omega) (by rw [data_mk]; exact hk))
         have HT := Lib.hid (fun W => trim_any ⟨b.toArray⟩ ⟨#[48, 49, 50, 51, 52, 53, 54, 55, 56, 57]⟩ W (by rw [size_mk]; omega) (by decide) (by decide))
         have HS := Lib.hid (fun W => Tryz.strings_HasSuffix ⟨b.toArray⟩ ⟨#[48]⟩ W (by rw [size_mk]; omega))
         rw [data_mk] at HT HS
         rw [← hm] at hk
         have hfr := frac_ok hk
         rcases hfr with ⟨hf, f1, f3, ft, fs, fk⟩ | ⟨hf, hbad⟩
         · have HD : Hid (D = some (1000 * Adr.val a + frac b)) := by show _ = _; rw [hD1, hf]; rfl
           have hfs := frac_small hf
           have HK : Hid (k = (frac b : Int)) := fk
           have hk0 : 0 ≤ k := by omega
           have hk1 : k < 1000 := by omega
           have ft2 : (⟨(Lib.trimS b digits).toArray⟩ : ByteArray).toList.isEmpty = true := by rw [isEmpty_mk, ft]; rfl
           have HT2 : Hid (∀ W, Calls Tryz.prog 206 #[.string ⟨b.toArray⟩, .string ⟨#[48, 49, 50, 51, 52, 53, 54, 55, 56, 57]⟩] W fun e w' => e = .returned (.string ⟨(Lib.trimS b digits).toArray⟩) ∧ Below W.heap.size W w') := HT.out
           have HS2 : Hid (∀ W, Calls Tryz.prog 88 #[.string ⟨b.toArray⟩, .string ⟨#[48]⟩] W fun e w' => e = .returned (.bool false) ∧ w' = W) := fun W => by rw [← fs]; exact HS.out W
           have z1 : ¬ (b.length : Int) < 1 := by omega
           have z3 : ¬ (3 : Int) < (b.length : Int) := by omega
           clear hD hD1 hi hit hv hve hvb hvs hk hf ft fs fk hfs HT HS hm
           generalize (⟨(Lib.trimS b digits).toArray⟩ : ByteArray) = tr at *
           go_enter Tryz.func214, Tryz.ntmps214
           go_wp2_with fail
           refine HC.out.mono ?_
           rintro e w1 ⟨rfl, hb1⟩
           go_wp2_with fail
           refine (HA.out _ (HE.out.below hb1)).mono ?_
           rintro e w2 ⟨rfl, hb2⟩
           have hb3 := below_step hb1 hb2
           clear hb1 hb2
           go_wp2_with fail
           refine (HI.out _ (HE.out.below hb3)).mono ?_
           rintro e w3 ⟨rfl, hb4⟩
           have hb5 := below_step hb3 hb4
           clear hb3 hb4 HA HI HC
           go_wp2_with fail
           refine (HRp w3).mono ?_
           rintro e w4 ⟨rfl, hb6⟩
           have hb7 := below_step hb5 hb6
           clear hb5 hb6
           go_wp2_with fail
           refine (HA2.out _ (HE.out.below hb7)).mono ?_
           rintro e w5 ⟨rfl, hb8⟩
           have hb9 := below_step hb7 hb8
           clear hb7 hb8
           go_wp2_with fail
           refine (HT2.out _).mono ?_
           rintro e w6 ⟨rfl, hb10⟩
           have hb11 := below_step hb9 hb10
           clear hb9 hb10
           go_wp2_with fail
           refine (HS2.out _).mono ?_
           rintro e w7 ⟨rfl, rfl⟩
           go_wp2
           go_ret2
           exact ⟨by rw [HD.out, HV.out, HK.out]; rfl, hb11⟩
         · have HD : Hid (D = none) := by show _ = _; rw [hD1, hf]; rfl
           have HT2 : Hid (∀ W, Calls Tryz.prog 206 #[.string ⟨b.toArray⟩, .string ⟨#[48, 49, 50, 51, 52, 53, 54, 55, 56, 57]⟩] W fun e w' => e = .returned (.string ⟨(Lib.trimS b digits).toArray⟩) ∧ Below W.heap.size W w') := HT.out
           by_cases z1 : (b.length : Int) < 1
           · clear hD hD1 hi hit hv hve hvb hvs hk hf HT HS HT2 hm hbad
             go_enter Tryz.func214, Tryz.ntmps214
             go_wp2_with fail
             refine HC.out.mono ?_
             rintro e w1 ⟨rfl, hb1⟩
             go_wp2_with fail
             refine (HA.out _ (HE.out.below hb1)).mono ?_
             rintro e w2 ⟨rfl, hb2⟩
             have hb3 := below_step hb1 hb2
             clear hb1 hb2
             go_wp2_with fail
             refine (HI.out _ (HE.out.below hb3)).mono ?_
             rintro e w3 ⟨rfl, hb4⟩
             have hb5 := below_step hb3 hb4
             clear hb3 hb4 HA HI HC
             go_wp2_with fail
             refine (HRp w3).mono ?_
             rintro e w4 ⟨rfl, hb6⟩
             have hb7 := below_step hb5 hb6
             clear hb5 hb6
             go_wp2_with fail
             refine (HA2.out _ (HE.out.below hb7)).mono ?_
             rintro e w5 ⟨rfl, hb8⟩
             have hb9 := below_step hb7 hb8
             clear hb7 hb8
             go_wp2
             go_ret2
             exact ⟨by rw [HD.out]; rfl, hb9⟩
           · by_cases z3 : (3 : Int) < (b.length : Int)
             · clear hD hD1 hi hit hv hve hvb hvs hk hf HT HS HT2 hm hbad
               go_enter Tryz.func214, Tryz.ntmps214
               go_wp2_with fail
               refine HC.out.mono ?_
               rintro e w1 ⟨rfl, hb1⟩
               go_wp2_with fail
               refine (HA.out _ (HE.out.below hb1)).mono ?_
               rintro e w2 ⟨rfl, hb2⟩
               have hb3 := below_step hb1 hb2
               clear hb1 hb2
               go_wp2_with fail
               refine (HI.out _ (HE.out.below hb3)).mono ?_
               rintro e w3 ⟨rfl, hb4⟩
               have hb5 := below_step hb3 hb4
               clear hb3 hb4 HA HI HC
               go_wp2_with fail
               refine (HRp w3).mono ?_
               rintro e w4 ⟨rfl, hb6⟩
               have hb7 := below_step hb5 hb6
               clear hb5 hb6
               go_wp2_with fail
               refine (HA2.out _ (HE.out.below hb7)).mono ?_
               rintro e w5 ⟨rfl, hb8⟩
               have hb9 := below_step hb7 hb8
               clear hb7 hb8
               go_wp2
               go_ret2
               exact ⟨by rw [HD.out]; rfl, hb9⟩
             · by_cases ft : Lib.trimS b digits = []
               · have fs : Lib.hasSuffix b [48] = true := ((hbad.resolve_left (by omega)).resolve_left (by omega)).resolve_left (fun e => e ft)
                 have ft2 : (⟨(Lib.trimS b digits).toArray⟩ : ByteArray).toList.isEmpty = true := by rw [isEmpty_mk, ft]; rfl
                 have HS2 : Hid (∀ W, Calls Tryz.prog 88 #[.string ⟨b.toArray⟩, .string ⟨#[48]⟩] W fun e w' => e = .returned (.bool true) ∧ w' = W) := fun W => by rw [← fs]; exact HS.out W
                 clear hD hD1 hi hit hv hve hvb hvs hk hf ft fs HT HS hm hbad
                 generalize (⟨(Lib.trimS b digits).toArray⟩ : ByteArray) = tr at *
                 go_enter Tryz.func214, Tryz.ntmps214
                 go_wp2_with fail
                 refine HC.out.mono ?_
                 rintro e w1 ⟨rfl, hb1⟩
                 go_wp2_with fail
                 refine (HA.out _ (HE.out.below hb1)).mono ?_
                 rintro e w2 ⟨rfl, hb2⟩
                 have hb3 := below_step hb1 hb2
                 clear hb1 hb2
                 go_wp2_with fail
                 refine (HI.out _ (HE.out.below hb3)).mono ?_
                 rintro e w3 ⟨rfl, hb4⟩
                 have hb5 := below_step hb3 hb4
                 clear hb3 hb4 HA HI HC
                 go_wp2_with fail
                 refine (HRp w3).mono ?_
                 rintro e w4 ⟨rfl, hb6⟩
                 have hb7 := below_step hb5 hb6
                 clear hb5 hb6
                 go_wp2_with fail
                 refine (HA2.out _ (HE.out.below hb7)).mono ?_
                 rintro e w5 ⟨rfl, hb8⟩
                 have hb9 := below_step hb7 hb8
                 clear hb7 hb8
                 go_wp2_with fail
                 refine (HT2.out _).mono ?_
                 rintro e w6 ⟨rfl, hb10⟩
                 have hb11 := below_step hb9 hb10
                 clear hb9 hb10
                 go_wp2_with fail
                 refine (HS2.out _).mono ?_
                 rintro e w7 ⟨rfl, rfl⟩
                 go_wp2
                 go_ret2
                 exact ⟨by rw [HD.out]; rfl, hb11⟩
               · have ft2 : (⟨(Lib.trimS b digits).toArray⟩ : ByteArray).toList.isEmpty = false := by rw [isEmpty_mk, List.isEmpty_eq_false_iff]; exact ft
                 clear hD hD1 hi hit hv hve hvb hvs hk hf ft HT HS hm hbad
                 generalize (⟨(Lib.trimS b digits).toArray⟩ : ByteArray) = tr at *
                 go_enter Tryz.func214, Tryz.ntmps214
                 go_wp2_with fail
                 refine HC.out.mono ?_
                 rintro e w1 ⟨rfl, hb1⟩
                 go_wp2_with fail
                 refine (HA.out _ (HE.out.below hb1)).mono ?_
                 rintro e w2 ⟨rfl, hb2⟩
                 have hb3 := below_step hb1 hb2
                 clear hb1 hb2
                 go_wp2_with fail
                 refine (HI.out _ (HE.out.below hb3)).mono ?_
                 rintro e w3 ⟨rfl, hb4⟩
                 have hb5 := below_step hb3 hb4
                 clear hb3 hb4 HA HI HC
                 go_wp2_with fail
                 refine (HRp w3).mono ?_
                 rintro e w4 ⟨rfl, hb6⟩
                 have hb7 := below_step hb5 hb6
                 clear hb5 hb6
                 go_wp2_with fail
                 refine (HA2.out _ (HE.out.below hb7)).mono ?_
                 rintro e w5 ⟨rfl, hb8⟩
                 have hb9 := below_step hb7 hb8
                 clear hb7 hb8
                 go_wp2_with fail
                 refine (HT2.out _).mono ?_
                 rintro e w6 ⟨rfl, hb10⟩
                 have hb11 := below_step hb9 hb10
                 clear hb9 hb10
                 go_wp2
                 go_ret2
                 exact ⟨by rw [HD.out]; rfl, hb11⟩
       · have hf : fracOk b = false := frac_bad (fun k e => hok2 ⟨k, by rw [← hm]; exact e⟩)
         have HD : Hid (D = none) := by show _ = _; rw [hD1, hf]; rfl
         have HA2 := Lib.hid (show ∀ W, Env W → _ from fun W hW => atoi_bad ⟨(b ++ Lib.repeatL [48] m).toArray⟩ W hW (by rw [size_mk, List.length_append, hrl]; omega) (by rw [data_mk]; exact fun k e => hok2 ⟨k, e⟩))
         clear hD hD1 hi hit hv hve hvb hvs hf hm hok2
         go_enter Tryz.func214, Tryz.ntmps214
         go_wp2_with fail
         refine HC.out.mono ?_
         rintro e w1 ⟨rfl, hb1⟩
         go_wp2_with fail
         refine (HA.out _ (HE.out.below hb1)).mono ?_
         rintro e w2 ⟨rfl, hb2⟩
         have hb3 := below_step hb1 hb2
         clear hb1 hb2
         go_wp2_with fail
         refine (HI.out _ (HE.out.below hb3)).mono ?_
         rintro e w3 ⟨rfl, hb4⟩
         have hb5 := below_step hb3 hb4
         clear hb3 hb4 HA HI HC
         go_wp2_with fail
         refine (HRp w3).mono ?_
         rintro e w4 ⟨rfl, hb6⟩
         have hb7 := below_step hb5 hb6
         clear hb5 hb6
         go_wp2_with fail
         refine (HA2.out _ (HE.out.below hb7)).mono ?_
         rintro e w5 ⟨v', ap, rfl, hb8⟩
         have hb9 := below_step hb7 hb8
         clear hb7 hb8
         go_wp2
         go_ret2
         exact ⟨by rw [HD.out]; rfl, hb9⟩
   · have HD : Hid (D = none) := by
      show _ = _
      rw [hD, hi]; cases pt <;> simp
     by_cases h6 : 6 < a.length
     · have hz6 : (6 : Int) < (a.length : Int) := by omega
       clear hD hi hbad hv hvb HI
       go_enter Tryz.func214, Tryz.ntmps214
       go_wp2_with fail
       refine HC.out.mono ?_
       rintro e w1 ⟨rfl, hb1⟩
       go_wp2_with fail
       refine (HA.out _ (HE.out.below hb1)).mono ?_
       rintro e w2 ⟨rfl, hb2⟩
       have hb3 := below_step hb1 hb2
       clear hb1 hb2
       go_wp2
       go_ret2
       exact ⟨by rw [HD.out]; rfl, hb3⟩
     · have hz6 : ¬ (6 : Int) < (a.length : Int) := by omega
       by_cases hv0 : v < 0
       · clear hD hi hbad hv hvb HI
         go_enter Tryz.func214, Tryz.ntmps214
         go_wp2_with fail
         refine HC.out.mono ?_
         rintro e w1 ⟨rfl, hb1⟩
         go_wp2_with fail
         refine (HA.out _ (HE.out.below hb1)).mono ?_
         rintro e w2 ⟨rfl, hb2⟩
         have hb3 := below_step hb1 hb2
         clear hb1 hb2
         go_wp2
         go_ret2
         exact ⟨by rw [HD.out]; rfl, hb3⟩
       · have hne : (Lib.itoa v == a) = false := by
          rw [beq_eq_false_iff_ne]; exact (hbad.resolve_left (by omega)).resolve_left hv0
         have hne2 : ((⟨(Lib.itoa v).toArray⟩ : ByteArray).toList == (⟨a.toArray⟩ : ByteArray).toList) = false := by rw [Lib.toList_data, Lib.toList_data, data_mk, data_mk]; exact hne
         have HNE := Lib.hid hne2
         clear hD hi hbad hv hvb
         generalize Lib.itoa v = it at *
         go_enter Tryz.func214, Tryz.ntmps214
         go_wp2_with fail
         refine HC.out.mono ?_
         rintro e w1 ⟨rfl, hb1⟩
         go_wp2_with fail
         refine (HA.out _ (HE.out.below hb1)).mono ?_
         rintro e w2 ⟨rfl, hb2⟩
         have hb3 := below_step hb1 hb2
         clear hb1 hb2
         go_wp2_with fail
         refine (HI.out _ (HE.out.below hb3)).mono ?_
         rintro e w3 ⟨rfl, hb4⟩
         have hb5 := below_step hb3 hb4
         clear hb3 hb4 HA HI HC
         have hne3 := HNE.out
         go_wp2
         go_ret2
         exact ⟨by rw [HD.out]; rfl, hb5⟩
 · have HD : Hid (D = none) := by
    show _ = _
    rw [hD, int_bad (fun v e => hok ⟨v, e⟩)]; cases pt <;> simp
   have HA := Lib.hid (show ∀ W, Env W → _ from fun W hW => atoi_bad ⟨a.toArray⟩ W hW (by rw [size_mk]; omega) (by rw [data_mk]; exact fun v e => hok ⟨v, e⟩))
   clear hD hok
   go_enter Tryz.func214, Tryz.ntmps214
   go_wp2_with fail
   refine HC.out.mono ?_
   rintro e w1 ⟨rfl, hb1⟩
   go_wp2_with fail
   refine (HA.out _ (HE.out.below hb1)).mono ?_
   rintro e w2 ⟨v, ap, rfl, hb2⟩
   have hb3 := below_step hb1 hb2
   clear hb1 hb2
   go_wp2
   go_ret2
   exact ⟨by rw [HD.out]; rfl, hb3⟩
end Go.Proofs.YtjdknhalcpkeaaaGreatDoor
namespace Mtr
open Go Go.Lib Adr
def sNan : List UInt8 := [110, 97, 110]
def sInf : List UInt8 := [105, 110, 102]
def sNeg : List UInt8 := [45, 105, 110, 102]
def edgeOk (l : List UInt8) : Bool := decide (l = sNan) || decide (l = sInf) || decide (l = sNeg)
def readOk (l : List UInt8) : Bool := edgeOk l || (dec (trimPrefix l [45])).isSome
end Mtr
namespace Go.Proofs.YtjdknhalcpkeaaaGreatDoor
open Go Go.RowKit Mtr
theorem run_frombits (z : Int) (w : World) : (callFunc 199 #[.int .u64 z]).run Tryz.prog w = .ok (.value (.float .f64 z.toNat)) w := by
 rw [run_callFunc_extern (e := Extern.MathFloatBits.float64frombits) Tryz.func199 (by kernel_rfl) (by kernel_rfl) (by kernel_rfl) (by kernel_rfl)]; rfl
theorem run_bits (z : Nat) (w : World) : (callFunc 228 #[.float .f64 z]).run Tryz.prog w = .ok (.value (.int .u64 z)) w := by
 rw [run_callFunc_extern (e := Extern.MathFloatBits.float64bits) Tryz.func228 (by kernel_rfl) (by kernel_rfl) (by kernel_rfl) (by kernel_rfl)]; rfl
set_option maxRecDepth 100000 in
theorem nan_any (w : World) : Calls Tryz.prog 178 #[] w fun e w' => e = .returned (.float .f64 9221120237041090561) ∧ w' = w := by
 have hx := run_frombits
 go_enter Tryz.func178, Tryz.ntmps178
 go_wp2
 go_ret
 exact ⟨rfl, rfl⟩
set_option maxRecDepth 100000 in
theorem inf_any (z : Int) (w : World) : Calls Tryz.prog 179 #[.int .i64 z] w fun e w' => e = .returned (.float .f64 (if 0 ≤ z then 9218868437227405312 else 18442240474082181120)) ∧ w' = w := by
 have hx := run_frombits
 by_cases h : 0 ≤ z
 · go_enter Tryz.func179, Tryz.ntmps179
   go_wp2
   go_ret
   exact ⟨rfl, rfl⟩
 · go_enter Tryz.func179, Tryz.ntmps179
   go_wp2
   go_ret
   exact ⟨rfl, rfl⟩
set_option maxRecDepth 100000 in
theorem copysign_any (x y : Nat) (w : World) : Calls Tryz.prog 215 #[.float .f64 x, .float .f64 y] w fun e w' => (∃ z, e = .returned (.float .f64 z)) ∧ w' = w := by
 have hx := run_frombits
 have hy := run_bits
 go_enter Tryz.func215, Tryz.ntmps215
 go_wp2
 go_ret
 exact ⟨⟨_, rfl⟩, rfl⟩
theorem edge_eq (s : ByteArray) (l : List UInt8) : (s.toList == l) = decide (s.data.toList = l) := by
 rw [Lib.toList_data, Bool.eq_iff_iff, beq_iff_eq, decide_eq_true_eq]
def EdgeEnd (l : List UInt8) (w : World) (e : Ending) (w' : World) : Prop := (∃ f, e = .returned (.tuple #[.float .f64 f, .bool (edgeOk l)])) ∧ w' = w
set_option maxRecDepth 100000 in
theorem edge_any (s : ByteArray) (w : World) : Calls Tryz.prog 212 #[.string s] w (EdgeEnd s.data.toList w) := by
 have HX : Hid (edgeOk s.data.toList = (decide (s.data.toList = sNan) || decide (s.data.toList = sInf) || decide (s.data.toList = sNeg))) := rfl
 have e1 := edge_eq s [110, 97, 110]
 have e2 := edge_eq s [105, 110, 102]
 have e3 := edge_eq s [45, 105, 110, 102]
 have HN := Lib.hid nan_any
 have HI := Lib.hid inf_any
 by_cases h1 : s.data.toList = sNan
 · have q1 : (s.toList == [110, 97, 110]) = true := e1.trans (decide_eq_true h1)
   have q1' : s.toList = [110, 97, 110] := by simpa using q1
   have HK : Hid (edgeOk s.data.toList = true) := by show _ = _; rw [HX.out, decide_eq_true h1]; rfl
   clear e1 e2 e3 h1 HX
   go_enter Tryz.func212, Tryz.ntmps212
   go_wp2_with fail
   refine (HN.out w).mono ?_
   rintro e w' ⟨rfl, rfl⟩
   go_wp2
   exact bodyPost_ret (results_tmp2 rfl _ _ _) rfl ⟨⟨_, by rw [HK.out]; rfl⟩, rfl⟩
 · have q1 : (s.toList == [110, 97, 110]) = false := e1.trans (decide_eq_false h1)
   have q1' : ¬ s.toList = [110, 97, 110] := by simpa using q1
   by_cases h2 : s.data.toList = sInf
   · have q2 : (s.toList == [105, 110, 102]) = true := e2.trans (decide_eq_true h2)
     have q2' : s.toList = [105, 110, 102] := by simpa using q2
     have HK : Hid (edgeOk s.data.toList = true) := by show _ = _; rw [HX.out, decide_eq_true h2]; simp
     clear e1 e2 e3 h1 h2 HX
     go_enter Tryz.func212, Tryz.ntmps212
     go_wp2_with fail
     refine (HI.out 1 w).mono ?_
     rintro e w' ⟨rfl, rfl⟩
     go_wp2
     exact bodyPost_ret (results_tmp2 rfl _ _ _) rfl ⟨⟨_, by rw [HK.out]; rfl⟩, rfl⟩
   · have q2 : (s.toList == [105, 110, 102]) = false := e2.trans (decide_eq_false h2)
     have q2' : ¬ s.toList = [105, 110, 102] := by simpa using q2
     by_cases h3 : s.data.toList = sNeg
     · have q3 : (s.toList == [45, 105, 110, 102]) = true := e3.trans (decide_eq_true h3)
       have q3' : s.toList = [45, 105, 110, 102] := by simpa using q3
       have HK : Hid (edgeOk s.data.toList = true) := by show _ = _; rw [HX.out, decide_eq_true h3]; simp
       clear e1 e2 e3 h1 h2 h3 HX
       go_enter Tryz.func212, Tryz.ntmps212
       go_wp2_with fail
       refine (HI.out (-1) w).mono ?_
       rintro e w' ⟨rfl, rfl⟩
       go_wp2
       exact bodyPost_ret (results_tmp2 rfl _ _ _) rfl ⟨⟨_, by rw [HK.out]; rfl⟩, rfl⟩
     · have q3 : (s.toList == [45, 105, 110, 102]) = false := e3.trans (decide_eq_false h3)
       have q3' : ¬ s.toList = [45, 105, 110, 102] := by simpa using q3
       have HK : Hid (edgeOk s.data.toList = false) := by show _ = _; rw [HX.out, decide_eq_false h1, decide_eq_false h2, decide_eq_false h3]; rfl
       clear e1 e2 e3 h1 h2 h3 HX
       go_enter Tryz.func212, Tryz.ntmps212
       go_wp2
       exact bodyPost_ret (results_tmp2 rfl _ _ _) rfl ⟨⟨_, by rw [HK.out]; rfl⟩, rfl⟩
def ReadEnd (l : List UInt8) (w : World) (e : Ending) (w' : World) : Prop := (∃ f, e = .returned (.tuple #[.float .f64 f, .bool (readOk l)])) ∧ Below w.heap.size w w'
set_option maxRecDepth 100000 in
theorem read_any (s : ByteArray) (w : World) (hE : Env w) (hs : s.size ≤ 100000000) : Calls Tryz.prog 195 #[.string s] w (ReadEnd s.data.toList w) := by
 have HX : Hid (readOk s.data.toList = (edgeOk s.data.toList || (dec (Lib.trimPrefix s.data.toList [45])).isSome)) := rfl
 have HG := Lib.hid (edge_any s w)
 have HP := Lib.hid (Tryz.strings_CutPrefix s ⟨#[45]⟩ w)
 have hlen : (Lib.trimPrefix s.data.toList [45]).length ≤ 100000000 := by
  have := size_data s
  unfold Lib.trimPrefix
  split
  · rw [List.length_drop]; omega
  · omega
 have HD := Lib.hid (decimal_any ⟨(Lib.trimPrefix s.data.toList [45]).toArray⟩ w hE (by rw [size_mk]; exact hlen))
 rw [data_mk] at HD
 have HC := Lib.hid copysign_any
 have HQ : Hid (∀ W w', Below w.heap.size w W → w' = W → Below w.heap.size w w') := fun W w' h e => by rw [e]; exact h
 have hRE : ∀ o, readOk s.data.toList = o → ∀ f W, Below w.heap.size w W → ReadEnd s.data.toList w (.returned (.tuple #[.float .f64 f, .bool o])) W := fun o ho f W hb => ⟨⟨f, by rw [ho]⟩, hb⟩
 have HRE := Lib.hid hRE
 clear hRE
 unfold EdgeEnd at HG
 have HP2 : Hid (Calls Tryz.prog 213 #[.string s, .string ⟨#[45]⟩] w fun e w' => e = .returned (.tuple #[.string ⟨(Lib.trimPrefix s.data.toList [45]).toArray⟩, .bool (Lib.hasPrefix s.data.toList [45])]) ∧ w' = w) := HP.out
 clear HP
 generalize Lib.trimPrefix s.data.toList [45] = t at *
 generalize Lib.hasPrefix s.data.toList [45] = sg at *
 cases heo : edgeOk s.data.toList with
 | true =>
   rw [heo] at HG HX
   have HK := Lib.hid (HRE.out true HX.out)
   clear HRE HX heo HD HP2
   go_enter Tryz.func195, Tryz.ntmps195
   go_wp2_with fail
   refine HG.out.mono ?_
   rintro e w' ⟨⟨f, rfl⟩, rfl⟩
   clear HG
   go_wp2
   refine bodyPost_ret (results_tmp2 rfl _ _ _) rfl ?_
   exact HK.out f _ (Below.refl _ _)
 | false =>
   rw [heo, Bool.false_or] at HX
   rw [heo] at HG
   clear heo
   unfold decRet at HD
   cases hd : dec t with
   | none =>
     rw [hd] at HX HD
     have HK := Lib.hid (HRE.out false HX.out)
     clear HRE HX hd
     go_enter Tryz.func195, Tryz.ntmps195
     go_wp2_with fail
     refine HG.out.mono ?_
     rintro e w' ⟨⟨f, rfl⟩, rfl⟩
     clear HG
     go_wp2_with fail
     refine HP2.out.mono ?_
     rintro e w' ⟨rfl, rfl⟩
     clear HP2
     go_wp2_with fail
     refine HD.out.mono ?_
     rintro e w' ⟨rfl, hb⟩
     clear HD
     go_wp2
     refine bodyPost_ret (results_tmp2 rfl _ _ _) rfl ?_
     exact HK.out _ _ hb
   | some n =>
     rw [hd] at HX HD
     have HK := Lib.hid (HRE.out true HX.out)
     obtain ⟨fq, hq⟩ := run_thousand (P := Tryz.prog) 183 (n : Int)
     clear HRE HX hd
     cases sg with
     | false =>
       go_enter Tryz.func195, Tryz.ntmps195
       go_wp2_with fail
       refine HG.out.mono ?_
       rintro e w' ⟨⟨f, rfl⟩, rfl⟩
       clear HG
       go_wp2_with fail
       refine HP2.out.mono ?_
       rintro e w' ⟨rfl, rfl⟩
       clear HP2
       go_wp2_with fail
       refine HD.out.mono ?_
       rintro e w' ⟨rfl, hb⟩
       clear HD
       go_wp2
       refine bodyPost_ret (results_tmp2 rfl _ _ _) rfl ?_
       exact HK.out _ _ hb
     | true =>
       go_enter Tryz.func195, Tryz.ntmps195
       go_wp2_with fail
       refine HG.out.mono ?_
       rintro e w' ⟨⟨f, rfl⟩, rfl⟩
       clear HG
       go_wp2_with fail
       refine HP2.out.mono ?_
       rintro e w' ⟨rfl, rfl⟩
       clear HP2
       go_wp2_with fail
       refine HD.out.mono ?_
       rintro e w1 ⟨rfl, hb⟩
       clear HD
       go_wp2_with fail
       refine (HC.out _ _ _).mono ?_
       rintro e w2 ⟨⟨z, rfl⟩, rfl⟩
       go_wp2
       refine bodyPost_ret (results_tmp2 rfl _ _ _) rfl ?_
       exact HK.out _ _ hb
end Go.Proofs.YtjdknhalcpkeaaaGreatDoor
