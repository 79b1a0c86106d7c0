/- The library's Split, Cut, ReplaceAll, Join, ParseUint in this seed's words. Walks: an address of a text: the program's and the reference's. Walks: a prefix of a text: the program's and the reference's; the reference's In. -/
import Derived.Deep.RegionHeld3
import Derived.Test.YtjdknhalcpkeaaaGreatDoorJ04
import Derived.Test.YtjdknhalcpkeaaaGreatDoorJ09
namespace Adr
open Go Go.Lib
theorem splitB_parts (c : UInt8) (s : ByteArray) : (splitB ⟨#[c]⟩ 0 (countB s ⟨#[c]⟩) s).map (·.data.toList) = parts c s.data.toList := by
 rw [splitB_data, ← split_parts]; rfl
theorem countB_parts (c : UInt8) (s : ByteArray) : countB s ⟨#[c]⟩ + 1 = (parts c s.data.toList).length := by
 rw [← splitB_parts, List.length_map, splitB_all ⟨#[c]⟩ (Nat.le_refl 1) 0 _ s rfl]
end Adr
namespace Go.Proofs.YtjdknhalcpkeaaaGreatDoor
open Go.RowKit
theorem split_any (s : ByteArray) (c : UInt8) (w : World) (hE : Env w) (hs : s.size ≤ 100000000) :
 Calls Tryz.prog 86 #[.string s, .string ⟨#[c]⟩] w (PartsEnd w c s.data.toList) := by
 obtain ⟨m, hm⟩ := hE.mx
 refine (Tryz.strings_Split s ⟨#[c]⟩ m w (by omega) hm (Nat.le_refl 1)).mono fun e w' ⟨he, hw⟩ => ?_
 have hl := Adr.parts_len c s.data.toList
 rw [size_data] at hl
 rw [strs_of, Adr.splitB_parts] at hw
 have hc := Adr.countB_parts c s
 refine ⟨some ⟨w.heap.size, 0, none⟩, (Adr.parts c s.data.toList).length, by rw [he, hc], Nat.le_refl _, by unfold maxLen; omega, ⟨by rw [strs_length]; omega, fun _ => ⟨_, rfl, by rw [hw]; simp, fun j u hu => ?_⟩⟩, by rw [hw]; exact (Below.refl _ _).alloc (Nat.le_refl _) _⟩
 rw [hw, add_plain, Nat.zero_add, World.cell?_alloc_at _ _ _ _ rfl]
 simpa using hu
theorem cut_hit (s : ByteArray) (c : UInt8) (a r : List UInt8) (w : World) (hE : Env w) (hs : s.size ≤ 100000000) (h : s.data.toList = a ++ c :: r) (ha : c ∉ a) :
 Calls Tryz.prog 196 #[.string s, .string ⟨#[c]⟩] w fun e w' => e = .returned (.tuple #[.string ⟨a.toArray⟩, .string ⟨r.toArray⟩, .bool true]) ∧ Below w.heap.size w w' := by
 obtain ⟨m, hm⟩ := hE.mx
 refine (Tryz.strings_Cut s ⟨#[c]⟩ m w (by omega) hm).mono fun e w' ⟨he, n, hw⟩ => ?_
 have e1 : Lib.cut s.data.toList (⟨#[c]⟩ : ByteArray).data.toList = (a, r, true) := by rw [h]; exact Adr.cut_at c a r ha
 rw [e1] at he
 exact ⟨he, by rw [hw]; exact below_drews n⟩
theorem cut_no (s : ByteArray) (c : UInt8) (w : World) (hE : Env w) (hs : s.size ≤ 100000000) (h : c ∉ s.data.toList) :
 Calls Tryz.prog 196 #[.string s, .string ⟨#[c]⟩] w fun e w' => e = .returned (.tuple #[.string s, .string ⟨#[]⟩, .bool false]) ∧ Below w.heap.size w w' := by
 obtain ⟨m, hm⟩ := hE.mx
 refine (Tryz.strings_Cut s ⟨#[c]⟩ m w (by omega) hm).mono fun e w' ⟨he, n, hw⟩ => ?_
 have e1 : Lib.cut s.data.toList (⟨#[c]⟩ : ByteArray).data.toList = (s.data.toList, [], false) := Adr.cut_miss c _ h
 rw [e1, Lib.mk_data] at he
 exact ⟨he, by rw [hw]; exact below_drews n⟩
theorem strip_any (s : ByteArray) (c : UInt8) (w : World) (hE : Env w) (hs : s.size ≤ 100000000) :
 Calls Tryz.prog 208 #[.string s, .string ⟨#[c]⟩, .string ⟨#[]⟩] w fun e w' => e = .returned (.string ⟨(Lib.replaceAll s.data.toList [c] []).toArray⟩) ∧ Below w.heap.size w w' := by
 obtain ⟨m, hm⟩ := hE.mx
 exact Tryz.strings_ReplaceAll s ⟨#[c]⟩ ⟨#[]⟩ m w (by omega) hm (Nat.le_refl 1) (by show s.size + _ * 0 ≤ _; omega)
theorem strip_len (l : List UInt8) (c : UInt8) : (Lib.replaceAll l [c] []).length ≤ l.length := by
 rw [Adr.replace_filter]; exact List.length_filter_le _ _
theorem glue_len (c : UInt8) (L : List (List UInt8)) (n : Nat) (h : ∀ p ∈ L, p.length ≤ n) : (Adr.glue c L).length ≤ L.length * (n + 1) := by
 induction L with
 | nil => simp [Adr.glue]
 | cons a r ih =>
   have ha := h a (by simp)
   have hr := ih fun p hp => h p (by simp [hp])
   rw [List.length_cons, Nat.add_mul]
   cases r with
   | nil => simp [Adr.glue]; omega
   | cons b r => rw [Adr.glue_more]; simp only [List.length_append, List.length_cons] at hr ⊢; omega
theorem join_any (A : Option Addr) (cap : Nat) (L : List (List UInt8)) (c : UInt8) (w : World) (hcap : L.length ≤ cap) (h : Rd w 1 A L.length (strs L)) (hz : ∀ ad, A = some ad → ad.spot = none)
 (hlen : (Adr.glue c L).length ≤ 140737488355328) (hN : L.length ≤ 1000000000) :
 Calls Tryz.prog 66 #[.slice A L.length cap, .string ⟨#[c]⟩] w fun e w' => e = .returned (.string ⟨(Adr.glue c L).toArray⟩) ∧ Below w.heap.size w w' := by
 rcases Nat.eq_zero_or_pos L.length with h0 | h0
 · have hL : L = [] := List.length_eq_zero_iff.1 h0
   subst hL
   exact (Tryz.strings_Join_none A cap ⟨#[c]⟩ w).mono fun e w' ⟨he, hw⟩ => ⟨he, by rw [hw]; exact Below.refl _ _⟩
 · obtain ⟨⟨b, o, sp⟩, rfl, hb, hx⟩ := h.2 h0
   obtain rfl : sp = none := hz _ rfl
   have e1 : (L.map fun l => (⟨l.toArray⟩ : ByteArray)).map (·.data.toList) = L := by rw [List.map_map]; simp [Function.comp_def]
   have hj : Lib.join ((L.map fun l => (⟨l.toArray⟩ : ByteArray)).map (·.data.toList)) (⟨#[c]⟩ : ByteArray).data.toList = Adr.glue c L := by rw [e1]; exact Adr.join_glue c L
   have hl : (L.map fun l => (⟨l.toArray⟩ : ByteArray)).length = L.length := by simp
   have hcalls := Tryz.strings_Join b o cap (L.map fun l => (⟨l.toArray⟩ : ByteArray)) ⟨#[c]⟩ w (fun j x hx' => by
    have hj' : j < L.length := by rw [← hl]; exact (List.getElem?_eq_some_iff.1 hx').1
    rw [← add_plain]
    refine hx j _ ?_
    rw [strs_get hj']
    rw [List.getElem?_map, List.getElem?_eq_getElem hj'] at hx'
    simp only [Option.map_some, Option.some.injEq] at hx'
    rw [hx']) hb (by omega) (by omega) (by rw [hj]; exact hlen)
   rw [hj, hl] at hcalls
   exact hcalls
theorem rd_own_spot {w : World} {base k n : Nat} {e : TypeId} {A : Option Addr} {c : Nat} {xs : List Value} (h : w.ownsRow base e k (.slice A n c) n xs) : ∀ ad, A = some ad → ad.spot = none := by
 rintro ad rfl
 rcases h.2 with ⟨hv, _⟩ | ⟨g, cap, cur, hv, _⟩
 · cases hv
 · injection hv with hA; injection hA with hA; rw [hA]
theorem hex_any (s : ByteArray) (w : World) (hE : Env w) (hs : s.size ≤ 100000000) :
 Calls Tryz.prog 207 #[.string s, .int .i64 16, .int .i64 48] w fun e w' => Parsed 243 (Adr.parseMac s.data.toList) e ∧ Below w.heap.size w w' := by
 obtain ⟨t1, p1, h1⟩ := hE.es
 obtain ⟨t2, p2, h2⟩ := hE.er
 exact parse16_any Tryz.laysPu14 s (by omega) t1 t2 p1 p2 w h1 h2
end Go.Proofs.YtjdknhalcpkeaaaGreatDoor
namespace Adr
open Go
def ipTo (L : List (List UInt8)) (k : Nat) : Int := (L.take k).foldl step 0
theorem ipTo_zero (L : List (List UInt8)) : ipTo L 0 = 0 := by unfold ipTo; rw [List.take_zero]; rfl
theorem ipTo_succ (L : List (List UInt8)) (k : Nat) (h : k < L.length) : ipTo L (k + 1) = step (ipTo L k) L[k] := by
 unfold ipTo
 rw [List.take_succ_eq_append_getElem h, List.foldl_append]; rfl
theorem step_neg (n : Int) (w : List UInt8) (h : n < 0) : step n w = -1 := by unfold step; rw [if_pos (.inl h)]
theorem fold_neg (L : List (List UInt8)) (n : Int) (h : n < 0) : L.foldl step n < 0 := by
 induction L generalizing n with
 | nil => exact h
 | cons a r ih => rw [List.foldl_cons]; exact ih _ (by rw [step_neg n a h]; decide)
theorem ipTo_stop (L : List (List UInt8)) (k : Nat) (h : ipTo L k < 0) : ipTo L L.length < 0 := by
 unfold ipTo at h ⊢
 rw [List.take_length]
 have e := List.take_append_drop k L
 rw [← e, List.foldl_append]
 exact fold_neg _ _ h
theorem ip_not (l : List UInt8) (h : (parts 46 l).length ≠ 4) : ip l = -1 := by
 unfold ip
 split
 · rename_i e; rw [e] at h; simp at h
 · rfl
theorem ip_to (l : List UInt8) (h : (parts 46 l).length = 4) : ip l = ipTo (parts 46 l) 4 := by
 unfold ip ipTo
 generalize parts 46 l = L at h
 match L, h with
 | [a, b, c, d], _ => rfl
theorem ipTo_bd (L : List (List UInt8)) (k : Nat) (hk : k ≤ L.length) (h4 : k ≤ 3) (h0 : 0 ≤ ipTo L k) : ipTo L k < 16777216 := by
 have s : ∀ j, j < L.length → 0 ≤ ipTo L (j + 1) → 0 ≤ ipTo L j ∧ ipTo L (j + 1) ≤ 256 * ipTo L j + 255 := by
  intro j hj h1
  rw [ipTo_succ L j hj] at h1 ⊢
  have := step_ok h1
  omega
 have h00 := ipTo_zero L
 rcases Nat.lt_or_ge 2 k with h | h
 · obtain rfl : k = 3 := by omega
   have a := s 2 (by omega) h0; have b := s 1 (by omega) a.1; have c := s 0 (by omega) b.1
   simp only [Nat.zero_add, Nat.reduceAdd] at a b c; omega
 · rcases Nat.lt_or_ge 1 k with h' | h'
   · obtain rfl : k = 2 := by omega
     have b := s 1 (by omega) h0; have c := s 0 (by omega) b.1
     simp only [Nat.zero_add, Nat.reduceAdd] at b c; omega
   · rcases Nat.lt_or_ge 0 k with h2 | h2
     · obtain rfl : k = 1 := by omega
       have c := s 0 (by omega) h0
       simp only [Nat.zero_add] at c; omega
     · obtain rfl : k = 0 := by omega
       omega
theorem step_yes {n : Int} {w : List UInt8} (h0 : 0 ≤ n) (h : numIn w 0 255 = true) : step n w = 256 * n + num w := by
 have := (numIn_iff _ _ _).1 h
 unfold step; rw [if_neg (by omega)]
theorem step_no {n : Int} {w : List UInt8} (h : numIn w 0 255 = false) : step n w = -1 := by
 unfold step; rw [if_pos]
 rw [Bool.eq_false_iff] at h
 have h2 : ¬ (0 ≤ num w ∧ 0 ≤ num w ∧ num w ≤ 255) := fun a => h ((numIn_iff w 0 255).2 a)
 omega
theorem or_add (a b : Int) (ha : 0 ≤ a) (ha2 : a < 16777216) (hb : 0 ≤ b) (hb2 : b ≤ 255) : bits .or .i64 (a * 256) b = 256 * a + b := by
 obtain ⟨x, rfl⟩ := Int.eq_ofNat_of_zero_le ha
 obtain ⟨y, rfl⟩ := Int.eq_ofNat_of_zero_le hb
 have e : ((x : Int) * 256) = ((256 * x : Nat) : Int) := by omega
 have hle : 256 * x ||| y = 256 * x + y := by
  have := Nat.two_pow_add_eq_or_of_lt (i := 8) (b := y) (by omega) x
  rw [show (2 : Nat) ^ 8 = 256 by decide] at this
  exact this.symm
 rw [e]
 show IntKind.i64.wrap ((BitVec.ofInt 64 ((256 * x : Nat) : Int) ||| BitVec.ofInt 64 (y : Int)).toNat : Int) = _
 rw [BitVec.toNat_or, ofInt_i64 _ (by omega), ofInt_i64 _ (by omega), hle, wrap_nat _ (by omega)]; omega
end Adr
namespace Go.Proofs.YtjdknhalcpkeaaaGreatDoor
open Go.RowKit
def okRet (n : Int) : Value := .tuple #[.int .i64 (max n 0), .bool (decide (0 ≤ n))]
theorem okRet_yes {n : Int} (h : 0 ≤ n) : okRet n = .tuple #[.int .i64 n, .bool true] := by
 unfold okRet; rw [show max n 0 = n by omega]; simp [h]
theorem okRet_no {n : Int} (h : n < 0) : okRet n = .tuple #[.int .i64 0, .bool false] := by
 unfold okRet; rw [show max n 0 = 0 by omega]; simp; omega
set_option maxHeartbeats 1000000 in
set_option maxRecDepth 100000 in
theorem ip_any (s : ByteArray) (w : World) (hE : Env w) (hs : s.size ≤ 100000000) :
 Calls Tryz.prog 171 #[.string s] w fun e w' => e = .returned (okRet (Adr.ip s.data.toList)) ∧ Below w.heap.size w w' := by
 go_enter Tryz.func171, Tryz.ntmps171
 go_wp2_with fail
 refine (split_any s 46 _ hE hs).mono ?_
 rintro e w1 ⟨A, cap, rfl, hc1, hc2, hR, hb1⟩
 have hpl := Adr.parts_len 46 s.data.toList
 have hps := Adr.parts_short 46 s.data.toList
 rw [size_data] at hpl hps
 by_cases h4 : (Adr.parts 46 s.data.toList).length = 4
 · have HI := Lib.hid (Adr.ip_to _ h4)
   generalize Adr.parts 46 s.data.toList = L at *
   have hE1 := hE.below hb1
   have H4 := Lib.hid h4
   rw [h4] at hR hc1 ⊢
   clear h4 hpl
   go_wp2_with fail
   go_loopw [5, 17] (fun o i wr => ∃ k : Nat, k ≤ 4 ∧ i = .int .i64 k ∧ o = .int .i64 (Adr.ipTo L k) ∧ 0 ≤ Adr.ipTo L k ∧ Below w1.heap.size w1 wr) (fun _ i _ => 4 - (intOf i).toNat)
   case atStart => exact ⟨0, by omega, rfl, by rw [Adr.ipTo_zero], by rw [Adr.ipTo_zero]; decide, Below.refl _ _⟩
   case round =>
    obtain ⟨k, hk, rfl, rfl, hn, hbr⟩ := hrel
    by_cases hk4 : k < 4
    · have hkL : k < L.length := by rw [H4.out]; exact hk4
      have hsuc := Adr.ipTo_succ L k hkL
      have hstop := Adr.ipTo_stop L (k + 1)
      have hbd := Adr.ipTo_bd L k (by omega) (by omega) hn
      have hget := strs_get hkL
      have hshort := hps L[k] (List.getElem_mem hkL)
      generalize L[k] = p at *
      generalize Adr.ipTo L k = n at *
      obtain ⟨ad, rfl, had, hcell⟩ := (hR.below hbr).cell hget
      clear hget
      cases hin : Adr.numIn p 0 255 with
      | true =>
        have hr := (Adr.numIn_iff _ _ _).1 hin
        have hst := Adr.step_yes hn hin
        have HR := Lib.hid (numRet_yes (s := ⟨p.toArray⟩) (by rw [data_mk]; exact hin))
        rw [hst] at hsuc
        have Hsuc := Lib.hid hsuc
        have Hor := Lib.hid (Adr.or_add n (Adr.num p) hn hbd hr.1 hr.2.2)
        clear hst hsuc hin hstop
        go_wp2_with fail
        refine (num_any ⟨p.toArray⟩ 0 255 _ (hE1.below hbr) (by rw [size_mk]; omega)).mono ?_
        rintro e w3 ⟨rfl, hb3⟩
        rw [HR.out]
        go_wp2_with fail
        go_roundw
        case rel => exact ⟨k + 1, by omega, by go_num, by rw [Hor.out, Hsuc.out], by rw [Hsuc.out]; omega, below_step hbr hb3⟩
        case measure => simp [intOf]; omega
      | false =>
        have hst := Adr.step_no (n := n) hin
        have HR := Lib.hid (numRet_no (s := ⟨p.toArray⟩) (by rw [data_mk]; exact hin))
        rw [hst] at hsuc
        have HF := Lib.hid (okRet_no (n := Adr.ip s.data.toList) (by
         have := hstop (by rw [hsuc]; decide)
         rw [HI.out, ← H4.out]; exact this))
        clear hst hsuc hin hstop
        go_wp2_with fail
        refine (num_any ⟨p.toArray⟩ 0 255 _ (hE1.below hbr) (by rw [size_mk]; omega)).mono ?_
        rintro e w3 ⟨rfl, hb3⟩
        rw [HR.out]
        go_wp2_with fail
        go_ret2
        exact ⟨by rw [HF.out]; rfl, below_step hb1 (below_step hbr hb3)⟩
    · have hk4' : 4 ≤ k := by omega
      have HF := Lib.hid (show okRet (Adr.ip s.data.toList) = .tuple #[.int .i64 (Adr.ipTo L k), .bool true] by
       obtain rfl : k = 4 := by omega
       rw [HI.out]; exact okRet_yes hn)
      clear hk4
      go_wp2_with fail
      go_ret2
      exact ⟨by rw [HF.out]; rfl, below_step hb1 hbr⟩
 · have HF := Lib.hid (okRet_no (n := Adr.ip s.data.toList) (by rw [Adr.ip_not _ h4]; decide))
   have hne : (((Adr.parts 46 s.data.toList).length : Int) == 4) = false := by rw [beq_eq_false_iff_ne]; omega
   clear h4
   go_wp2_with fail
   go_ret2
   exact ⟨by rw [HF.out]; rfl, hb1⟩
theorem refIp_any (s : ByteArray) (w : World) (hs : s.size ≤ 100000000) :
 Calls Tryz.prog 148 #[.string s] w fun e w' => e = .returned (.int .i64 (Adr.ip s.data.toList)) ∧ Below w.heap.size w w' := by
 go_enter Tryz.func148, Tryz.ntmps148
 go_wp2_with fail
 refine (parts_any s 46 _ hs).mono ?_
 rintro e w1 ⟨A, cap, rfl, hc1, hc2, hR, hb1⟩
 have hpl := Adr.parts_len 46 s.data.toList
 have hps := Adr.parts_short 46 s.data.toList
 rw [size_data] at hpl hps
 by_cases h4 : (Adr.parts 46 s.data.toList).length = 4
 · have HI := Lib.hid (Adr.ip_to _ h4)
   generalize Adr.parts 46 s.data.toList = L at *
   have H4 := Lib.hid h4
   rw [h4] at hR hc1 ⊢
   clear h4 hpl
   go_wp2_with fail
   go_loopw [4, 5, 6] (fun o i _ wr => ∃ k : Nat, k ≤ 4 ∧ i = .int .i64 k ∧ o = .int .i64 (Adr.ipTo L k) ∧ 0 ≤ Adr.ipTo L k ∧ w1 = wr) (fun _ i _ _ => 4 - (intOf i).toNat)
   case atStart => exact ⟨0, by omega, rfl, by rw [Adr.ipTo_zero], by rw [Adr.ipTo_zero]; decide, rfl⟩
   case round =>
    obtain ⟨k, hk, rfl, rfl, hn, rfl⟩ := hrel
    by_cases hk4 : k < 4
    · have hkL : k < L.length := by rw [H4.out]; exact hk4
      have hsuc := Adr.ipTo_succ L k hkL
      have hstop := Adr.ipTo_stop L (k + 1)
      have hbd := Adr.ipTo_bd L k (by omega) (by omega) hn
      have hget := strs_get hkL
      have hshort := hps L[k] (List.getElem_mem hkL)
      generalize L[k] = p at *
      generalize Adr.ipTo L k = n at *
      obtain ⟨ad, rfl, had, hcell⟩ := hR.cell hget
      clear hget
      have hlt := Adr.num_lt p
      have hge := Adr.num_ge p
      by_cases hin : 0 ≤ Adr.num p ∧ Adr.num p ≤ 255
      · have hst := Adr.step_yes (w := p) hn ((Adr.numIn_iff _ _ _).2 ⟨hin.1, hin.1, hin.2⟩)
        obtain ⟨hi1, hi2⟩ := hin
        rw [hst] at hsuc
        have Hsuc := Lib.hid hsuc
        clear hst hsuc hstop
        go_wp2_with fail
        refine (refNum_any ⟨p.toArray⟩ _ (by rw [size_mk]; unfold maxLen; omega)).mono ?_
        rintro e w3 ⟨rfl, rfl⟩
        rw [data_mk]
        go_wp2_with fail
        go_roundw
        case rel => exact ⟨k + 1, by omega, by go_num, by rw [Hsuc.out], by rw [Hsuc.out]; omega, by trivial⟩
        case measure => simp [intOf]; omega
      · have hst := Adr.step_no (n := n) (Adr.numIn_not (l := p) (least := 0) (most := 255) (by omega))
        rw [hst] at hsuc
        have HF := Lib.hid (show Adr.ip s.data.toList = -1 by
         have := hstop (by rw [hsuc]; decide)
         have h2 := Adr.ip_ge s.data.toList
         rw [HI.out, ← H4.out] at h2 ⊢; omega)
        have hcase : Adr.num p < 0 ∨ 255 < Adr.num p := by omega
        clear hst hsuc hin hstop
        rcases hcase with hcase | hcase
        all_goals
         go_wp2_with fail
         refine (refNum_any ⟨p.toArray⟩ _ (by rw [size_mk]; unfold maxLen; omega)).mono ?_
         rintro e w3 ⟨rfl, rfl⟩
         rw [data_mk]
         go_wp2_with fail
         go_ret
         exact ⟨by rw [HF.out]; rfl, hb1⟩
    · have hk4' : 4 ≤ k := by omega
      have HF := Lib.hid (show Adr.ip s.data.toList = Adr.ipTo L k by
       obtain rfl : k = 4 := by omega
       rw [HI.out])
      clear hk4
      go_wp2_with fail
      go_ret
      exact ⟨by rw [HF.out]; rfl, hb1⟩
 · have HF := Lib.hid (Adr.ip_not _ h4)
   have hne : (((Adr.parts 46 s.data.toList).length : Int) == 4) = false := by rw [beq_eq_false_iff_ne]; omega
   clear h4
   go_wp2_with fail
   go_ret
   exact ⟨by rw [HF.out]; rfl, hb1⟩
end Go.Proofs.YtjdknhalcpkeaaaGreatDoor
namespace Adr
open Go
theorem pre_parts (l : List UInt8) (h : (parts 47 l).length ≠ 2) : pre l = (-1, 0) := by
 unfold pre
 split
 · rename_i e; rw [e] at h; simp at h
 · rfl
theorem pre_two (l a b : List UInt8) (h : parts 47 l = [a, b]) : pre l = if good (ip a) (num b) then (ip a, num b) else (-1, 0) := by
 unfold pre; rw [h]
theorem good_no {n k : Int} (h : ¬ (0 ≤ n ∧ 0 ≤ k ∧ k ≤ 32 ∧ right n k = true)) : good n k = false := by
 rw [Bool.eq_false_iff]
 unfold good
 simp only [ne_eq, Bool.and_eq_true, decide_eq_true_eq]
 rintro ⟨⟨⟨a, b⟩, c⟩, d⟩
 exact h ⟨a, b, c, d⟩
theorem first_slash (l : List UInt8) (h : (47 : UInt8) ∈ l) : ∃ a r, l = a ++ 47 :: r ∧ (47 : UInt8) ∉ a := first_at 47 l h
theorem numIn_32 {b : List UInt8} (h : numIn b 0 32 = true) : 0 ≤ num b ∧ num b ≤ 32 := by
 have := (numIn_iff _ _ _).1 h; omega
theorem not_numIn_32 {b : List UInt8} (h : numIn b 0 32 = false) : ¬ (0 ≤ num b ∧ num b ≤ 32) := by
 intro a
 have := (numIn_iff b 0 32).2 ⟨a.1, a.1, a.2⟩
 rw [h] at this; cases this
end Adr
namespace Go.Proofs.YtjdknhalcpkeaaaGreatDoor
open Go.RowKit
def preRet (p : Int × Int) : Value := .tuple #[.int .i64 (max p.1 0), .int .i64 p.2, .bool (decide (0 ≤ p.1))]
theorem preRet_yes {p : Int × Int} (h : 0 ≤ p.1) : preRet p = .tuple #[.int .i64 p.1, .int .i64 p.2, .bool true] := by
 unfold preRet; rw [show max p.1 0 = p.1 by omega]; simp [h]
theorem preRet_no : preRet (-1, 0) = .tuple #[.int .i64 0, .int .i64 0, .bool false] := by
 unfold preRet; simp; decide
set_option maxHeartbeats 1000000 in
set_option maxRecDepth 100000 in
theorem pre_any (s : ByteArray) (w : World) (hE : Env w) (hs : s.size ≤ 100000000) :
 Calls Tryz.prog 170 #[.string s] w fun e w' => e = .returned (preRet (Adr.pre s.data.toList)) ∧ Below w.heap.size w w' := by
 by_cases hc : (47 : UInt8) ∈ s.data.toList
 · obtain ⟨a, r, hl, ha⟩ := Adr.first_slash _ hc
   have hp : Adr.pre s.data.toList = if Adr.good (Adr.ip a) (Adr.num r) then (Adr.ip a, Adr.num r) else (-1, 0) := by
    rw [hl, Adr.pre_hit a r ha]; unfold Adr.preCut; simp
   have hsz := size_data s
   have hln : a.length + (r.length + 1) = s.size := by rw [← hsz, hl]; simp
   have hla : a.length ≤ 100000000 := by omega
   have hlr : r.length ≤ 100000000 := by omega
   have HL := Lib.hid hl
   clear hl hsz hln hc
   have HN := Lib.hid (show ∀ W, Env W → Calls Tryz.prog 194 #[.string ⟨r.toArray⟩, .int .i64 0, .int .i64 32] W fun e w' => e = .returned (numRet ⟨r.toArray⟩ 0 32) ∧ Below W.heap.size W w' from
    fun W hW => num_any ⟨r.toArray⟩ 0 32 W hW (by rw [size_mk]; omega))
   have HI := Lib.hid (show ∀ W, Env W → Calls Tryz.prog 171 #[.string ⟨a.toArray⟩] W fun e w' => e = .returned (okRet (Adr.ip a)) ∧ Below W.heap.size W w' from
    fun W hW => by
     have := ip_any ⟨a.toArray⟩ W hW (by rw [size_mk]; omega)
     rw [data_mk] at this; exact this)
   by_cases hip : 0 ≤ Adr.ip a
   · have HIR := Lib.hid (okRet_yes hip)
     cases hin : Adr.numIn r 0 32 with
     | true =>
       have hb := Adr.numIn_32 hin
       have HNR := Lib.hid (numRet_yes (s := ⟨r.toArray⟩) (by rw [data_mk]; exact hin))
       cases hr : Adr.right (Adr.ip a) (Adr.num r) with
       | true =>
         rw [Adr.good_right hr, if_pos rfl] at hp
         have HF := Lib.hid (show preRet (Adr.pre s.data.toList) = .tuple #[.int .i64 (Adr.ip a), .int .i64 (Adr.num r), .bool true] by rw [hp]; exact preRet_yes hip)
         have HR := Lib.hid hr
         clear hp hr hin
         go_enter Tryz.func170, Tryz.ntmps170
         go_wp2_with fail
         refine (cut_hit s 47 a r _ hE hs HL.out ha).mono ?_
         rintro e w1 ⟨rfl, hb1⟩
         go_wp2_with fail
         refine (HI.out _ (hE.below hb1)).mono ?_
         rintro e w2 ⟨rfl, hb2⟩
         rw [HIR.out]
         go_wp2_with fail
         refine (HN.out _ ((hE.below hb1).below hb2)).mono ?_
         rintro e w3 ⟨rfl, hb3⟩
         rw [HNR.out]
         go_wp2_with fail
         refine (right_any _ _ _).mono ?_
         rintro e w4 ⟨rfl, rfl⟩
         rw [HR.out]
         go_wp2_with fail
         go_ret3
         exact ⟨by rw [HF.out]; simp, below_step (below_step hb1 hb2) hb3⟩
       | false =>
         rw [Adr.good_no (by rw [hr]; simp), if_neg (by simp)] at hp
         have HF := Lib.hid (show preRet (Adr.pre s.data.toList) = .tuple #[.int .i64 0, .int .i64 0, .bool false] by rw [hp]; exact preRet_no)
         have HR := Lib.hid hr
         clear hp hr hin
         go_enter Tryz.func170, Tryz.ntmps170
         go_wp2_with fail
         refine (cut_hit s 47 a r _ hE hs HL.out ha).mono ?_
         rintro e w1 ⟨rfl, hb1⟩
         go_wp2_with fail
         refine (HI.out _ (hE.below hb1)).mono ?_
         rintro e w2 ⟨rfl, hb2⟩
         rw [HIR.out]
         go_wp2_with fail
         refine (HN.out _ ((hE.below hb1).below hb2)).mono ?_
         rintro e w3 ⟨rfl, hb3⟩
         rw [HNR.out]
         go_wp2_with fail
         refine (right_any _ _ _).mono ?_
         rintro e w4 ⟨rfl, rfl⟩
         rw [HR.out]
         go_wp2_with fail
         go_ret3
         exact ⟨by rw [HF.out]; rfl, below_step (below_step hb1 hb2) hb3⟩
     | false =>
       have hnb := Adr.not_numIn_32 hin
       rw [Adr.good_no (fun h => hnb ⟨h.2.1, h.2.2.1⟩), if_neg (by simp)] at hp
       have HNR := Lib.hid (numRet_no (s := ⟨r.toArray⟩) (by rw [data_mk]; exact hin))
       have HF := Lib.hid (show preRet (Adr.pre s.data.toList) = .tuple #[.int .i64 0, .int .i64 0, .bool false] by rw [hp]; exact preRet_no)
       clear hp hin hnb
       go_enter Tryz.func170, Tryz.ntmps170
       go_wp2_with fail
       refine (cut_hit s 47 a r _ hE hs HL.out ha).mono ?_
       rintro e w1 ⟨rfl, hb1⟩
       go_wp2_with fail
       refine (HI.out _ (hE.below hb1)).mono ?_
       rintro e w2 ⟨rfl, hb2⟩
       rw [HIR.out]
       go_wp2_with fail
       refine (HN.out _ ((hE.below hb1).below hb2)).mono ?_
       rintro e w3 ⟨rfl, hb3⟩
       rw [HNR.out]
       go_wp2_with fail
       go_ret3
       exact ⟨by rw [HF.out]; rfl, below_step (below_step hb1 hb2) hb3⟩
   · have HIR := Lib.hid (okRet_no (n := Adr.ip a) (by omega))
     rw [Adr.good_no (fun h => hip h.1), if_neg (by simp)] at hp
     have HF := Lib.hid (show preRet (Adr.pre s.data.toList) = .tuple #[.int .i64 0, .int .i64 0, .bool false] by rw [hp]; exact preRet_no)
     clear hp
     have HNR : Hid (∃ x y, numRet ⟨r.toArray⟩ 0 32 = .tuple #[.int .i64 x, .bool y]) := Lib.hid ⟨_, _, rfl⟩
     obtain ⟨x, y, hxy⟩ := HNR.out
     have HNR' := Lib.hid hxy
     clear hxy HNR hip
     go_enter Tryz.func170, Tryz.ntmps170
     go_wp2_with fail
     refine (cut_hit s 47 a r _ hE hs HL.out ha).mono ?_
     rintro e w1 ⟨rfl, hb1⟩
     go_wp2_with fail
     refine (HI.out _ (hE.below hb1)).mono ?_
     rintro e w2 ⟨rfl, hb2⟩
     rw [HIR.out]
     go_wp2_with fail
     refine (HN.out _ ((hE.below hb1).below hb2)).mono ?_
     rintro e w3 ⟨rfl, hb3⟩
     rw [HNR'.out]
     go_wp2_with fail
     go_ret3
     exact ⟨by rw [HF.out]; rfl, below_step (below_step hb1 hb2) hb3⟩
 · have HF := Lib.hid (show preRet (Adr.pre s.data.toList) = .tuple #[.int .i64 0, .int .i64 0, .bool false] by rw [Adr.pre_miss _ hc]; exact preRet_no)
   obtain ⟨x, y, hxy⟩ : ∃ x y, okRet (Adr.ip s.data.toList) = .tuple #[.int .i64 x, .bool y] := ⟨_, _, rfl⟩
   have HIR := Lib.hid hxy
   obtain ⟨x', y', hxy'⟩ : ∃ x y, numRet ⟨#[]⟩ 0 32 = .tuple #[.int .i64 x, .bool y] := ⟨_, _, rfl⟩
   have HNR := Lib.hid hxy'
   clear hxy hxy'
   have HC := Lib.hid hc
   clear hc
   go_enter Tryz.func170, Tryz.ntmps170
   go_wp2_with fail
   refine (cut_no s 47 _ hE hs HC.out).mono ?_
   rintro e w1 ⟨rfl, hb1⟩
   go_wp2_with fail
   refine (ip_any s _ (hE.below hb1) hs).mono ?_
   rintro e w2 ⟨rfl, hb2⟩
   rw [HIR.out]
   go_wp2_with fail
   refine (num_any ⟨#[]⟩ 0 32 _ ((hE.below hb1).below hb2) (by decide)).mono ?_
   rintro e w3 ⟨rfl, hb3⟩
   rw [HNR.out]
   go_wp2_with fail
   go_ret3
   exact ⟨by rw [HF.out]; rfl, below_step (below_step hb1 hb2) hb3⟩
set_option maxHeartbeats 1000000 in
set_option maxRecDepth 100000 in
theorem refPre_any (s : ByteArray) (w : World) (hs : s.size ≤ 100000000) :
 Calls Tryz.prog 149 #[.string s] w fun e w' => e = .returned (.tuple #[.int .i64 (Adr.pre s.data.toList).1, .int .i64 (Adr.pre s.data.toList).2]) ∧ Below w.heap.size w w' := by
 go_enter Tryz.func149, Tryz.ntmps149
 go_wp2_with fail
 refine (parts_any s 47 _ hs).mono ?_
 rintro e w1 ⟨A, cap, rfl, hc1, hc2, hR, hb1⟩
 have hps := Adr.parts_short 47 s.data.toList
 rw [size_data] at hps
 by_cases h2 : (Adr.parts 47 s.data.toList).length = 2
 · have htwo := Adr.pre_two s.data.toList
   generalize Adr.parts 47 s.data.toList = L at *
   match L, h2 with
   | [a, b], _ =>
     have hp := htwo a b rfl
     have hla := hps a (by simp)
     have hlb := hps b (by simp)
     clear htwo hps h2
     obtain ⟨ad, hA, had, hcl⟩ := hR.2 (by simp)
     subst hA
     have hc0 := hcl 0 _ rfl
     have hc1' : w1.cell? ⟨ad.block, ad.off + 1, none⟩ = some (.string ⟨b.toArray⟩) := hcl 1 _ rfl
     have e0 : ad.add 0 = ad := rfl
     rw [e0] at hc0
     clear hcl hR e0
     have HP := Lib.hid hp
     clear hp
     have HI := Lib.hid (show ∀ W, Calls Tryz.prog 148 #[.string ⟨a.toArray⟩] W fun e w' => e = .returned (.int .i64 (Adr.ip a)) ∧ Below W.heap.size W w' from
      fun W => by
       have := refIp_any ⟨a.toArray⟩ W (by rw [size_mk]; omega)
       rw [data_mk] at this; exact this)
     have HN := Lib.hid (show ∀ W, Calls Tryz.prog 146 #[.string ⟨b.toArray⟩] W fun e w' => e = .returned (.int .i64 (Adr.num b)) ∧ W = w' from
      fun W => by
       have := refNum_any ⟨b.toArray⟩ W (by rw [size_mk]; unfold maxLen; omega)
       rw [data_mk] at this; exact this)
     have Hb1 := Lib.hid hb1
     have had1 : (⟨ad.block, ad.off + 1, none⟩ : Addr).block < w1.heap.size := had
     clear hb1 hla hlb
     go_wp2_with fail
     go_region_held3 (fun W => W.cell? ad = some (.string ⟨a.toArray⟩) ∧ W.cell? ⟨ad.block, ad.off + 1, none⟩ = some (.string ⟨b.toArray⟩)) (first | go_keep | exact ⟨(hbz.cell (p := ad) had).trans hc0, (hbz.cell (p := ⟨ad.block, ad.off + 1, none⟩) had1).trans hc1'⟩)
      (first | (go_at_call 148; refine (HI.out _).mono ?_; rintro e W ⟨rfl, hbz⟩) | (go_at_call 146; refine (HN.out _).mono ?_; rintro e W ⟨rfl, rfl⟩))
     have hbw : Below w1.heap.size w1 _ := (Below.refl w1.heap.size w1).drew.trans hbz
     have HB := Lib.hid (below_step Hb1.out hbw)
     clear hbw hbz hc0 hc1' had had1
     have fin : ∀ x y : Int, Adr.pre s.data.toList = (x, y) → Hid (Ending.returned (.tuple #[.int .i64 (Adr.pre s.data.toList).1, .int .i64 (Adr.pre s.data.toList).2]) = Ending.returned (.tuple #[.int .i64 x, .int .i64 y])) := fun x y e => Lib.hid (by rw [e])
     by_cases h0 : 0 ≤ Adr.ip a
     · by_cases h1 : 0 ≤ Adr.num b
       · by_cases h3 : Adr.num b ≤ 32
         · cases hr : Adr.right (Adr.ip a) (Adr.num b) with
           | true =>
             have HF := fin (Adr.ip a) (Adr.num b) (by rw [HP.out, Adr.good_right hr]; rfl)
             have HR := Lib.hid hr
             clear hr fin
             go_wp2_with (go_at_call 176; refine (refRight_any _ _ _).mono ?_; rintro e w4 ⟨rfl, rfl⟩; rw [HR.out])
             go_ret2
             exact ⟨HF.out.symm, HB.out⟩
           | false =>
             have HF := fin (-1) 0 (by rw [HP.out, Adr.good_no (by rw [hr]; simp)]; rfl)
             have HR := Lib.hid hr
             clear hr fin
             go_wp2_with (go_at_call 176; refine (refRight_any _ _ _).mono ?_; rintro e w4 ⟨rfl, rfl⟩; rw [HR.out])
             go_ret2
             exact ⟨HF.out.symm, HB.out⟩
         · have HF := fin (-1) 0 (by rw [HP.out, Adr.good_no (fun h => h3 h.2.2.1)]; rfl)
           have h3' : 32 < Adr.num b := by omega
           clear fin h3
           go_wp2_with fail
           go_ret2
           exact ⟨HF.out.symm, HB.out⟩
       · have HF := fin (-1) 0 (by rw [HP.out, Adr.good_no (fun h => h1 h.2.1)]; rfl)
         have h1' : Adr.num b < 0 := by omega
         clear fin h1
         go_wp2_with fail
         go_ret2
         exact ⟨HF.out.symm, HB.out⟩
     · have HF := fin (-1) 0 (by rw [HP.out, Adr.good_no (fun h => h0 h.1)]; rfl)
       have h0' : Adr.ip a < 0 := by omega
       clear fin h0
       go_wp2_with fail
       go_ret2
       exact ⟨HF.out.symm, HB.out⟩
 · have HF := Lib.hid (Adr.pre_parts _ h2)
   have hne : (((Adr.parts 47 s.data.toList).length : Int) == 2) = false := by rw [beq_eq_false_iff_ne]; omega
   clear h2
   go_wp2_with fail
   go_ret2
   exact ⟨by rw [HF.out]; rfl, hb1⟩
end Go.Proofs.YtjdknhalcpkeaaaGreatDoor
