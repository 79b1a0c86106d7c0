/- A walk: the reference's Known. Walks: refs, few, the reference's Same. Plain: what the faults of a tree look like; marks make no difference. Plain: a tree and one word more. Plain: a line more at a place; words for lines in memory. Plain: a path is added to a tree. -/
import Derived.BigQuiet
import Derived.BigCall
import Derived.Lib.QuietBelow
import Derived.Test.YtjdknhalcpkeaaaGreatDoorJ23
import Derived.Test.YtjdknhalcpkeaaaGreatDoorJ22
import Derived.Test.YtjdknhalcpkeaaaGreatDoorJ21
import Derived.Test.YtjdknhalcpkeaaaGreatDoorJ02
namespace Sch
open Go Go.Lib Adr Mtr Tre
theorem emp_iff (s : ByteArray) : s.toList.isEmpty = decide (s = ⟨#[]⟩) := by
 rw [Lib.toList_data, Bool.eq_iff_iff, List.isEmpty_iff, decide_eq_true_eq]
 constructor
 · intro h; exact ByteArray.ext (Array.toList_inj.1 (by rw [h]))
 · rintro rfl; rfl
theorem emp_list (s : ByteArray) : s.toList = [] ↔ s = ⟨#[]⟩ := by
 have := emp_iff s
 rw [Bool.eq_iff_iff, List.isEmpty_iff, decide_eq_true_eq] at this
 exact this
end Sch
namespace Go.Proofs.YtjdknhalcpkeaaaGreatDoor
open Go Go.RowKit Go.Sort Sch Adr Mtr Tre
set_option maxHeartbeats 2000000 in
set_option maxRecDepth 100000 in
theorem known1_any (A : Option Addr) (cc : Nat) (a : ByteArray) (w : World) (hR : Rd w 1 A 1 (sv [a])) :
 Calls Tryz.prog 67 #[.slice A 1 cc] w fun e w' => e = .returned (.int .i64 (knownB [a])) ∧ Below w.heap.size w w' := by
 obtain ⟨B, O, rfl, -, -, z0⟩ := hR.strAt (P := [a]) (i := 0) (by simp)
 simp only [List.getElem_cons_zero, Nat.add_zero] at z0
 have HS := Lib.hid (second_any a w)
 have HX : Hid (knownB [a] = if secondB a = ⟨#[]⟩ then 3 else 0) := rfl
 have h1 := emp_iff (secondB a)
 have h2 := emp_list (secondB a)
 generalize secondB a = s at *
 clear hR
 by_cases h : s = ⟨#[]⟩
 · have HK : Hid (knownB [a] = 3) := by show _ = _; rw [HX.out, if_pos h]
   have e1 : s.toList.isEmpty = true := by rw [h1, decide_eq_true h]
   have e2 : s.toList = [] := h2.2 h
   clear h1 h2 h HX
   go_enter Tryz.func67, Tryz.ntmps67
   go_wp2_with fail
   refine HS.out.mono ?_
   rintro e w2 ⟨rfl, hb2⟩
   go_wp2_with fail
   go_ret
   exact ⟨ret_int HK.out.symm, hb2⟩
 · have HK : Hid (knownB [a] = 0) := by show _ = _; rw [HX.out, if_neg h]
   have e1 : s.toList.isEmpty = false := by rw [h1, decide_eq_false h]
   have e2 : ¬ s.toList = [] := fun e => h (h2.1 e)
   clear h1 h2 h HX
   go_enter Tryz.func67, Tryz.ntmps67
   go_wp2_with fail
   refine HS.out.mono ?_
   rintro e w2 ⟨rfl, hb2⟩
   go_wp2_with fail
   go_ret
   exact ⟨ret_int HK.out.symm, hb2⟩
set_option maxHeartbeats 2000000 in
set_option maxRecDepth 100000 in
theorem known2_any (A : Option Addr) (cc : Nat) (a b : ByteArray) (w : World) (hR : Rd w 1 A 2 (sv [a, b])) (hb : b.size ≤ 100000000) :
 Calls Tryz.prog 67 #[.slice A 2 cc] w fun e w' => e = .returned (.int .i64 (knownB [a, b])) ∧ Below w.heap.size w w' := by
 obtain ⟨B, O, rfl, -, -, z0⟩ := hR.strAt (P := [a, b]) (i := 0) (by simp)
 obtain ⟨B', O', e', -, -, z1⟩ := hR.strAt (P := [a, b]) (i := 1) (by simp)
 injection e' with e'
 injection e' with ea eb
 subst ea eb
 simp only [List.getElem_cons_zero, List.getElem_cons_succ, Nat.add_zero] at z0 z1
 have HS := Lib.hid (second_any a w)
 have HT := Lib.hid (fun W => refType_any (secondB a) b W hb)
 have HX : Hid (knownB [a, b] = if typeB (secondB a) b = true then 0 else 2) := rfl
 generalize secondB a = s at *
 generalize typeB s b = tb at *
 have HZ := Lib.hid z1
 clear hR z1
 go_enter Tryz.func67, Tryz.ntmps67
 go_wp2_with fail
 refine HS.out.mono ?_
 rintro e w2 ⟨rfl, hb2⟩
 have z2 := (hb2.cell (p := ⟨B, O + 1, none⟩) (Lib.lt_of_cell HZ.out)).trans HZ.out
 go_wp2_with fail
 refine (HT.out w2).mono ?_
 rintro e w3 ⟨rfl, hb3⟩
 have hb4 := below_step hb2 hb3
 clear hb2 hb3 z2
 cases tb with
 | true =>
   have HK : Hid (knownB [a, b] = 0) := HX.out
   clear HX
   go_wp2_with fail
   go_ret
   exact ⟨ret_int HK.out.symm, hb4⟩
 | false =>
   have HK : Hid (knownB [a, b] = 2) := HX.out
   clear HX
   go_wp2_with fail
   go_ret
   exact ⟨ret_int HK.out.symm, hb4⟩
set_option maxHeartbeats 4000000 in
set_option maxRecDepth 100000 in
theorem known3_any (A : Option Addr) (cc n : Nat) (a b c : ByteArray) (l : List ByteArray) (w : World) (hR : Rd w 1 A n (sv (a :: b :: c :: l))) (hn : (a :: b :: c :: l).length = n) (hn2 : n ≤ 100000) (hps : Shw (a :: b :: c :: l)) :
 Calls Tryz.prog 67 #[.slice A n cc] w fun e w' => e = .returned (.int .i64 (knownB (a :: b :: c :: l))) ∧ Below w.heap.size w w' := by
 have hR' : Rd w 1 A (a :: b :: c :: l).length (sv (a :: b :: c :: l)) := by rw [hn]; exact hR
 have hl3 : l.length + 3 = n := hn
 obtain ⟨B, O, rfl, -, -, z0⟩ := hR'.strAt (i := 0) (by simp)
 obtain ⟨B', O', e', -, -, z1⟩ := hR'.strAt (i := 2) (by simp)
 injection e' with e'
 injection e' with ea eb
 subst ea eb
 simp only [List.getElem_cons_zero, List.getElem_cons_succ, Nat.add_zero] at z0 z1
 have HZ3 : Hid (∀ d l', l = d :: l' → w.cell? ⟨B, O + 3, none⟩ = some (.string d)) := fun d l' h => by
  subst h
  obtain ⟨B'', O'', e'', -, -, z3⟩ := hR'.strAt (i := 3) (by simp)
  injection e'' with e''
  injection e'' with ea eb
  subst ea eb
  simpa using z3
 have ha : a.size ≤ 100000000 := hps a (by simp)
 have hc : c.size ≤ 100000000 := hps c (by simp)
 have HD : Hid (∀ d l', l = d :: l' → d.size ≤ 100000000) := fun d l' h => hps d (by simp [h])
 have HS := Lib.hid (second_any a w)
 have HX3 : Hid (l = [] → knownB (a :: b :: c :: l) = if (thirdB a c).1 = ⟨#[]⟩ then 3 else 0) := fun h => by subst h; rfl
 have HX4 : Hid (∀ d, l = [d] → knownB (a :: b :: c :: l) = if typeB (thirdB a c).1 d = true then 0 else 2) := fun d h => by subst h; rfl
 have HX5 : Hid (∀ d e l', l = d :: e :: l' → knownB (a :: b :: c :: l) = 3) := fun d e l' h => by subst h; rfl
 have HTh := Lib.hid (fun W => third_any a c W ha hc)
 have HTy := Lib.hid (fun k d W (hd : d.size ≤ 100000000) => refType_any k d W hd)
 have HZ0 := Lib.hid z0
 have HZ1 := Lib.hid z1
 have HL3 := Lib.hid hl3
 have l1 : ¬ ((n : Int) = 1) := by omega
 have l2 : ¬ ((n : Int) = 2) := by omega
 have l0 : (0 : Int) < (n : Int) := by omega
 have l22 : (2 : Int) < (n : Int) := by omega
 have m1 : ((n : Int) == 1) = false := by simp; omega
 have m2 : ((n : Int) == 2) = false := by simp; omega
 generalize knownB (a :: b :: c :: l) = kb at *
 generalize secondB a = s at *
 clear hR hR' hps z1 hn hl3
 go_enter Tryz.func67, Tryz.ntmps67
 go_wp2_with fail
 refine HS.out.mono ?_
 rintro e w2 ⟨rfl, hb2⟩
 have HB2 := Lib.hid hb2
 have Z0 := fun m os => cell_regrown ((hb2.cell (p := ⟨B, O, none⟩) (Lib.lt_of_cell HZ0.out)).trans HZ0.out) m os
 have Z1 := fun m os => cell_regrown ((hb2.cell (p := ⟨B, O + 2, none⟩) (Lib.lt_of_cell HZ1.out)).trans HZ1.out) m os
 have hth : ∀ m os, Calls Tryz.prog 68 #[.string a, .string c] (grow (redrawn w2 m) os) fun e w' => e = .returned (thirdRet (thirdB a c)) ∧ ∃ p : Regrown, w' = grow (redrawn w2 p.d) p.os := fun m os => Calls.regrown_of (HTh.out _)
 unfold thirdRet at hth
 have hk1 := Lib.hid (emp_iff (thirdB a c).1)
 have hk2 := Lib.hid (emp_list (thirdB a c).1)
 generalize (thirdB a c).1 = kd at *
 generalize (thirdB a c).2.1 = t1 at *
 generalize (thirdB a c).2.2 = t2 at *
 clear HS HTh z0 hb2 HZ0 HZ1
 go_wp2_with fail
 refine wp_region_quiet_below (by kernel_rfl) (by kernel_rfl) ?_
 repeat (go_big_quiet_step ((go_at_call 68; exact hth _ _)))
 refine wpQuiet_nil ?_
 intro _ hw'
 obtain ⟨⟨dq, osq⟩, hw''⟩ := hw'
 subst hw''
 have HB3 := Lib.hid (below_step HB2.out (below_regrown w2 dq osq))
 clear hth Z0 Z1 HB2
 generalize grow (redrawn w2 dq) osq = w3 at *
 rcases l with _ | ⟨d, _ | ⟨e2, l2⟩⟩
 · have hn : n = 3 := HL3.out.symm
   subst hn
   have hx := HX3.out rfl
   by_cases h : kd = ⟨#[]⟩
   · have HK : Hid (kb = 3) := by show _ = _; rw [hx, if_pos h]
     have e1 : kd.toList.isEmpty = true := by rw [hk1.out, decide_eq_true h]
     have e2 : kd.toList = [] := hk2.out.2 h
     clear hx h hk1 hk2 HX3 HX4 HX5 HZ3 HD HL3
     go_wp2_with fail
     go_ret
     exact ⟨ret_int HK.out.symm, HB3.out⟩
   · have HK : Hid (kb = 0) := by show _ = _; rw [hx, if_neg h]
     have e1 : kd.toList.isEmpty = false := by rw [hk1.out, decide_eq_false h]
     have e2 : ¬ kd.toList = [] := fun e => h (hk2.out.1 e)
     clear hx h hk1 hk2 HX3 HX4 HX5 HZ3 HD HL3
     go_wp2_with fail
     go_ret
     exact ⟨ret_int HK.out.symm, HB3.out⟩
 · have hn : n = 4 := HL3.out.symm
   subst hn
   have hx := HX4.out d rfl
   have z3 := (HB3.out.cell (p := ⟨B, O + 3, none⟩) (Lib.lt_of_cell (HZ3.out d [] rfl))).trans (HZ3.out d [] rfl)
   have HT := Lib.hid (HTy.out kd d w3 (HD.out d [] rfl))
   generalize typeB kd d = tb at *
   clear hk1 hk2 HX3 HX4 HX5 HZ3 HD HL3 HTy
   cases tb with
   | true =>
     have HK : Hid (kb = 0) := hx
     clear hx
     go_wp2_with fail
     refine HT.out.mono ?_
     rintro e w4 ⟨rfl, hb4⟩
     go_wp2_with fail
     go_ret
     exact ⟨ret_int HK.out.symm, below_step HB3.out hb4⟩
   | false =>
     have HK : Hid (kb = 2) := hx
     clear hx
     go_wp2_with fail
     refine HT.out.mono ?_
     rintro e w4 ⟨rfl, hb4⟩
     go_wp2_with fail
     go_ret
     exact ⟨ret_int HK.out.symm, below_step HB3.out hb4⟩
 · have hn : l2.length + 5 = n := by have := HL3.out; simp at this; omega
   have HK : Hid (kb = 3) := HX5.out d e2 l2 rfl
   have l3 : ¬ ((n : Int) = 3) := by omega
   have m3 : ((n : Int) == 3) = false := by simp; omega
   have l4 : (4 : Int) < (n : Int) := by omega
   clear hk1 hk2 HX3 HX4 HX5 HZ3 HD HL3 HTy hn
   go_wp2_with fail
   go_ret
   exact ⟨ret_int HK.out.symm, HB3.out⟩
theorem known_any (A : Option Addr) (cc : Nat) (P : List ByteArray) (w : World) (hR : Rd w 1 A P.length (sv P)) (hp : 0 < P.length) (hpl : P.length ≤ 100000) (hps : Shw P) :
 Calls Tryz.prog 67 #[.slice A P.length cc] w fun e w' => e = .returned (.int .i64 (knownB P)) ∧ Below w.heap.size w w' := by
 rcases P with _ | ⟨a, _ | ⟨b, _ | ⟨c, l⟩⟩⟩
 · simp at hp
 · exact known1_any A cc a w hR
 · exact known2_any A cc a b w hR (hps b (by simp))
 · exact known3_any A cc _ a b c l w hR rfl hpl hps
end Go.Proofs.YtjdknhalcpkeaaaGreatDoor
namespace Go.Proofs.YtjdknhalcpkeaaaGreatDoor
open Go Go.RowKit Go.Sort Sch Adr Mtr Tre
theorem info_rfault : (Tryz.prog.info? 109).map (fun i => (i.zero, i.size, i.bytes)) = some (some (.agg #[.slice none 0 0, .int .i64 0]), 2, 32) := by kernel_rfl
end Go.Proofs.YtjdknhalcpkeaaaGreatDoor
namespace Sch
open Go Go.Lib Adr Mtr Tre
end Sch
namespace Sch
open Go Go.Lib Adr Mtr Tre
def atOf (f : Nat → Bool) (d : Nat) : List Nat → Nat
 | [] => d
 | k :: l => if f k then k else atOf f d l
theorem atOf_low {f : Nat → Bool} {d : Nat} : ∀ {K : List Nat}, K.Pairwise (· < ·) → ∀ k ∈ K, k < atOf f d K → f k = false
 | [], _, k, h, _ => by cases h
 | q :: K, hp, k, h, hl => by
   unfold atOf at hl
   obtain ⟨h1, h2⟩ := List.pairwise_cons.1 hp
   cases hq : f q with
   | true =>
     rw [hq, if_pos rfl] at hl
     rcases List.mem_cons.1 h with e | e
     · omega
     · have := h1 k e; omega
   | false =>
     rw [hq, if_neg (by simp)] at hl
     rcases List.mem_cons.1 h with e | e
     · rw [e]; exact hq
     · exact atOf_low h2 k e hl
theorem atOf_at {f : Nat → Bool} {d : Nat} : ∀ (K : List Nat), atOf f d K = d ∨ (atOf f d K ∈ K ∧ f (atOf f d K) = true)
 | [] => .inl rfl
 | q :: K => by
   unfold atOf
   cases hq : f q with
   | true => right; simp [hq]
   | false =>
     rw [if_neg (by simp)]
     rcases atOf_at K with h | ⟨h1, h2⟩
     · exact .inl h
     · exact .inr ⟨List.mem_cons_of_mem _ h1, h2⟩
theorem atOf_drop {f : Nat → Bool} {d : Nat} {K : List Nat} {j : Nat} (h : j < K.length) : atOf f d (K.drop j) = if f K[j] then K[j] else atOf f d (K.drop (j + 1)) := by
 rw [List.drop_eq_getElem_cons h]; rfl
def gtAt (L : List Line) (s : ByteArray) (k : Nat) : Bool := Op.bytesLess s.toList (wordAt L k).toList
def atW (L : List Line) (s : ByteArray) : Nat := atOf (gtAt L s) L.length (kidsTop L)
theorem top_sorted (L : List Line) : (kidsTop L).Pairwise (· < ·) := by
 unfold kidsTop kidsTo
 exact List.Pairwise.filter _ List.pairwise_lt_range
theorem atW_le (L : List Line) (s : ByteArray) : atW L s ≤ L.length := by
 rcases atOf_at (f := gtAt L s) (d := L.length) (kidsTop L) with h | ⟨h, -⟩
 · exact Nat.le_of_eq h
 · have := (mem_kidsTo.1 h).1
   unfold atW; omega
section
variable {L : List Line} (hr : rightB L = true) {s : ByteArray} (hn : ¬ [s] ∈ paths L)
include hr
theorem head_top {i : Nat} (hi : i < L.length) : ∃ m a t, m ≤ i ∧ m ∈ kidsTop L ∧ wordAt L m = a ∧ pa L m = [a] ∧ pa L i = a :: t := by
 obtain ⟨-, hd, -⟩ := right_parts hr
 have hl := pa_len hd hi
 obtain ⟨m, hm, e⟩ := head_at hd hi (q := 1) (by omega) (by omega)
 cases hp : pa L i with
 | nil => rw [hp] at hl; simp at hl
 | cons a t =>
   rw [hp] at e
   have hlm := pa_len hd (show m < L.length by omega)
   have e : pa L m = [a] := e
   have hdm := dep_nn hd (show m < L.length by omega)
   rw [e] at hlm
   simp only [List.length_singleton] at hlm
   have h0 : depthAt L m = 0 := by omega
   have hw := pa_last hr (show m < L.length by omega)
   rw [e] at hw
   exact ⟨m, a, t, hm, mem_kidsTo.2 ⟨by omega, by omega, h0⟩, by rw [← hw]; rfl, e, rfl⟩
include hn
theorem low_side {i : Nat} (hi : i < L.length) (h : i < atW L s) : pLt (pa L i) [s] := by
 obtain ⟨m, a, t, h1, h2, h3, h4, h5⟩ := head_top hr hi
 have hf := atOf_low (f := gtAt L s) (d := L.length) (top_sorted L) m h2 (by unfold atW at h; omega)
 unfold gtAt at hf
 rw [h3, Proofs.bytesLess_eq, decide_eq_false_iff_not] at hf
 have hne : a ≠ s := fun e => hn (mem_paths.2 ⟨m, by omega, by rw [h4, e]⟩)
 rw [h5]
 refine pLt_head ?_
 rcases List.le_iff_lt_or_eq.1 (List.not_lt.1 hf) with h | h
 · exact h
 · exact absurd (bytes_inj h) hne
omit hn in
theorem high_side {i : Nat} (hi : i < L.length) (h : atW L s ≤ i) : pLt [s] (pa L i) := by
 rcases atOf_at (f := gtAt L s) (d := L.length) (kidsTop L) with e | ⟨h1, h2⟩
 · unfold atW at h; omega
 · have hk := mem_kidsTo.1 h1
   have hd := (right_parts hr).2.1
   have hw := pa_last hr hk.1
   have hlm := pa_len hd hk.1
   rw [hk.2.2] at hlm
   obtain ⟨a, ha⟩ := List.length_eq_one_iff.1 hlm
   change Op.bytesLess s.toList (wordAt L (atOf (gtAt L s) L.length (kidsTop L))).toList = true at h2
   rw [Proofs.bytesLess_eq, decide_eq_true_eq, ← hw, ha] at h2
   have h3 : pLt [s] (pa L (atOf (gtAt L s) L.length (kidsTop L))) := by rw [ha]; exact pLt_head h2
   rcases Nat.lt_or_ge (atOf (gtAt L s) L.length (kidsTop L)) i with g | g
   · exact pLt_trans h3 (pa_up hr g hi)
   · have : atOf (gtAt L s) L.length (kidsTop L) = i := by unfold atW at h; omega
     rw [this] at h3; exact h3
end
end Sch
namespace Lns
open Go Tre
def insB (L : List Line) (k : Nat) (l : Line) : List Line := L.take k ++ (l :: L.drop k)
theorem insB_len {L : List Line} {k : Nat} (l : Line) : (insB L k l).length = L.length + 1 := by
 unfold insB
 rw [List.length_append, List.length_cons, List.length_take, List.length_drop]; omega
end Lns
namespace Go.Proofs.YtjdknhalcpkeaaaGreatDoor
open Go Go.RowKit Tre Lns
theorem info_pl : (Tryz.prog.info? 52).map (fun i => (i.zero, i.size, i.bytes)) = some (some (.agg #[.int .i64 0, .string ⟨#[]⟩, .int .i64 0]), 3, 32) := by kernel_rfl
theorem lines_c (L : List Line) : ∀ u ∈ lines L, u.oneCell' = true := by
 intro u hu
 unfold lines at hu
 obtain ⟨l, -, hl⟩ := List.mem_flatMap.1 hu
 exact cells_one l u hl
end Go.Proofs.YtjdknhalcpkeaaaGreatDoor
namespace Lns
open Go Go.Lib Adr Mtr Tre Sch
def spotB (L : List Line) (U : List ByteArray) (s : ByteArray) : Nat :=
 match findB L U with
 | some a => atOf (gtAt L s) (endB L a) (kidsB L a)
 | none => atOf (gtAt L s) L.length (kidsTop L)
def wAt (P : List ByteArray) (d : Nat) : ByteArray := P.getD d ⟨#[]⟩
def addGo (P : List ByteArray) : Nat → Nat → List Line → Option (List Line)
 | 0, _, out => some out
 | f + 1, d, out =>
   if (findB out (P.take (d + 1))).isSome then addGo P f (d + 1) out
   else if 200 ≤ out.length then none
   else addGo P f (d + 1) (insB out (spotB out (P.take d) (wAt P d)) ⟨d, wAt P d, 0⟩)
def soundP (P : List ByteArray) : Bool := decide (0 < P.length) && P.all fun s => decide (s.size ≤ 40)
def addB (L : List Line) (P : List ByteArray) : List Line × Int :=
 if rightB L = false ∨ soundP P = false then (L, 1)
 else if 16 < P.length then (L, 6)
 else match addGo P P.length 0 L with
  | some M => (M, 0)
  | none => (L, 5)
theorem beside : ∀ {U b : List ByteArray} (t : List ByteArray), pLt U b → (∀ s, b ≠ U ++ s) → pLt (U ++ t) b
 | [], b, _, _, h => absurd rfl (h b)
 | x :: U, [], _, h, _ => absurd h (pLt_nil_not _)
 | x :: U, y :: b, t, h, hn => by
   rw [List.cons_append, pLt_cons_iff]
   rcases pLt_cons_iff.1 h with h1 | ⟨rfl, h1⟩
   · exact .inl h1
   · exact .inr ⟨rfl, beside t h1 fun s e => hn s (by rw [e, List.cons_append])⟩
theorem kids_sorted (L : List Line) (i : Nat) : (kidsB L i).Pairwise (· < ·) := by
 unfold kidsB kidsTo
 exact List.Pairwise.filter _ List.pairwise_lt_range
section
variable {L : List Line} (hr : rightB L = true) {s : ByteArray}
include hr
omit hr in
theorem spot_none (U : List ByteArray) (h : U = []) : spotB L U s = atW L s := by
 subst h
 unfold spotB
 have : findB L [] = none := by unfold findB; rw [if_pos (.inl rfl)]
 rw [this]; rfl
theorem spot_some {a : Nat} (ha : a < L.length) : spotB L (pa L a) s = atOf (gtAt L s) (endB L a) (kidsB L a) := by
 unfold spotB; rw [findB_at hr ha]
theorem spot_le {a : Nat} (ha : a < L.length) : spotB L (pa L a) s ≤ endB L a := by
 rw [spot_some hr ha]
 rcases atOf_at (f := gtAt L s) (d := endB L a) (kidsB L a) with e | ⟨h1, -⟩
 · omega
 · have := (mem_kidsTo.1 h1).1; omega
theorem spot_len {U : List ByteArray} (hU : U = [] ∨ U ∈ paths L) : spotB L U s ≤ L.length := by
 rcases hU with hU | hU
 · rw [spot_none U hU]; exact atW_le L s
 · obtain ⟨a, ha, rfl⟩ := mem_paths.1 hU
   have := spot_le hr (s := s) ha
   have := endB_le L a ha
   omega
theorem spot_low {U : List ByteArray} (hU : U = [] ∨ U ∈ paths L) (hn : ¬ U ++ [s] ∈ paths L) {i : Nat} (hi : i < L.length) (h : i < spotB L U s) : pLt (pa L i) (U ++ [s]) := by
 rcases hU with hU | hU
 · rw [spot_none U hU] at h
   subst hU
   exact low_side hr hn hi h
 · obtain ⟨a, ha, rfl⟩ := mem_paths.1 hU
   have hle := spot_le hr (s := s) ha
   rw [spot_some hr ha] at h hle
   by_cases h1 : i ≤ a
   · have hp : pLt (pa L a) (pa L a ++ [s]) := pLt_push _ _ _
     rcases Nat.lt_or_ge i a with g | g
     · exact pLt_trans (pa_up hr g ha) hp
     · obtain rfl : i = a := by omega
       exact hp
   · obtain ⟨t, ht⟩ := (pre_iff hr ha hi).2 ⟨by omega, by omega⟩
     cases t with
     | nil => rw [List.append_nil] at ht; exact absurd (pa_inj hr hi ha ht) (by omega)
     | cons x t =>
       have hd := (right_parts hr).2.1
       obtain ⟨m, hm, e⟩ := head_at hd hi (q := (pa L a).length + 1) (by omega) (by rw [ht]; simp)
       have e2 : pa L m = pa L a ++ [x] := by
        rw [e, ht, List.take_append, List.take_of_length_le (by omega)]; simp
       have hml : m < L.length := by omega
       have hk := (kid_iff hr ha hml).1 (isKid_iff.2 ⟨x, e2⟩)
       have hf := atOf_low (f := gtAt L s) (d := endB L a) (kids_sorted L a) m (mem_kidsTo.2 ⟨hk.2.1, hk.1, hk.2.2⟩) (by omega)
       have hw := pa_last hr hml
       rw [e2, List.getLastD_eq_getLast?, List.getLast?_append] at hw
       have hw : x = wordAt L m := hw
       unfold gtAt at hf
       rw [← hw, Proofs.bytesLess_eq, decide_eq_false_iff_not] at hf
       have hne : x ≠ s := fun ee => hn (mem_paths.2 ⟨m, hml, by rw [e2, ee]⟩)
       rw [ht]
       refine pLt_front.2 (pLt_head ?_)
       rcases List.le_iff_lt_or_eq.1 (List.not_lt.1 hf) with h | h
       · exact h
       · exact absurd (bytes_inj h) hne
theorem spot_high {U : List ByteArray} (hU : U = [] ∨ U ∈ paths L) {i : Nat} (hi : i < L.length) (h : spotB L U s ≤ i) : pLt (U ++ [s]) (pa L i) := by
 rcases hU with hU | hU
 · rw [spot_none U hU] at h
   subst hU
   exact high_side hr hi h
 · obtain ⟨a, ha, rfl⟩ := mem_paths.1 hU
   rw [spot_some hr ha] at h
   rcases atOf_at (f := gtAt L s) (d := endB L a) (kidsB L a) with e | ⟨h1, h2⟩
   · rw [e] at h
     have := endB_le L a ha
     exact beside _ (pa_up hr (by omega) hi) fun t ht => by
      have := (pre_iff hr ha hi).1 ⟨t, ht⟩
      omega
   · obtain ⟨m, hm⟩ : ∃ m, atOf (gtAt L s) (endB L a) (kidsB L a) = m := ⟨_, rfl⟩
     rw [hm] at h h1 h2
     have hk := mem_kidsTo.1 h1
     have hml : m < L.length := by omega
     obtain ⟨x, e2⟩ := isKid_iff.1 ((kid_iff hr ha hml).2 ⟨hk.2.1, hk.1, hk.2.2⟩)
     have hw := pa_last hr hml
     rw [e2, List.getLastD_eq_getLast?, List.getLast?_append] at hw
     have hw : x = wordAt L m := hw
     unfold gtAt at h2
     rw [← hw, Proofs.bytesLess_eq, decide_eq_true_eq] at h2
     have h3 : pLt (pa L a ++ [s]) (pa L m) := by rw [e2]; exact pLt_front.2 (pLt_head h2)
     rcases Nat.lt_or_ge m i with g | g
     · exact pLt_trans h3 (pa_up hr g hi)
     · obtain rfl : m = i := by omega
       exact h3
theorem ins_right {U : List ByteArray} (hU : U = [] ∨ U ∈ paths L) (hn : ¬ U ++ [s] ∈ paths L) (hl : L.length < 200) (hs : s.size ≤ 40) (hd : U.length < 16) :
 rightB (insB L (spotB L U s) ⟨(U.length : Nat), s, 0⟩) = true ∧ ∀ q, q ∈ paths (insB L (spotB L U s) ⟨(U.length : Nat), s, 0⟩) ↔ q = U ++ [s] ∨ q ∈ paths L := by
 obtain ⟨ht, hf⟩ := tree_of hr
 have hle := spot_len hr (s := s) hU
 have hside : ∀ q, (q ∈ (paths L).take (spotB L U s) → pLt q (U ++ [s])) ∧ (q ∈ (paths L).drop (spotB L U s) → pLt (U ++ [s]) q) := fun q => by
  constructor
  · intro h
    obtain ⟨i, hi, e⟩ := List.getElem_of_mem h
    rw [List.length_take, paths_length] at hi
    rw [List.getElem_take] at e
    rw [← e, ← pa_lt (by omega)]
    exact spot_low hr hU hn (by omega) (by omega)
  · intro h
    obtain ⟨i, hi, e⟩ := List.getElem_of_mem h
    rw [List.length_drop, paths_length] at hi
    rw [List.getElem_drop] at e
    rw [← e, ← pa_lt (by omega)]
    exact spot_high hr hU (by omega) (by omega)
 have hmem : ∀ q, q ∈ (paths L).take (spotB L U s) ++ ((U ++ [s]) :: (paths L).drop (spotB L U s)) ↔ q = U ++ [s] ∨ q ∈ paths L := fun q => by
  rw [List.mem_append, List.mem_cons]
  conv => rhs; rhs; rw [← List.take_append_drop (spotB L U s) (paths L), List.mem_append]
  constructor
  · rintro (h | h | h)
    · exact .inr (.inl h)
    · exact .inl h
    · exact .inr (.inr h)
  · rintro (h | h | h)
    · exact .inr (.inl h)
    · exact .inl h
    · exact .inr (.inr h)
 have hres : rightB (insB L (spotB L U s) ⟨(U.length : Nat), s, 0⟩) = true ∧ paths (insB L (spotB L U s) ⟨(U.length : Nat), s, 0⟩) = (paths L).take (spotB L U s) ++ ((U ++ [s]) :: (paths L).drop (spotB L U s)) := by
  refine of_tree (fitsL_app (fitsL_take _ hf) ⟨⟨?_, ?_, ?_⟩, fitsL_drop _ hf⟩) ⟨?_, fun q hq => ?_⟩ ?_
  · unfold soundB
    simp only [Bool.and_eq_true, decide_eq_true_eq]
    omega
  · simp
  · rw [List.getLastD_eq_getLast?, List.getLast?_append]; rfl
  · rw [List.pairwise_append]
    refine ⟨List.Pairwise.sublist (List.take_sublist _ _) ht.1, List.pairwise_cons.2 ⟨fun q h => (hside q).2 h, List.Pairwise.sublist (List.drop_sublist _ _) ht.1⟩, fun a ha b hb => ?_⟩
    rcases List.mem_cons.1 hb with e | e
    · rw [e]; exact (hside a).1 ha
    · exact pLt_trans ((hside a).1 ha) ((hside b).2 e)
  · rcases (hmem q).1 hq with e | e
    · rw [e]
      refine ⟨by simp, ?_⟩
      rw [List.dropLast_concat]
      rcases hU with hU | hU
      · exact .inr hU
      · exact .inl ((hmem _).2 (.inr hU))
    · obtain ⟨h1, h2⟩ := ht.2 q e
      exact ⟨h1, h2.imp (fun h => (hmem _).2 (.inr h)) id⟩
  · rw [insB_len]; omega
 exact ⟨hres.1, fun q => by rw [hres.2]; exact hmem q⟩
end
theorem take_push {P : List ByteArray} {d : Nat} (h : d < P.length) : P.take (d + 1) = P.take d ++ [wAt P d] := by
 rw [List.take_succ_eq_append_getElem h]
 unfold wAt
 rw [List.getD_eq_getElem?_getD, List.getElem?_eq_getElem h]; rfl
theorem wAt_size {P : List ByteArray} (hP : soundP P = true) {d : Nat} (h : d < P.length) : (wAt P d).size ≤ 40 := by
 unfold soundP at hP
 rw [Bool.and_eq_true, List.all_eq_true] at hP
 have := hP.2 P[d] (List.getElem_mem h)
 unfold wAt
 rw [List.getD_eq_getElem?_getD, List.getElem?_eq_getElem h]
 simpa using this
theorem add_step {P : List ByteArray} (hP : soundP P = true) (h16 : P.length ≤ 16) {out : List Line} (hr : rightB out = true) {d : Nat} (hd : d < P.length) (hU : d = 0 ∨ P.take d ∈ paths out) (hf : findB out (P.take (d + 1)) = none) (hl : out.length < 200) :
 rightB (insB out (spotB out (P.take d) (wAt P d)) ⟨d, wAt P d, 0⟩) = true ∧ spotB out (P.take d) (wAt P d) ≤ out.length ∧ ∀ q, q ∈ paths (insB out (spotB out (P.take d) (wAt P d)) ⟨d, wAt P d, 0⟩) ↔ q = P.take (d + 1) ∨ q ∈ paths out := by
 have hU2 : P.take d = [] ∨ P.take d ∈ paths out := hU.imp (fun e => by rw [e]; rfl) id
 have hn : ¬ P.take d ++ [wAt P d] ∈ paths out := by
  rw [← take_push hd]
  intro h
  have := find_mem hr |>.2 h
  rw [hf] at this; cases this
 have hl2 : (P.take d).length = d := by rw [List.length_take]; omega
 have := ins_right hr hU2 hn hl (wAt_size hP hd) (by omega)
 rw [hl2] at this
 exact ⟨this.1, spot_len hr hU2, fun q => by rw [this.2 q, take_push hd]⟩
theorem addGo_spec {P : List ByteArray} (hP : soundP P = true) (h16 : P.length ≤ 16) : ∀ (f d : Nat) (out M : List Line), d + f = P.length → rightB out = true → (d = 0 ∨ P.take d ∈ paths out) → addGo P f d out = some M →
 rightB M = true ∧ ∀ q, q ∈ paths M ↔ q ∈ paths out ∨ ∃ j, d < j ∧ j ≤ P.length ∧ q = P.take j
 | 0, d, out, M, hd, hr, _, h => by
   unfold addGo at h
   injection h with h
   subst h
   exact ⟨hr, fun q => ⟨.inl, fun hq => hq.elim id fun ⟨j, h1, h2, _⟩ => absurd h1 (by omega)⟩⟩
 | f + 1, d, out, M, hd, hr, hU, h => by
   unfold addGo at h
   cases hf : findB out (P.take (d + 1)) with
   | some k =>
     rw [hf, if_pos (show (some k).isSome = true from rfl)] at h
     have hin : P.take (d + 1) ∈ paths out := (find_mem hr).1 (by rw [hf]; rfl)
     obtain ⟨h1, h2⟩ := addGo_spec hP h16 f (d + 1) out M (by omega) hr (.inr hin) h
     refine ⟨h1, fun q => ?_⟩
     rw [h2]
     constructor
     · rintro (h | ⟨j, j1, j2, e⟩)
       · exact .inl h
       · exact .inr ⟨j, by omega, j2, e⟩
     · rintro (h | ⟨j, j1, j2, e⟩)
       · exact .inl h
       · by_cases hj : j = d + 1
         · subst hj; rw [e]; exact .inl hin
         · exact .inr ⟨j, by omega, j2, e⟩
   | none =>
     rw [hf, if_neg (show ¬ (none : Option Nat).isSome = true by simp)] at h
     by_cases hl : 200 ≤ out.length
     · rw [if_pos hl] at h; cases h
     · rw [if_neg hl] at h
       obtain ⟨g1, -, g2⟩ := add_step hP h16 hr (by omega) hU hf (by omega)
       obtain ⟨h1, h2⟩ := addGo_spec hP h16 f (d + 1) _ M (by omega) g1 (.inr ((g2 _).2 (.inl rfl))) h
       refine ⟨h1, fun q => ?_⟩
       rw [h2, g2]
       constructor
       · rintro ((h | h) | ⟨j, j1, j2, e⟩)
         · exact .inr ⟨d + 1, by omega, by omega, h⟩
         · exact .inl h
         · exact .inr ⟨j, by omega, j2, e⟩
       · rintro (h | ⟨j, j1, j2, e⟩)
         · exact .inl (.inr h)
         · by_cases hj : j = d + 1
           · subst hj; rw [e]; exact .inl (.inl rfl)
           · exact .inr ⟨j, by omega, j2, e⟩
end Lns
