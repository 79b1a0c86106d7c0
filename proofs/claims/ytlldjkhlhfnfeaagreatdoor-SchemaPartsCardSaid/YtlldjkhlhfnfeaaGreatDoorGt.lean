/- Plain: a tree's parts, and their faults. Walks: slices.Clone of lines, tree.Sub. -/
import Derived.StillTailTactics
import Derived.Test.YtlldjkhlhfnfeaaGreatDoorGs
import Derived.Test.YtlldjkhlhfnfeaaGreatDoorGp
namespace Sch
open Go Go.Lib Adr Mtr Tre
/-- The part at a place. -/
def subL (L : List Line) (i : Nat) : List Line := ((L.drop i).take (endB L i - i)).map fun l => ⟨l.depth - depthAt L i, l.word, l.mark⟩
/-- Faults but for what a statement means. -/
def nf (f : Fault) : Bool := !(decide (f.2 = 7))
def partF (K P : List ByteArray) : List Fault :=
  if aliveP P then (match ruleOf P with | none => [(P, unknownOf P)] | some r => oneS K r P ++ missS K P) else []
theorem unknown_not7 (P : List ByteArray) : unknownOf P ≠ 7 := by
  unfold unknownOf
  split <;> decide
theorem one_not7 (K : List ByteArray) (r : Rule) (P : List ByteArray) : (oneS K r P).filter nf = oneS K r P := by
  unfold oneS
  split
  · rfl
  · split <;> rfl
theorem miss_not7 (K P : List ByteArray) : (missS K P).filter nf = missS K P := by
  rw [List.filter_eq_self]
  intro f hf
  unfold missS at hf
  obtain ⟨s, -, rfl⟩ := List.mem_map.1 hf
  rfl
theorem part_faults (S : List (List ByteArray)) (P : List ByteArray) : (faultsS S P).filter nf = partF (kw S P) P := by
  unfold faultsS partF lineS
  split
  · cases hr : ruleOf P with
    | none =>
      show List.filter nf [(P, unknownOf P)] = [(P, unknownOf P)]
      rw [List.filter_cons_of_pos (by unfold nf; simpa using unknown_not7 P)]; rfl
    | some r =>
      show List.filter nf (oneS (kw S P) r P ++ missS (kw S P) P ++ (if meantS S r.path P = true then [(P, 7)] else [])) = oneS (kw S P) r P ++ missS (kw S P) P
      rw [List.filter_append, List.filter_append, one_not7, miss_not7]
      have : List.filter nf (if meantS S r.path P = true then [(P, 7)] else []) = [] := by split <;> rfl
      rw [this, List.append_nil]
  · rfl
theorem flat_filter {α β : Type} (f : α → List β) (p : β → Bool) (l : List α) : (l.flatMap f).filter p = l.flatMap fun x => (f x).filter p := by
  induction l with
  | nil => rfl
  | cons x l ih => rw [List.flatMap_cons, List.flatMap_cons, List.filter_append, ih]
section
variable {L : List Line} (hr : rightB L = true)
include hr
theorem whole_parts : (checkB L).filter nf = (paths L).flatMap fun P => partF (kw (paths L) P) P := by
  rw [check_paths hr]
  unfold checkS
  rw [flat_filter]
  exact flatMap_same fun P _ => part_faults _ P
omit hr in
theorem sub_top {i : Nat} (h0 : depthAt L i = 0) : subL L i = (L.drop i).take (endB L i - i) := by
  unfold subL
  rw [h0]
  conv => rhs; rw [← List.map_id ((L.drop i).take (endB L i - i))]
  refine List.map_congr_left fun l _ => ?_
  cases l
  simp
omit hr in
theorem mem_part {i : Nat} (hi : i < L.length) {q : List ByteArray} : q ∈ ((paths L).drop i).take (endB L i - i) ↔ ∃ k, i ≤ k ∧ k < endB L i ∧ pa L k = q := by
  have he := endB_le L i hi
  constructor
  · intro h
    obtain ⟨j, hj, e⟩ := List.getElem_of_mem h
    rw [List.length_take, List.length_drop, paths_length] at hj
    rw [List.getElem_take, List.getElem_drop] at e
    exact ⟨i + j, by omega, by omega, by rw [pa_lt (by omega)]; exact e⟩
  · rintro ⟨k, h1, h2, rfl⟩
    rw [List.mem_iff_getElem]
    refine ⟨k - i, by rw [List.length_take, List.length_drop, paths_length]; omega, ?_⟩
    rw [List.getElem_take, List.getElem_drop, pa_lt (by omega)]
    congr 1; omega
theorem top_one {i : Nat} (hi : i < L.length) (h0 : depthAt L i = 0) : ∃ a, pa L i = [a] := by
  have := pa_len (right_parts hr).2.1 hi
  rw [h0] at this
  exact List.length_eq_one_iff.1 this
theorem sub_right {i : Nat} (hi : i < L.length) (h0 : depthAt L i = 0) : rightB (subL L i) = true ∧ paths (subL L i) = ((paths L).drop i).take (endB L i - i) := by
  obtain ⟨ht, hf⟩ := tree_of hr
  have hl := (right_parts hr).1
  obtain ⟨a, ha⟩ := top_one hr hi h0
  rw [sub_top h0]
  refine of_tree (fitsL_take _ (fitsL_drop _ hf)) ⟨List.Pairwise.sublist ((List.take_sublist _ _).trans (List.drop_sublist _ _)) ht.1, fun q hq => ?_⟩ (by rw [List.length_take, List.length_drop]; omega)
  obtain ⟨k, h1, h2, rfl⟩ := (mem_part hi).1 hq
  have he := endB_le L i hi
  have hk : k < L.length := by omega
  obtain ⟨hne, hd⟩ := ht.2 (pa L k) (mem_paths.2 ⟨k, hk, rfl⟩)
  refine ⟨hne, ?_⟩
  rcases hd with hd | hd
  · left
    obtain ⟨s, hs⟩ := (pre_iff hr hi hk).2 ⟨h1, h2⟩
    obtain ⟨m, hm, e⟩ := mem_paths.1 hd
    rw [ha] at hs
    cases s with
    | nil =>
      rw [hs] at e
      have := pa_len (right_parts hr).2.1 hm
      rw [e] at this; simp at this
    | cons x s =>
      have : ∃ s, pa L m = pa L i ++ s := ⟨(x :: s).dropLast, by rw [e, hs, ha]; simp⟩
      obtain ⟨g1, g2⟩ := (pre_iff hr hi hm).1 this
      exact (mem_part hi).2 ⟨m, g1, g2, e⟩
  · exact .inr hd
theorem kw_part {i k : Nat} (hi : i < L.length) (h1 : i ≤ k) (h2 : k < endB L i) : kw (((paths L).drop i).take (endB L i - i)) (pa L k) = kw (paths L) (pa L k) := by
  have he := endB_le L i hi
  have hk : k < L.length := by omega
  obtain ⟨s, hs⟩ := (pre_iff hr hi hk).2 ⟨h1, h2⟩
  have key : ∀ m, m < L.length → isKid (pa L k) (pa L m) = true → i ≤ m ∧ m < endB L i := fun m hm h => by
    obtain ⟨x, e⟩ := isKid_iff.1 h
    exact (pre_iff hr hi hm).1 ⟨s ++ [x], by rw [e, hs, List.append_assoc]⟩
  unfold kw
  have e1 : paths L = (paths L).take i ++ (((paths L).drop i).take (endB L i - i) ++ (paths L).drop (endB L i)) := by
    conv => lhs; rw [← List.take_append_drop i (paths L), ← List.take_append_drop (endB L i - i) ((paths L).drop i), List.drop_drop, show i + (endB L i - i) = endB L i by omega]
  have e2 : ((paths L).take i).filter (isKid (pa L k)) = [] := by
    rw [List.filter_eq_nil_iff]
    intro q hq hk'
    obtain ⟨j, hj, e⟩ := List.getElem_of_mem hq
    rw [List.length_take, paths_length] at hj
    rw [List.getElem_take] at e
    rw [← e, ← pa_lt (by omega)] at hk'
    have := key j (by omega) hk'
    omega
  have e3 : ((paths L).drop (endB L i)).filter (isKid (pa L k)) = [] := by
    rw [List.filter_eq_nil_iff]
    intro q hq hk'
    obtain ⟨j, hj, e⟩ := List.getElem_of_mem hq
    rw [List.length_drop, paths_length] at hj
    rw [List.getElem_drop] at e
    rw [← e, ← pa_lt (by omega)] at hk'
    have := key (endB L i + j) (by omega) hk'
    omega
  conv => rhs; rw [e1]
  rw [List.filter_append, List.filter_append, e2, e3, List.append_nil, List.nil_append]
theorem sub_faults {i : Nat} (hi : i < L.length) (h0 : depthAt L i = 0) : (checkB (subL L i)).filter nf = (((paths L).drop i).take (endB L i - i)).flatMap fun P => partF (kw (paths L) P) P := by
  obtain ⟨h1, h2⟩ := sub_right hr hi h0
  rw [whole_parts h1, h2]
  refine flatMap_same fun P hP => ?_
  obtain ⟨k, g1, g2, rfl⟩ := (mem_part hi).1 hP
  rw [kw_part hr hi g1 g2]
omit hr in
/-- The tops from a place on. -/
theorem tops_step {k : Nat} (hk : k < L.length) (h0 : depthAt L k = 0) : (kidsTop L).filter (fun j => decide (k ≤ j)) = k :: (kidsTop L).filter (fun j => decide (endB L k ≤ j)) := by
  have he := endB_le L k hk
  have hs := top_sorted L
  have hm : k ∈ kidsTop L := mem_kidsTo.2 ⟨hk, by omega, h0⟩
  have hgap : ∀ j ∈ kidsTop L, k < j → endB L k ≤ j := fun j hj hlt => by
    rcases Nat.lt_or_ge j (endB L k) with h | h
    · have := end_in hk hlt h
      have := (mem_kidsTo.1 hj).2.2
      omega
    · exact h
  generalize kidsTop L = K at *
  induction K with
  | nil => cases hm
  | cons q K ih =>
    obtain ⟨h1, h2⟩ := List.pairwise_cons.1 hs
    by_cases hq : q = k
    · subst hq
      rw [List.filter_cons_of_pos (by simp), List.filter_cons_of_neg (by simp; omega)]
      congr 1
      refine List.filter_congr fun j hj => ?_
      have g1 := h1 j hj
      have g2 := hgap j (List.mem_cons_of_mem _ hj) g1
      rw [decide_eq_true g2, decide_eq_true (by omega)]
    · have hm2 : k ∈ K := by
        rcases List.mem_cons.1 hm with e | e
        · exact absurd e.symm hq
        · exact e
      have := h1 k hm2
      rw [List.filter_cons_of_neg (by simp; omega), List.filter_cons_of_neg (by simp; omega)]
      exact ih h2 hm2 fun j hj => hgap j (List.mem_cons_of_mem _ hj)
theorem tops_from (g : List ByteArray → List Fault) : ∀ (n k : Nat), n = L.length - k → k ≤ L.length → (k < L.length → depthAt L k = 0) →
    ((kidsTop L).filter fun j => decide (k ≤ j)).flatMap (fun i => (((paths L).drop i).take (endB L i - i)).flatMap g) = ((paths L).drop k).flatMap g := by
  intro n
  induction n using Nat.strongRecOn with
  | _ n ih =>
    intro k hn hk h0
    rcases Nat.lt_or_ge k L.length with h | h
    · have he := endB_le L k h
      rw [tops_step h (h0 h), List.flatMap_cons, ih (L.length - endB L k) (by omega) (endB L k) rfl he.2 (fun hh => by
        have g1 := end_out h hh
        have g2 := dep_nn (right_parts hr).2.1 hh
        have g3 := h0 h
        omega), ← List.flatMap_append]
      congr 1
      conv => rhs; rw [← List.take_append_drop (endB L k - k) ((paths L).drop k), List.drop_drop, show k + (endB L k - k) = endB L k by omega]
    · have : k = L.length := by omega
      subst this
      rw [List.drop_of_length_le (by rw [paths_length]; omega)]
      have : (kidsTop L).filter (fun j => decide (L.length ≤ j)) = [] := by
        rw [List.filter_eq_nil_iff]
        intro j hj
        have := (mem_kidsTo.1 hj).1
        simp; omega
      rw [this]; rfl
theorem parts_all : ((kidsTop L).flatMap fun i => (checkB (subL L i)).filter nf) = (checkB L).filter nf := by
  rw [whole_parts hr]
  have h := tops_from hr (fun P => partF (kw (paths L) P) P) L.length 0 (by omega) (Nat.zero_le _) (fun h => dep_zero (right_parts hr).2.1 h)
  rw [List.drop_zero] at h
  rw [← h, show (kidsTop L).filter (fun j => decide (0 ≤ j)) = kidsTop L by rw [List.filter_eq_self]; simp]
  refine flatMap_same fun i hi => ?_
  obtain ⟨h1, -, h2⟩ := mem_kidsTo.1 hi
  exact sub_faults hr h1 h2
theorem miss_path {f : Fault} (hf : f ∈ checkB L) : f.1 ∈ paths L ∨ f.2 = 1 ∧ f.1.dropLast ∈ paths L := by
  rw [check_paths hr] at hf
  unfold checkS at hf
  obtain ⟨P, hP, hf⟩ := List.mem_flatMap.1 hf
  unfold faultsS at hf
  split at hf
  · split at hf
    · left; rw [List.mem_singleton.1 hf]; exact hP
    · unfold lineS at hf
      rcases List.mem_append.1 hf with hf | hf
      · rcases List.mem_append.1 hf with hf | hf
        · left
          unfold oneS at hf
          split at hf
          · rw [List.mem_singleton.1 hf]; exact hP
          · split at hf
            · rw [List.mem_singleton.1 hf]; exact hP
            · cases hf
        · right
          unfold missS at hf
          obtain ⟨s, -, rfl⟩ := List.mem_map.1 hf
          exact ⟨rfl, by simpa using hP⟩
      · left
        split at hf
        · rw [List.mem_singleton.1 hf]; exact hP
        · cases hf
  · cases hf
/-- What the law looks at of each fault. -/
theorem fault_found {f : Fault} (hf : f ∈ checkB L) : (findB L f.1).isSome = true ∨ ((findB L f.1).isSome = false ∧ f.2 = 1 ∧ (findB L f.1.dropLast).isSome = true) := by
  cases h : (findB L f.1).isSome with
  | true => exact .inl rfl
  | false =>
    right
    rcases miss_path hr hf with g | ⟨g1, g2⟩
    · rw [(find_mem hr).2 g] at h; cases h
    · exact ⟨rfl, g1, (find_mem hr).2 g2⟩
theorem fault_len {f : Fault} (hf : f ∈ checkB L) : 0 < f.1.length ∧ f.1.length ≤ 1000 := by
  refine ⟨?_, check_short hr f hf⟩
  obtain ⟨i, hi, h⟩ := check_mem hf
  have := (Go.Proofs.YtlldjkhlhfnfeaaGreatDoor.pa_short hr hi).2.1
  rcases h with h | ⟨s, -, h⟩
  · rw [h]; exact this
  · rw [h, List.length_append, List.length_singleton]; omega
omit hr in
theorem sub_top_len {i : Nat} : (subL L i).length ≤ L.length := by
  unfold subL
  rw [List.length_map, List.length_take, List.length_drop]; omega
end
/-- The faults of the first parts. -/
def partsTo (L : List Line) (j : Nat) : List Fault := ((kidsTop L).take j).flatMap fun i => (checkB (subL L i)).filter nf
theorem parts_succ {L : List Line} {j : Nat} (h : j < (kidsTop L).length) : partsTo L (j + 1) = partsTo L j ++ (checkB (subL L (kidsTop L)[j])).filter nf := by
  unfold partsTo
  rw [List.take_succ_eq_append_getElem h, List.flatMap_append, List.flatMap_cons, List.flatMap_nil, List.append_nil]
theorem parts_to {L : List Line} (hr : rightB L = true) : partsTo L (kidsTop L).length = (checkB L).filter nf := by
  unfold partsTo
  rw [List.take_length, parts_all hr]
theorem parts_few {L : List Line} (hr : rightB L = true) (j : Nat) : (partsTo L j).length ≤ 10000 := by
  have h1 : (partsTo L j).length ≤ ((checkB L).filter nf).length := by
    rw [← parts_all hr]
    unfold partsTo
    conv => rhs; rw [← List.take_append_drop j (kidsTop L), List.flatMap_append, List.length_append]
    omega
  have h2 := List.length_filter_le nf (checkB L)
  have h3 := check_few (right_parts hr).1
  omega
end Sch

namespace Sch
open Go Go.Lib Adr Mtr Tre
def shf (d : Int) (l : Line) : Line := ⟨l.depth - d, l.word, l.mark⟩
/-- The first k lines are shifted. -/
def shTo (M : List Line) (d : Int) (k : Nat) : List Line := (M.take k).map (shf d) ++ M.drop k
theorem shTo_len (M : List Line) (d : Int) (k : Nat) : (shTo M d k).length = M.length := by
  unfold shTo
  rw [List.length_append, List.length_map, List.length_take, List.length_drop]; omega
theorem shTo_zero (M : List Line) (d : Int) : shTo M d 0 = M := by unfold shTo; simp
theorem shTo_all (M : List Line) (d : Int) : shTo M d M.length = M.map (shf d) := by unfold shTo; simp
theorem shTo_at {M : List Line} {d : Int} {k : Nat} (h : k < M.length) : (shTo M d k)[k]'(by rw [shTo_len]; exact h) = M[k] := by
  unfold shTo
  rw [List.getElem_append_right (by rw [List.length_map, List.length_take]; omega)]
  simp only [List.length_map, List.length_take, Nat.min_eq_left (Nat.le_of_lt h), Nat.sub_self]
  rw [List.getElem_drop]; rfl
theorem shTo_step {M : List Line} {d : Int} {k : Nat} (h : k < M.length) : lines (shTo M d (k + 1)) = (lines (shTo M d k)).set (k * 3) (.int .i64 (M[k].depth - d)) := by
  unfold shTo
  rw [List.drop_eq_getElem_cons h, List.take_succ_eq_append_getElem h, List.map_append, List.append_assoc]
  show lines ((M.take k).map (shf d) ++ ([shf d M[k]] ++ M.drop (k + 1))) = _
  rw [lines_append, lines_append, lines_append, lines_one]
  have hl : (lines ((M.take k).map (shf d))).length = k * 3 := by rw [lines_length, List.length_map, List.length_take, Nat.min_eq_left (Nat.le_of_lt h)]
  have h2 : lines (M[k] :: M.drop (k + 1)) = [.int .i64 M[k].depth, .string M[k].word, .int .i64 M[k].mark] ++ lines (M.drop (k + 1)) := by
    rw [show M[k] :: M.drop (k + 1) = [M[k]] ++ M.drop (k + 1) from rfl, lines_append, lines_one]; rfl
  rw [h2, List.set_append_right _ _ (by omega), hl, Nat.sub_self]
  rfl
theorem sub_shift (L : List Line) (n : Nat) : ((L.drop n).take (endB L n - n)).map (shf (depthAt L n)) = subL L n := rfl
end Sch
namespace Go.Proofs.YtlldjkhlhfnfeaaGreatDoor
open Go Go.RowKit Go.Sort Sch Adr Mtr Tre

set_option maxHeartbeats 1000000 in
set_option maxRecDepth 100000 in
theorem cloneLines (ad : Addr) (n c : Nat) (M : List Line) (w : World) (hR : Rd w 3 (some ad) n (lines M)) (hn : M.length = n) (hb : n ≤ 1000000) :
    Calls Tryz.prog 54 #[.slice (some ad) n c] w fun e w' => (∃ v, e = .returned v ∧ w'.ownsRow w.heap.size 64 3 v n (lines M)) ∧ Below w.heap.size w w' := by
  obtain ⟨i0, hii, hz0, hz1, hz2⟩ := info_parts info_pline
  obtain ⟨wo, hwo⟩ : ∃ wo, w.alloc (.cells #[] 64) = wo := ⟨_, rfl⟩
  have hbo : Below w.heap.size w wo := by rw [← hwo]; exact (Below.refl _ _).alloc (Nat.le_refl _) _
  have hown : wo.ownsRow w.heap.size 64 3 (.slice (some ⟨w.heap.size, 0, none⟩) 0 0) 0 [] := by
    rw [← hwo]
    have := World.ownsRow_lit (e := 64) (size := 3) (base := w.heap.size) w #[] 0 (Nat.le_refl _) (by unfold maxLen; omega) rfl
    simpa using this
  have HR := Lib.hid (hR.below hbo)
  have HO := Lib.hid hown
  have HBo := Lib.hid hbo
  have HM := Lib.hid hn
  have HC : Hid (∀ u ∈ lines M, u.oneCell' = true) := lines_cells _
  have heq := fun wx : World => Lib.run_eql_slice_nil (P := Tryz.prog) wx 22 64 (some ad) n c 0 0 Tryz.underlying22
  have HN : Hid (0 + n ≤ 1000000000) := by show _ ≤ _; omega
  clear hR hown hbo hn
  go_enter Tryz.func54, Tryz.ntmps54
  go_wp2_with (at_builtin; (refine app_src rfl _ _ 22 rfl w wo 64 i0 _ 3 32 Tryz.underlying22 hii hz0 hz1 hz2 rfl (by decide) (by decide) HO.out HBo.out rfl (some ad) n c (lines M) rfl HR.out (fun h => by cases h) HC.out HN.out ?_; intro v1 w3 hown1 hb3))
  have HO3 : Hid (w3.ownsRow w.heap.size 64 3 v1 n (lines M)) := by show World.ownsRow _ _ _ _ _ _ _; simpa using hown1
  clear hown1
  go_wp2_with fail
  go_ret
  exact ⟨⟨_, rfl, HO3.out⟩, hb3⟩

/-- What tree.Sub gives. -/
def SubEnd (L : List Line) (n : Nat) (w : World) (e : Ending) (w' : World) : Prop :=
  (∃ v, e = .returned v ∧ w'.ownsRow w.heap.size 64 3 v (subL L n).length (lines (subL L n))) ∧ Below w.heap.size w w'
set_option maxHeartbeats 4000000 in
set_option maxRecDepth 100000 in
theorem sub_lines (A : Option Addr) (cap : Nat) (L : List Line) (n : Nat) (w : World) (hR : Rd w 3 A L.length (lines L)) (hcap : L.length ≤ cap) (hc : cap ≤ maxLen) (hr : rightB L = true) (hn : n < L.length) :
    Calls Tryz.prog 24 #[.slice A L.length cap, .int .i64 n] w (SubEnd L n w) := by
  have HTh := there_lines A cap L n w hR hcap hc
  rw [thereB_lt hr hn] at HTh
  have HT := Lib.hid HTh
  have HEn := Lib.hid (fun W (hb : Below w.heap.size w W) => end_at A cap L n W (hR.below hb) hcap hc hr hn)
  have he := endB_le L n hn
  obtain ⟨B, O, rfl, hab, hadd, x0, -, -⟩ := hR.line hn
  have h200 := right_len hr
  have hdb := right_depth hr hn
  have HD : Hid (depthAt L n = L[n].depth) := depthAt_lt hn
  have HSH := Lib.hid (sub_shift L n)
  have hMR : Rd w 3 (some ⟨B, O + n * 3, none⟩) (endB L n - n) (lines ((L.drop n).take (endB L n - n))) := rd_take (by rw [List.length_drop]; exact rd_drop hR (Nat.le_of_lt hn)) (by rw [List.length_drop]; omega)
  have hMl : ((L.drop n).take (endB L n - n)).length = endB L n - n := by rw [List.length_take, List.length_drop]; omega
  have HMD : Hid (∀ k, (h : k < ((L.drop n).take (endB L n - n)).length) → 0 ≤ ((L.drop n).take (endB L n - n))[k].depth ∧ ((L.drop n).take (endB L n - n))[k].depth < 16) := fun k h => by
    rw [List.getElem_take, List.getElem_drop]; exact right_depth hr _
  have HX0 := Lib.hid x0
  unfold maxLen at hc
  generalize endB L n = E at *
  have hsub : (E : Int) - (n : Int) = ((E - n : Nat) : Int) := by omega
  have hsub2 : (cap : Int) - (n : Int) = ((cap - n : Nat) : Int) := by omega
  have hnE : (n : Int) ≤ (E : Int) := by omega
  have hEc : (E : Int) ≤ (cap : Int) := by omega
  have hnc : ¬ (cap = n) := by omega
  have hnc2 : ¬ (n = cap) := by omega
  rw [HD.out] at HSH
  generalize L[n].depth = d at *
  generalize (L.drop n).take (E - n) = M at *
  have HMR := Lib.hid hMR
  have HML := Lib.hid hMl
  have hdb1 := hdb.1
  have hdb2 := hdb.2
  have HRL := Lib.hid hR
  have hEL : E - n ≤ 1000000 := by omega
  clear hR hMR hMl hdb x0
  go_enter Tryz.func24, Tryz.ntmps24
  go_wp2_with fail
  refine HT.out.mono ?_
  rintro e w1 ⟨rfl, hb1⟩
  have HB1 := Lib.hid hb1
  clear HT HTh hb1
  go_wp2_with fail
  refine (HEn.out w1 HB1.out).mono ?_
  rintro e w2 ⟨rfl, hb2⟩
  have HB2 := Lib.hid (below_step HB1.out hb2)
  clear HEn HB1 hb2
  have HCl := Lib.hid (cloneLines ⟨B, O + n * 3, none⟩ (E - n) (cap - n) M w2 (HMR.out.below HB2.out) HML.out hEL)
  have HB2z : Hid (w.heap.size ≤ w2.heap.size) := HB2.out.size
  go_wp2_with fail
  refine HCl.out.mono ?_
  rintro e w3 ⟨⟨v, rfl, hown⟩, hb3⟩
  have HB3 := Lib.hid (below_step HB2.out hb3)
  have hown' := own_base hown HB2z.out
  obtain ⟨g, c5, hv⟩ : ∃ g c5, v = .slice (some ⟨g, 0, none⟩) (E - n) c5 := by
    rcases hown'.2 with ⟨-, h⟩ | ⟨g, cap', cur, h, -⟩
    · omega
    · exact ⟨g, cap', h⟩
  subst hv
  have hg := (hown'.lt g rfl).1
  have HO : Hid (w3.ownsRow w.heap.size 64 3 (.slice (some ⟨g, 0, none⟩) (E - n) c5) (E - n) (lines (shTo M d 0))) := by
    show World.ownsRow _ _ _ _ _ _ _
    rw [shTo_zero]; exact hown'
  have hcc : E - n ≤ c5 ∧ c5 ≤ maxLen := by
    rcases hown'.2 with ⟨h, -⟩ | ⟨g', cap', cur, h, -, -, h1, h2, -⟩
    · cases h
    · injection h with h3 h4 h5
      subst h5
      exact ⟨h1, h2⟩
  have HCC := Lib.hid hcc
  clear HCl hown hown' hb3 HB2 HB2z
  generalize E - n = m at *
  go_wp2
  go_loopw [20] (fun vi wr => ∃ k : Nat, k ≤ m ∧ vi = .int .i64 k ∧ Hid (wr.ownsRow w.heap.size 64 3 (.slice (some ⟨g, 0, none⟩) m c5) m (lines (shTo M d k))) ∧ Hid (Below w.heap.size w wr)) (fun vi _ => m - (intOf vi).toNat)
  case atStart => exact ⟨0, Nat.zero_le _, rfl, HO, HB3⟩
  case round =>
    clear HO HB3
    obtain ⟨k, hk, rfl, HO, HB⟩ := hrel
    by_cases hlt : k < m
    · have hkM : k < M.length := by rw [HML.out]; exact hlt
      have hkc := HO.out.cellAt (k * 3) (by omega)
      have hfz := HO.out.frozenAt (k * 3)
      have hxb := HMD.out k hkM
      have hst := HO.out.stored (k * 3) (.int .i64 (M[k].depth - d))
      rw [← shTo_step hkM] at hst
      have hget : (lines (shTo M d k))[k * 3]? = some (.int .i64 M[k].depth) := by
        have := lines_get (shTo M d k) k 0 (by rw [shTo_len]; exact hkM) (by omega)
        rw [shTo_at hkM] at this
        simpa [Line.cells] using this
      rw [hget] at hkc
      have y0 := (HB.out.cell (p := ⟨B, O + n * 3, none⟩) hab).trans HX0.out
      have hadd2 : (⟨g, 0, none⟩ : Addr).add (k * 3) = ⟨g, k * 3, none⟩ := by rw [add_plain]; simp
      have hmi : (k : Int) < (m : Int) := by omega
      have hk0 : (0 : Int) ≤ (k : Int) := by omega
      have hni : (n : Int) < (L.length : Int) := by omega
      have hn0 : (0 : Int) ≤ (n : Int) := by omega
      generalize M[k].depth = x at *
      obtain ⟨hx1, hx2⟩ := hxb
      have HST := Lib.hid hst
      clear hst hget
      go_wp2_with fail
      go_still_tail 13, (by kernel_rfl)
      change wpList _ _ _ _ _ wr.drew
      have HS2 : Hid ((wr.drew.setCell ⟨g, k * 3, none⟩ (.int .i64 (x - d))).ownsRow w.heap.size 64 3 (.slice (some ⟨g, 0, none⟩) m c5) m (lines (shTo M d (k + 1)))) := HST.out.1.drew
      have HB4 : Hid (Below w.heap.size w (wr.drew.setCell ⟨g, k * 3, none⟩ (.int .i64 (x - d)))) := (below_drewN HB.out 1).setCell hg _
      clear HST HB HO
      go_wp2
      go_roundw
      case rel => exact ⟨k + 1, by omega, by go_num, HS2, HB4⟩
      case measure => simp [intOf]; omega
    · obtain rfl : k = m := by omega
      have HF : Hid (SubEnd L n w (.returned (.slice (some ⟨g, 0, none⟩) k c5)) wr) := by
        refine ⟨⟨_, rfl, ?_⟩, HB.out⟩
        rw [← HSH.out, List.length_map, HML.out]
        have := HO.out
        rw [← HML.out] at this
        conv at this => rhs; rw [shTo_all]
        rw [HML.out] at this
        exact this
      clear HO HB
      go_wp2
      go_ret
      exact HF.out
end Go.Proofs.YtlldjkhlhfnfeaaGreatDoor
