/- Plain: a tree and one word more. A walk: the reference's Put of one word at the top. -/
import Derived.Test.YtlldjkhlhfnfeaaGreatDoorGr
import Derived.Test.YtlldjkhlhfnfeaaGreatDoorGp
import Derived.Test.YtlldjkhlhfnfeaaGreatDoorGo
namespace Sch
open Go Go.Lib Adr Mtr Tre
/-- The first place that meets a test. -/
def atOf (f : Nat → Bool) (d : Nat) : List Nat → Nat
  | [] => d
  | k :: l => if f k then k else atOf f d l
theorem atOf_low {f : Nat → Bool} {d : Nat} : ∀ {K : List Nat}, K.Pairwise (· < ·) → ∀ k ∈ K, k < atOf f d K → f k = false
  | [], _, k, h, _ => by cases h
  | q :: K, hp, k, h, hl => by
    unfold atOf at hl
    obtain ⟨h1, h2⟩ := List.pairwise_cons.1 hp
    cases hq : f q with
    | true =>
      rw [hq, if_pos rfl] at hl
      rcases List.mem_cons.1 h with e | e
      · omega
      · have := h1 k e; omega
    | false =>
      rw [hq, if_neg (by simp)] at hl
      rcases List.mem_cons.1 h with e | e
      · rw [e]; exact hq
      · exact atOf_low h2 k e hl
theorem atOf_at {f : Nat → Bool} {d : Nat} : ∀ (K : List Nat), atOf f d K = d ∨ (atOf f d K ∈ K ∧ f (atOf f d K) = true)
  | [] => .inl rfl
  | q :: K => by
    unfold atOf
    cases hq : f q with
    | true => right; simp [hq]
    | false =>
      rw [if_neg (by simp)]
      rcases atOf_at K with h | ⟨h1, h2⟩
      · exact .inl h
      · exact .inr ⟨List.mem_cons_of_mem _ h1, h2⟩
theorem atOf_drop {f : Nat → Bool} {d : Nat} {K : List Nat} {j : Nat} (h : j < K.length) : atOf f d (K.drop j) = if f K[j] then K[j] else atOf f d (K.drop (j + 1)) := by
  rw [List.drop_eq_getElem_cons h]; rfl
/-- Is the word there behind a word? -/
def gtAt (L : List Line) (s : ByteArray) (k : Nat) : Bool := Op.bytesLess s.toList (wordAt L k).toList
def atW (L : List Line) (s : ByteArray) : Nat := atOf (gtAt L s) L.length (kidsTop L)
def wordL (L : List Line) (s : ByteArray) : List Line := L.take (atW L s) ++ (⟨0, s, 0⟩ :: L.drop (atW L s))
theorem top_sorted (L : List Line) : (kidsTop L).Pairwise (· < ·) := by
  unfold kidsTop kidsTo
  exact List.Pairwise.filter _ List.pairwise_lt_range
theorem atW_le (L : List Line) (s : ByteArray) : atW L s ≤ L.length := by
  rcases atOf_at (f := gtAt L s) (d := L.length) (kidsTop L) with h | ⟨h, -⟩
  · exact Nat.le_of_eq h
  · have := (mem_kidsTo.1 h).1
    unfold atW; omega
section
variable {L : List Line} (hr : rightB L = true) {s : ByteArray} (hn : ¬ [s] ∈ paths L)
include hr
theorem head_top {i : Nat} (hi : i < L.length) : ∃ m a t, m ≤ i ∧ m ∈ kidsTop L ∧ wordAt L m = a ∧ pa L m = [a] ∧ pa L i = a :: t := by
  obtain ⟨-, hd, -⟩ := right_parts hr
  have hl := pa_len hd hi
  obtain ⟨m, hm, e⟩ := head_at hd hi (q := 1) (by omega) (by omega)
  cases hp : pa L i with
  | nil => rw [hp] at hl; simp at hl
  | cons a t =>
    rw [hp] at e
    have hlm := pa_len hd (show m < L.length by omega)
    have e : pa L m = [a] := e
    have hdm := dep_nn hd (show m < L.length by omega)
    rw [e] at hlm
    simp only [List.length_singleton] at hlm
    have h0 : depthAt L m = 0 := by omega
    have hw := pa_last hr (show m < L.length by omega)
    rw [e] at hw
    exact ⟨m, a, t, hm, mem_kidsTo.2 ⟨by omega, by omega, h0⟩, by rw [← hw]; rfl, e, rfl⟩
include hn
theorem low_side {i : Nat} (hi : i < L.length) (h : i < atW L s) : pLt (pa L i) [s] := by
  obtain ⟨m, a, t, h1, h2, h3, h4, h5⟩ := head_top hr hi
  have hf := atOf_low (f := gtAt L s) (d := L.length) (top_sorted L) m h2 (by unfold atW at h; omega)
  unfold gtAt at hf
  rw [h3, Proofs.bytesLess_eq, decide_eq_false_iff_not] at hf
  have hne : a ≠ s := fun e => hn (mem_paths.2 ⟨m, by omega, by rw [h4, e]⟩)
  rw [h5]
  refine pLt_head ?_
  rcases List.le_iff_lt_or_eq.1 (List.not_lt.1 hf) with h | h
  · exact h
  · exact absurd (bytes_inj h) hne
omit hn in
theorem high_side {i : Nat} (hi : i < L.length) (h : atW L s ≤ i) : pLt [s] (pa L i) := by
  rcases atOf_at (f := gtAt L s) (d := L.length) (kidsTop L) with e | ⟨h1, h2⟩
  · unfold atW at h; omega
  · have hk := mem_kidsTo.1 h1
    have hd := (right_parts hr).2.1
    have hw := pa_last hr hk.1
    have hlm := pa_len hd hk.1
    rw [hk.2.2] at hlm
    obtain ⟨a, ha⟩ := List.length_eq_one_iff.1 hlm
    change Op.bytesLess s.toList (wordAt L (atOf (gtAt L s) L.length (kidsTop L))).toList = true at h2
    rw [Proofs.bytesLess_eq, decide_eq_true_eq, ← hw, ha] at h2
    have h3 : pLt [s] (pa L (atOf (gtAt L s) L.length (kidsTop L))) := by rw [ha]; exact pLt_head h2
    rcases Nat.lt_or_ge (atOf (gtAt L s) L.length (kidsTop L)) i with g | g
    · exact pLt_trans h3 (pa_up hr g hi)
    · have : atOf (gtAt L s) L.length (kidsTop L) = i := by unfold atW at h; omega
      rw [this] at h3; exact h3
theorem paths_side {q : List ByteArray} : (q ∈ (paths L).take (atW L s) → pLt q [s]) ∧ (q ∈ (paths L).drop (atW L s) → pLt [s] q) := by
  constructor
  · intro h
    obtain ⟨i, hi, e⟩ := List.getElem_of_mem h
    rw [List.length_take, paths_length] at hi
    rw [List.getElem_take] at e
    rw [← e, ← pa_lt (by omega)]
    exact low_side hr hn (by omega) (by omega)
  · intro h
    obtain ⟨i, hi, e⟩ := List.getElem_of_mem h
    rw [List.length_drop, paths_length] at hi
    rw [List.getElem_drop] at e
    rw [← e, ← pa_lt (by omega)]
    exact high_side hr (by omega) (by omega)
theorem word_right (hl : L.length ≤ 60) (hs : s.size ≤ 40) : rightB (wordL L s) = true ∧ paths (wordL L s) = (paths L).take (atW L s) ++ ([s] :: (paths L).drop (atW L s)) := by
  obtain ⟨ht, hf⟩ := tree_of hr
  have hle := atW_le L s
  have hmem : ∀ q, q ∈ (paths L).take (atW L s) ++ ([s] :: (paths L).drop (atW L s)) ↔ q = [s] ∨ q ∈ paths L := fun q => by
    rw [List.mem_append, List.mem_cons]
    conv => rhs; rhs; rw [← List.take_append_drop (atW L s) (paths L), List.mem_append]
    constructor
    · rintro (h | h | h)
      · exact .inr (.inl h)
      · exact .inl h
      · exact .inr (.inr h)
    · rintro (h | h | h)
      · exact .inr (.inl h)
      · exact .inl h
      · exact .inr (.inr h)
  refine of_tree (fitsL_app (fitsL_take _ hf) ⟨⟨?_, rfl, rfl⟩, fitsL_drop _ hf⟩) ⟨?_, fun q hq => ?_⟩ ?_
  · unfold soundB
    simp only [Bool.and_eq_true, decide_eq_true_eq]
    omega
  · rw [List.pairwise_append]
    refine ⟨List.Pairwise.sublist (List.take_sublist _ _) ht.1, List.pairwise_cons.2 ⟨fun q h => (paths_side hr hn).2 h, List.Pairwise.sublist (List.drop_sublist _ _) ht.1⟩, fun a ha b hb => ?_⟩
    rcases List.mem_cons.1 hb with e | e
    · rw [e]; exact (paths_side hr hn).1 ha
    · exact pLt_trans ((paths_side hr hn).1 ha) ((paths_side hr hn).2 e)
  · rcases (hmem q).1 hq with e | e
    · rw [e]; exact ⟨by simp, .inr rfl⟩
    · obtain ⟨h1, h2⟩ := ht.2 q e
      exact ⟨h1, h2.imp (fun h => (hmem _).2 (.inr h)) id⟩
  · unfold wordL
    rw [List.length_append, List.length_cons, List.length_take, List.length_drop]; omega
omit hr hn in
theorem kid_word (P : List ByteArray) (h : P ≠ []) : isKid P [s] = false := by
  cases hk : isKid P [s] with
  | false => rfl
  | true =>
    obtain ⟨x, e⟩ := isKid_iff.1 hk
    cases P with
    | nil => exact absurd rfl h
    | cons a l => simp at e
omit hr hn in
theorem word_faults {S T : List (List ByteArray)} {P : List ByteArray} (h : P ≠ []) : faultsS (S ++ ([s] :: T)) P = faultsS (S ++ T) P := by
  have hm : ∀ q : List ByteArray, q ≠ [s] → memB q (S ++ ([s] :: T)) = memB q (S ++ T) := fun q hq => by
    rw [Bool.eq_iff_iff, memB_iff, memB_iff, List.mem_append, List.mem_append, List.mem_cons]
    constructor
    · rintro (h | h | h)
      · exact .inl h
      · exact absurd h hq
      · exact .inr h
    · rintro (h | h)
      · exact .inl h
      · exact .inr (.inr h)
  have hk : ∀ Q : List ByteArray, Q ≠ [] → kw (S ++ ([s] :: T)) Q = kw (S ++ T) Q := fun Q hQ => by
    unfold kw
    rw [List.filter_append, List.filter_cons_of_neg (by rw [kid_word Q hQ]; simp), List.filter_append]
  refine faults_same (hk P h) (fun d => hm _ (by simp)) (fun d => hm _ (by simp)) (fun v => hm _ (by simp)) (fun v => hk _ (by simp)) (fun t => ?_)
  unfold twS
  rw [List.any_append, List.any_cons, List.any_append, show matchB [wHosts, tName, wIp, t] [s] = false from match_short (by simp)]
  simp
/-- The faults with one word more. -/
theorem word_check (hl : L.length ≤ 60) (hs : s.size ≤ 40) (h2 : secondB s = ⟨#[]⟩) : ∃ F G, checkB L = F ++ G ∧ checkB (wordL L s) = F ++ (([s], 3) :: G) ∧ (∀ f ∈ F ++ G, f.1 ≠ [s]) := by
  obtain ⟨h3, h4⟩ := word_right hr hn hl hs
  have hte := List.take_append_drop (atW L s) (paths L)
  refine ⟨((paths L).take (atW L s)).flatMap (faultsS (paths L)), ((paths L).drop (atW L s)).flatMap (faultsS (paths L)), ?_, ?_, ?_⟩
  · rw [check_paths hr, ← List.flatMap_append, hte]; rfl
  · rw [check_paths h3, h4]
    unfold checkS
    have hc : ∀ P, P ∈ paths L → faultsS ((paths L).take (atW L s) ++ ([s] :: (paths L).drop (atW L s))) P = faultsS (paths L) P := fun P hP => by
      rw [word_faults ((tree_of hr).1.2 P hP).1, hte]
    rw [List.flatMap_append, List.flatMap_cons]
    congr 1
    · exact flatMap_same fun P hP => hc P (List.mem_of_mem_take hP)
    · have hw : faultsS ((paths L).take (atW L s) ++ ([s] :: (paths L).drop (atW L s))) [s] = [([s], 3)] := by
        unfold faultsS
        rw [alive_one, rule_1, if_pos h2, form_1]; rfl
      rw [hw, List.singleton_append]
      congr 1
      exact flatMap_same fun P hP => hc P (List.mem_of_mem_drop hP)
  · intro f hf e
    rw [← List.flatMap_append, hte] at hf
    have hf : f ∈ checkB L := by rw [check_paths hr]; exact hf
    obtain ⟨i, hi, h | ⟨x, hx, h⟩⟩ := check_mem hf
    · exact hn (mem_paths.2 ⟨i, hi, by rw [← h, e]⟩)
    · have hp := (Go.Proofs.YtlldjkhlhfnfeaaGreatDoor.pa_short hr hi).2.1
      rw [h] at e
      have := congrArg List.length e
      rw [List.length_append, List.length_singleton, List.length_singleton] at this
      omega
end
end Sch

namespace Go.Proofs.YtlldjkhlhfnfeaaGreatDoor
open Go Go.RowKit Go.Sort Sch Adr Mtr Tre

theorem info_pline : (Tryz.prog.info? 64).map (fun i => (i.zero, i.size, i.bytes)) = some (some (.agg #[.int .i64 0, .string ⟨#[]⟩, .int .i64 0]), 3, 32) := by kernel_rfl
theorem lines_cells (L : List Line) : ∀ u ∈ lines L, u.oneCell' = true := by
  intro u hu
  unfold lines at hu
  obtain ⟨l, -, h⟩ := List.mem_flatMap.1 hu
  exact Tre.cells_one l u h
theorem rd_take {w : World} {A : Option Addr} {L : List Line} (h : Rd w 3 A L.length (lines L)) {n : Nat} (hn : n ≤ L.length) : Rd w 3 A n (lines (L.take n)) := by
  refine ⟨by rw [lines_length, List.length_take, Nat.min_eq_left hn], fun h0 => ?_⟩
  obtain ⟨ad, e, hb, hx⟩ := h.2 (by omega)
  refine ⟨ad, e, hb, fun j u hu => hx j u ?_⟩
  conv => lhs; rw [← List.take_append_drop n L, lines_append]
  rw [List.getElem?_append_left (List.getElem?_eq_some_iff.1 hu).1]; exact hu
theorem rd_drop {w : World} {b o : Nat} {L : List Line} (h : Rd w 3 (some ⟨b, o, none⟩) L.length (lines L)) {n : Nat} (hn : n ≤ L.length) : Rd w 3 (some ⟨b, o + n * 3, none⟩) (L.length - n) (lines (L.drop n)) := by
  refine ⟨by rw [lines_length, List.length_drop], fun h0 => ?_⟩
  obtain ⟨ad, e, hb, hx⟩ := h.2 (by omega)
  injection e with e
  subst e
  refine ⟨_, rfl, hb, fun j u hu => ?_⟩
  have := hx (n * 3 + j) u (by
    conv => lhs; rw [← List.take_append_drop n L, lines_append]
    rw [List.getElem?_append_right (by rw [lines_length, List.length_take, Nat.min_eq_left hn]; omega), lines_length, List.length_take, Nat.min_eq_left hn, Nat.add_sub_cancel_left]; exact hu)
  rw [add_plain] at this ⊢
  rw [← this, Nat.add_assoc]
set_option maxHeartbeats 8000000 in
set_option maxRecDepth 100000 in
theorem put_any (A : Option Addr) (cap : Nat) (L : List Line) (s : ByteArray) (w : World) (hR : Rd w 3 A L.length (lines L)) (hcap : L.length ≤ cap) (hc : cap ≤ maxLen) (hnil : A = none → cap = 0) (hr : rightB L = true) :
    Calls Tryz.prog 19 #[.slice A L.length cap, .slice none 0 0, .string s, .int .i64 0] w fun e w' => (∃ A' c', e = .returned (.slice A' (wordL L s).length c') ∧ (wordL L s).length ≤ c' ∧ c' ≤ maxLen ∧ Rd w' 3 A' (wordL L s).length (lines (wordL L s))) ∧ Below w.heap.size w w' := by
  obtain ⟨i0, hii, hz0, hz1, hz2⟩ := info_parts info_pline
  have h200 := right_len hr
  have HK := refKids_lines A cap L (-1) w hR hcap hc (by omega)
  rw [refKids_top hr] at HK
  have HKK := Lib.hid HK
  have hkl : ∀ k ∈ kidsTop L, k < L.length := fun k hk => (mem_kidsTo.1 hk).1
  have hkn : (kidsTop L).length ≤ 200 := by
    have h1 := kidsTo_len L 0 0 L.length
    unfold kidsTop; omega
  have HKL := Lib.hid hkl
  have HR := Lib.hid hR
  have HGT : Hid (∀ k, (h : k < L.length) → (Op.bytesLess L[k].word.toList s.toList || L[k].word.toList == s.toList) = !(gtAt L s k)) := fun k h => by unfold gtAt; rw [wordAt_lt h, less_tri]
  have HAW : Hid (atOf (gtAt L s) L.length ((kidsTop L).drop 0) = atW L s) := rfl
  have HAD := Lib.hid (fun j h => atOf_drop (f := gtAt L s) (d := L.length) (K := kidsTop L) (j := j) h)
  have hle := atW_le L s
  have HWL : Hid (wordL L s = L.take (atW L s) ++ (⟨0, s, 0⟩ :: L.drop (atW L s))) := rfl
  unfold KidsEnd at HKK
  have hcm := hc
  unfold maxLen at hcm
  clear hR HK hkl hr
  have HA0 : Hid (atOf (gtAt L s) L.length ((kidsTop L).drop (kidsTop L).length) = L.length) := by show _ = _; rw [List.drop_length]; rfl
  generalize kidsTop L = K at *
  generalize gtAt L s = f at *
  generalize atW L s = at0 at *
  go_enter Tryz.func19, Tryz.ntmps19
  go_wp2_with fail
  refine HKK.out.mono ?_
  rintro e w1 ⟨Ak, ck, rfl, hk1, hk2, hrk, hb1⟩
  have HB1 := Lib.hid hb1
  have HRk := Lib.hid hrk
  clear HKK hb1 hrk
  go_wp2_with fail
  go_loopw [10, 12] (fun va vi wr => ∃ j : Nat, j ≤ K.length ∧ vi = .int .i64 ((j : Int) - 1) ∧ va = .int .i64 (atOf f L.length (K.drop j) : Nat) ∧ wr = w1) (fun _ vi _ => ((intOf vi) + 1).toNat)
  case atStart => exact ⟨K.length, Nat.le_refl _, by go_num, by rw [HA0.out], rfl⟩
  case round =>
    clear HA0
    obtain ⟨j, hj, rfl, rfl, rfl⟩ := hrel
    by_cases hj0 : j = 0
    · subst hj0
      rw [HAW.out]
      clear HAD HGT HKL HRk
      have hm1 : ((0 : Nat) : Int) - 1 = -1 := by omega
      have HONE : Hid (∀ x ∈ ([.int .i64 0, .string s, .int .i64 0] : List Value), x.oneCell' = true) := Tre.cells_one ⟨0, s, 0⟩
      have HLW : Hid (lines (wordL L s) = [] ++ lines (L.take at0) ++ [.int .i64 0, .string s, .int .i64 0] ++ lines (L.drop at0)) := by
        show _ = _
        rw [HWL.out, lines_append, show (⟨0, s, 0⟩ :: L.drop at0 : List Line) = [⟨0, s, 0⟩] ++ L.drop at0 from rfl, lines_append, lines_one, List.nil_append, List.append_assoc]; rfl
      have HLM : Hid ((wordL L s).length = L.length + 1) := by
        show _ = _
        rw [HWL.out, List.length_append, List.length_cons, List.length_take, List.length_drop, Nat.min_eq_left hle]; omega
      have hR1 := HR.out.below HB1.out
      have HC13 : Hid (∀ u ∈ lines (L.take at0), u.oneCell' = true) := lines_cells _
      have HC15 : Hid (∀ u ∈ lines (L.drop at0), u.oneCell' = true) := lines_cells _
      have h13r := rd_take hR1 hle
      have HN13' := Lib.hid (rfl : lines (L.take at0) = lines (L.take at0))
      clear HWL
      obtain ⟨H13n, h13n⟩ : ∃ x, lines (L.take at0) = x := ⟨_, rfl⟩
      obtain ⟨H15n, h15n⟩ : ∃ x, lines (L.drop at0) = x := ⟨_, rfl⟩
      have HN13 := Lib.hid h13n
      have HN15 := Lib.hid h15n
      rw [h13n] at h13r HC13
      rw [h15n] at HC15
      have H13c := HC13
      have H15c := HC15
      clear HC13 HC15 HN13'
      rcases A with _ | ad
      · have hcz := hnil rfl
        have hl0 : L.length = 0 := by omega
        have hat : at0 = 0 := by omega
        have e13 : H13n = [] := by
          have := h13r.1
          rw [hat] at this
          exact List.eq_nil_of_length_eq_zero (by omega)
        have e15 : H15n = [] := by
          have : H15n.length = 0 := by rw [← h15n, lines_length, List.length_drop]; omega
          exact List.eq_nil_of_length_eq_zero this
        have H13 : Hid (Rd wr 3 none 0 H13n) := by rw [e13]; exact Rd.nil
        have H15 : Hid (Rd wr 3 none 0 H15n) := by rw [e15]; exact Rd.nil
        have HLN : Hid ((wordL L s).length = 0 + 0 + 1 + 0) := by show _ = _; rw [HLM.out]; omega
        have H13b : Hid (0 + 0 ≤ 1000000000) := by show _ ≤ _; omega
        have H14b : Hid (0 + 0 + 1 ≤ 1000000000) := by show _ ≤ _; omega
        have H15b : Hid (0 + 0 + 1 + 0 ≤ 1000000000) := by show _ ≤ _; omega
        rw [hat, hl0]
        subst hcz
        clear hR1 h13r h13n h15n e13 e15 hl0 hat hle hnil h200 hcap HLM HAW
        go_wp2_with (at_builtin; first
          | (refine app_src rfl _ _ 22 rfl wr wr 64 i0 _ 3 32 Tryz.underlying22 hii hz0 hz1 hz2 rfl (by decide) (by decide) (World.ownsRow_nil _ _ _ _) (Below.refl _ _) rfl none 0 0 H13n rfl H13.out (fun _ => rfl) H13c.out H13b.out ?_; intro v1 w3 hown1 hb3)
          | (refine app_new rfl _ _ 22 rfl wr w3 64 i0 _ 3 32 Tryz.underlying22 hii hz0 hz1 hz2 rfl (by decide) (by decide) hown1 hb3 rfl 1 1 [.int .i64 0, .string s, .int .i64 0] rfl rfl HONE.out H14b.out ?_; intro v2 w4 hown2 hb4)
          | (refine app_src rfl _ _ 22 rfl wr w4 64 i0 _ 3 32 Tryz.underlying22 hii hz0 hz1 hz2 rfl (by decide) (by decide) hown2 hb4 rfl none 0 0 H15n rfl (H15.out.below hb4) (fun _ => rfl) H15c.out H15b.out ?_; intro v3 w5 hown3 hb5))
        refine bodyPost_ret (v := v3) (by simp [results, Tryz.results19, go_sem]) rfl ?_
        have hO : w5.ownsRow wr.heap.size 64 3 v3 (wordL L s).length (lines (wordL L s)) := by
          rw [HLN.out, HLW.out, HN13.out, HN15.out]; exact hown3
        obtain ⟨A', c', rfl, hc1, hc2, hRd, -⟩ := own_rd_nil hO
        exact ⟨⟨A', c', rfl, hc1, hc2, hRd⟩, below_step HB1.out hb5⟩
      · have hlei : (at0 : Int) ≤ (cap : Int) := by omega
        have hlel : (at0 : Int) ≤ (L.length : Int) := by omega
        have ha0 : (0 : Int) ≤ (at0 : Int) := by omega
        have H13 := Lib.hid h13r
        by_cases hca : cap = at0
        · have hll : L.length = cap := by omega
          have e15 : H15n = [] := by
            have : H15n.length = 0 := by rw [← h15n, lines_length, List.length_drop]; omega
            exact List.eq_nil_of_length_eq_zero this
          have H15 : Hid (Rd wr 3 (some ad) 0 H15n) := by rw [e15]; exact ⟨rfl, fun h => absurd h (by omega)⟩
          have HLN : Hid ((wordL L s).length = 0 + cap + 1 + 0) := by show _ = _; rw [HLM.out]; omega
          have H13b : Hid (0 + cap ≤ 1000000000) := by show _ ≤ _; omega
          have H14b : Hid (0 + cap + 1 ≤ 1000000000) := by show _ ≤ _; omega
          have H15b : Hid (0 + cap + 1 + 0 ≤ 1000000000) := by show _ ≤ _; omega
          subst hca
          rw [hll]
          clear hR1 h13r h13n h15n e15 hll hle hnil h200 hcap HLM HAW
          go_wp2_with (at_builtin; first
            | (refine app_src rfl _ _ 22 rfl wr wr 64 i0 _ 3 32 Tryz.underlying22 hii hz0 hz1 hz2 rfl (by decide) (by decide) (World.ownsRow_nil _ _ _ _) (Below.refl _ _) rfl (some ad) cap cap H13n rfl H13.out (fun h => by cases h) H13c.out H13b.out ?_; intro v1 w3 hown1 hb3)
            | (refine app_new rfl _ _ 22 rfl wr w3 64 i0 _ 3 32 Tryz.underlying22 hii hz0 hz1 hz2 rfl (by decide) (by decide) hown1 hb3 rfl 1 1 [.int .i64 0, .string s, .int .i64 0] rfl rfl HONE.out H14b.out ?_; intro v2 w4 hown2 hb4)
            | (refine app_src rfl _ _ 22 rfl wr w4 64 i0 _ 3 32 Tryz.underlying22 hii hz0 hz1 hz2 rfl (by decide) (by decide) hown2 hb4 rfl (some ad) 0 0 H15n rfl (H15.out.below hb4) (fun h => by cases h) H15c.out H15b.out ?_; intro v3 w5 hown3 hb5))
          refine bodyPost_ret (v := v3) (by simp [results, Tryz.results19, go_sem]) rfl ?_
          have hO : w5.ownsRow wr.heap.size 64 3 v3 (wordL L s).length (lines (wordL L s)) := by
            rw [HLN.out, HLW.out, HN13.out, HN15.out]; exact hown3
          obtain ⟨A', c', rfl, hc1, hc2, hRd, -⟩ := own_rd_nil hO
          exact ⟨⟨A', c', rfl, hc1, hc2, hRd⟩, below_step HB1.out hb5⟩
        · have hlt0 : at0 < cap := by omega
          obtain ⟨B, O, sp⟩ := ad
          obtain ⟨ad3, h15r, hA3⟩ : ∃ ad3 : Addr, Rd wr 3 (some ad3) (L.length - at0) H15n ∧ (⟨B, O, sp⟩ : Addr).add (at0 * 3) = ad3 := by
            refine ⟨_, ?_, rfl⟩
            by_cases hl0 : L.length = 0
            · exact ⟨by rw [← h15n, lines_length, List.length_drop], fun h => absurd h (by omega)⟩
            · obtain ⟨ad', e', hb', hx'⟩ := hR1.2 (by omega)
              injection e' with e'
              subst e'
              have hsp : sp = none := by
                have h0 := hx' 0 ((lines L)[0]'(by rw [lines_length]; omega)) (List.getElem?_eq_getElem _)
                exact World.cell?_spot h0
              subst hsp
              rw [add_plain, ← h15n]
              exact rd_drop hR1 hle
          have H15 := Lib.hid h15r
          have HLN : Hid ((wordL L s).length = 0 + at0 + 1 + (L.length - at0)) := by show _ = _; rw [HLM.out]; omega
          have H13b : Hid (0 + at0 ≤ 1000000000) := by show _ ≤ _; omega
          have H14b : Hid (0 + at0 + 1 ≤ 1000000000) := by show _ ≤ _; omega
          have H15b : Hid (0 + at0 + 1 + (L.length - at0) ≤ 1000000000) := by show _ ≤ _; omega
          have hca2 : ¬ (at0 = cap) := fun e => hca e.symm
          have hsub : (L.length : Int) - (at0 : Int) = ((L.length - at0 : Nat) : Int) := by omega
          have hsub2 : (cap : Int) - (at0 : Int) = ((cap - at0 : Nat) : Int) := by omega
          clear hR1 h13r h13n h15n h15r hle hnil h200 HLM HAW
          go_wp2_with (at_builtin; first
            | (refine app_src rfl _ _ 22 rfl wr wr 64 i0 _ 3 32 Tryz.underlying22 hii hz0 hz1 hz2 rfl (by decide) (by decide) (World.ownsRow_nil _ _ _ _) (Below.refl _ _) rfl (some ⟨B, O, sp⟩) at0 cap H13n rfl H13.out (fun h => by cases h) H13c.out H13b.out ?_; intro v1 w3 hown1 hb3)
            | (refine app_new rfl _ _ 22 rfl wr w3 64 i0 _ 3 32 Tryz.underlying22 hii hz0 hz1 hz2 rfl (by decide) (by decide) hown1 hb3 rfl 1 1 [.int .i64 0, .string s, .int .i64 0] rfl rfl HONE.out H14b.out ?_; intro v2 w4 hown2 hb4)
            | (refine app_src rfl _ _ 22 rfl wr w4 64 i0 _ 3 32 Tryz.underlying22 hii hz0 hz1 hz2 rfl (by decide) (by decide) hown2 hb4 rfl (some ad3) (L.length - at0) (cap - at0) H15n rfl (H15.out.below hb4) (fun h => by cases h) H15c.out H15b.out ?_; intro v3 w5 hown3 hb5))
          refine bodyPost_ret (v := v3) (by simp [results, Tryz.results19, go_sem]) rfl ?_
          have hO : w5.ownsRow wr.heap.size 64 3 v3 (wordL L s).length (lines (wordL L s)) := by
            rw [HLN.out, HLW.out, HN13.out, HN15.out]; exact hown3
          obtain ⟨A', c', rfl, hc1, hc2, hRd, -⟩ := own_rd_nil hO
          exact ⟨⟨A', c', rfl, hc1, hc2, hRd⟩, below_step HB1.out hb5⟩
    · obtain ⟨q, rfl⟩ : ∃ q, j = q + 1 := ⟨j - 1, by omega⟩
      have hq : q < K.length := by omega
      have hi1 : ((q + 1 : Nat) : Int) - 1 = (q : Int) := by omega
      obtain ⟨B, O, rfl, hab, hadd, y0⟩ := HRk.out.intAt hq
      have hkl := HKL.out _ (List.getElem_mem hq)
      have had := Lib.hid (HAD.out q hq)
      generalize K[q] = z at *
      obtain ⟨B2, O2, rfl, hab2, hadd2, x0, x1, x2⟩ := (HR.out.below HB1.out).line hkl
      have hgt := HGT.out z hkl
      generalize L[z].word = u at *
      have hzi : (z : Int) < (L.length : Int) := by omega
      clear HGT HAD x0 x2
      cases hf : f z with
      | true =>
        rw [hf, Bool.not_true] at hgt
        rw [hf, if_pos rfl] at had
        have hg1 : Op.bytesLess u.toList s.toList = false := by cases h : Op.bytesLess u.toList s.toList <;> simp [h] at hgt ⊢
        have hg2 : (u.toList == s.toList) = false := by rw [hg1] at hgt; simpa using hgt
        have hg3 : ¬ u.toList = s.toList := by simpa using hg2
        clear hf
        go_wp2_with fail
        go_roundw
        case rel => exact ⟨q, by omega, rfl, by rw [had.out], by first | rfl | trivial⟩
        case measure => simp [intOf]
      | false =>
        rw [hf, Bool.not_false] at hgt
        rw [hf, if_neg (by simp)] at had
        have hg4 : (!(Op.bytesLess u.toList s.toList) && !(u.toList == s.toList)) = false := by
          rw [← Bool.not_or, hgt]; rfl
        clear hf
        go_wp2_with fail
        go_roundw
        case rel => exact ⟨q, by omega, rfl, by rw [had.out], by first | rfl | trivial⟩
        case measure => simp [intOf]
end Go.Proofs.YtlldjkhlhfnfeaaGreatDoor
