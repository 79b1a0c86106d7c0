/- Plain facts: what is under a line, what stands at a path, and what is a tree, in the reference's words too. No program in sight. A walk: the reference's Num. -/
import Derived.Test.YtjdknhalcpkeaaaGreatDoorProg
import Derived.WalkKit
import Derived.WalkSpells
import Derived.WalkLawsBesides
import Derived.Lib.Hide
import Derived.Test.YtjdknhalcpkeaaaGreatDoorJ07
import Derived.Test.YtjdknhalcpkeaaaGreatDoorJ01
namespace Tre
open Go
theorem right_parts {L : List Line} (h : rightB L = true) : L.length ≤ 200 ∧ depFrom [] L = true ∧ srtFrom [] L = true := by
 rw [right_steps] at h; simpa using h
theorem paths_range (L : List Line) : paths L = (List.range L.length).map (pa L) := by
 apply List.ext_getElem
 · rw [paths_length]; simp
 · intro i h1 h2
   rw [List.getElem_map, List.getElem_range, pa_lt (by rwa [paths_length] at h1)]
theorem end_spec {L : List Line} {D : Int} : ∀ (n k : Nat), n = L.length - k → k ≤ L.length → (∀ m, k ≤ m → m < endFrom L D k → D < depthAt L m) ∧ (endFrom L D k < L.length → depthAt L (endFrom L D k) ≤ D)
 | 0, k, h, hk => by
   obtain rfl : k = L.length := by omega
   rw [endFrom_end]
   exact ⟨fun m a b => by omega, fun h => by omega⟩
 | n + 1, k, h, hk => by
   have hlt : k < L.length := by omega
   by_cases hd : D < L[k].depth
   · rw [endFrom_step hlt hd]
     obtain ⟨a, b⟩ := end_spec (L := L) (D := D) n (k + 1) (by omega) (by omega)
     refine ⟨fun m x y => ?_, b⟩
     rcases Nat.eq_or_lt_of_le x with rfl | x
     · rw [depthAt_lt hlt]; exact hd
     · exact a m x y
   · rw [endFrom_stop hlt hd]
     exact ⟨fun m x y => by omega, fun _ => by rw [depthAt_lt hlt]; omega⟩
theorem end_in {L : List Line} {i k : Nat} (hi : i < L.length) (h1 : i < k) (h2 : k < endB L i) : depthAt L i < depthAt L k :=
 (end_spec (L := L) (D := depthAt L i) _ (i + 1) rfl (by omega)).1 k h1 h2
theorem end_out {L : List Line} {i : Nat} (hi : i < L.length) (h : endB L i < L.length) : depthAt L (endB L i) ≤ depthAt L i :=
 (end_spec (L := L) (D := depthAt L i) _ (i + 1) rfl (by omega)).2 h
theorem filter_range {f : Nat → Bool} {n : Nat} : ∀ {m : Nat}, n ≤ m → (∀ k, n ≤ k → k < m → f k = false) → (List.range m).filter f = (List.range n).filter f := by
 intro m
 induction m with
 | zero => intro h _; rw [show n = 0 by omega]
 | succ m ih =>
   intro h hf
   by_cases e : n = m + 1
   · rw [e]
   · rw [List.range_succ, List.filter_append, ih (by omega) (fun k a b => hf k a (by omega))]
     simp [hf m (by omega) (by omega)]
def isKid (p q : List ByteArray) : Bool := decide (q.length = p.length + 1) && decide (q.take p.length = p)
def kw (S : List (List ByteArray)) (p : List ByteArray) : List ByteArray := (S.filter (isKid p)).map fun q => q.getLastD ⟨#[]⟩
theorem isKid_iff {p q : List ByteArray} : isKid p q = true ↔ ∃ w, q = p ++ [w] := by
 unfold isKid
 simp only [Bool.and_eq_true, decide_eq_true_eq]
 constructor
 · rintro ⟨h1, h2⟩
   have h3 : (q.drop p.length).length = 1 := by rw [List.length_drop]; omega
   obtain ⟨w, hw⟩ := List.length_eq_one_iff.1 h3
   exact ⟨w, by conv => lhs; rw [← List.take_append_drop p.length q]
                rw [h2, hw]⟩
 · rintro ⟨w, rfl⟩; simp
section
variable {L : List Line} (hr : rightB L = true)
include hr
theorem pa_up {i k : Nat} (h : i < k) (hk : k < L.length) : pLt (pa L i) (pa L k) := by
 obtain ⟨-, hd, hs⟩ := right_parts hr
 have := (pathsFrom_up hd hs).2
 rw [pa_lt (by omega : i < L.length), pa_lt hk]
 exact List.pairwise_iff_getElem.1 this i k _ _ h
theorem pa_inj {i k : Nat} (hi : i < L.length) (hk : k < L.length) (e : pa L i = pa L k) : i = k := by
 rcases Nat.lt_trichotomy i k with h | h | h
 · have := pa_up hr h hk
   rw [e] at this
   exact absurd this (pLt_irrefl _)
 · exact h
 · have := pa_up hr h hi
   rw [e] at this
   exact absurd this (pLt_irrefl _)
theorem pre_iff {i k : Nat} (hi : i < L.length) (hk : k < L.length) : (∃ s, pa L k = pa L i ++ s) ↔ i ≤ k ∧ k < endB L i := by
 obtain ⟨-, hd, -⟩ := right_parts hr
 have hb := endB_le L i hi
 have hl := pa_len hd hi
 have hn := dep_nn hd hi
 constructor
 · rintro ⟨s, hs⟩
   have h1 : i ≤ k := by
    rcases Nat.lt_or_ge k i with h | h
    · exfalso
      have hu := pa_up hr h hi
      rw [hs] at hu
      cases s with
      | nil => rw [List.append_nil] at hu; exact pLt_irrefl _ hu
      | cons x s => exact pLt_irrefl _ (pLt_trans hu (pLt_push _ _ _))
    · exact h
   refine ⟨h1, ?_⟩
   rcases Nat.lt_or_ge k (endB L i) with h | h
   · exact h
   · exfalso
     have he : endB L i < L.length := by omega
     have ho := end_out hi he
     have hl2 := pa_len hd he
     have hn2 := dep_nn hd he
     have hu := pa_up hr (by omega : i < endB L i) he
     obtain ⟨t, ht⟩ := between hu (t := s) (by
      rw [← hs]
      rcases Nat.eq_or_lt_of_le h with h | h
      · exact .inr (by rw [h])
      · exact .inl (pa_up hr h hk))
     have hlen : (pa L (endB L i)).length ≤ (pa L i).length := by omega
     rw [ht, List.length_append] at hlen
     have : t = [] := List.eq_nil_of_length_eq_zero (by omega)
     rw [this, List.append_nil] at ht
     rw [ht] at hu
     exact pLt_irrefl _ hu
 · rintro ⟨h1, h2⟩
   have hk2 := pa_keep hd (D := (pa L i).length) h1 hk (fun m a b => by
    have := end_in hi a (by omega)
    rw [hl]; omega)
   rw [List.take_length] at hk2
   exact ⟨(pa L k).drop (pa L i).length, by conv => lhs; rw [← List.take_append_drop (pa L i).length (pa L k), hk2]⟩
theorem kid_iff {i k : Nat} (hi : i < L.length) (hk : k < L.length) : isKid (pa L i) (pa L k) = true ↔ i + 1 ≤ k ∧ k < endB L i ∧ depthAt L k = depthAt L i + 1 := by
 obtain ⟨-, hd, -⟩ := right_parts hr
 have hl := pa_len hd hi
 have hn := dep_nn hd hi
 have hl2 := pa_len hd hk
 have hn2 := dep_nn hd hk
 rw [isKid_iff]
 constructor
 · rintro ⟨w, hw⟩
   obtain ⟨a, b⟩ := (pre_iff hr hi hk).1 ⟨_, hw⟩
   have hlen : (pa L k).length = (pa L i).length + 1 := by rw [hw]; simp
   refine ⟨?_, b, by omega⟩
   rcases Nat.eq_or_lt_of_le a with rfl | h
   · omega
   · exact h
 · rintro ⟨a, b, c⟩
   obtain ⟨s, hs⟩ := (pre_iff hr hi hk).2 ⟨by omega, b⟩
   have hlen : (pa L k).length = (pa L i).length + s.length := by rw [hs]; simp
   obtain ⟨w, rfl⟩ := List.length_eq_one_iff.1 (by omega : s.length = 1)
   exact ⟨w, hs⟩
theorem kidsB_filter {i : Nat} (hi : i < L.length) : kidsB L i = (List.range L.length).filter fun k => isKid (pa L i) (pa L k) := by
 have hb := endB_le L i hi
 rw [filter_range (n := endB L i) hb.2 (fun k a b => by
  rw [Bool.eq_false_iff]
  intro h
  have := (kid_iff hr hi b).1 h
  omega)]
 unfold kidsB kidsTo
 apply List.filter_congr
 intro k hk
 have hk' : k < endB L i := List.mem_range.1 hk
 rw [Bool.eq_iff_iff, kid_iff hr hi (by omega)]
 simp only [Bool.and_eq_true, decide_eq_true_eq]
 exact ⟨fun h => ⟨h.1, hk', h.2⟩, fun h => ⟨h.1, h.2.2⟩⟩
theorem pa_last {k : Nat} (hk : k < L.length) : (pa L k).getLastD ⟨#[]⟩ = wordAt L k := by
 obtain ⟨-, hd, -⟩ := right_parts hr
 rcases Nat.eq_zero_or_pos k with rfl | hp
 · rw [pa_zero hd hk]; rfl
 · have := pa_succ (L := L) (i := k - 1) (by omega)
   rw [show k - 1 + 1 = k by omega] at this
   rw [this]; simp
theorem kids_words {i : Nat} (hi : i < L.length) : (kidsB L i).map (wordAt L) = kw (paths L) (pa L i) := by
 rw [kidsB_filter hr hi]
 unfold kw
 rw [paths_range, List.filter_map, List.map_map]
 apply List.map_congr_left
 intro k hk
 have hk' : k < L.length := List.mem_range.1 (List.mem_filter.1 hk).1
 exact (pa_last hr hk').symm
theorem under_iff {i k : Nat} (hi : i < L.length) (hk : k < L.length) : underB L k = (i : Int) ↔ isKid (pa L i) (pa L k) = true := by
 obtain ⟨-, hd, -⟩ := right_parts hr
 constructor
 · intro h
   by_cases h0 : depthAt L k = 0
   · exfalso
     have := under_zero hd h0 k (by omega)
     unfold underB at h
     omega
   · obtain ⟨j, a, b, c, d, e⟩ := up_of hd hk h0
     rw [isKid_iff]
     have : j = i := by omega
     subst this
     exact ⟨_, e⟩
 · intro h
   have hk2 := (kid_iff hr hi hk).1 h
   have hn := dep_nn hd hi
   obtain ⟨j, a, b, c, d, e⟩ := up_of hd hk (by omega)
   obtain ⟨w, hw⟩ := isKid_iff.1 h
   rw [e] at hw
   have := (List.append_inj_left' hw rfl)
   have := pa_inj hr (by omega) hi this
   rw [b, this]
theorem refKids_eq {i : Nat} (hi : i < L.length) : refKids L i = kidsB L i := by
 rw [kidsB_filter hr hi]
 unfold refKids refKidsTo
 apply List.filter_congr
 intro k hk
 have hk' : k < L.length := List.mem_range.1 hk
 rw [Bool.eq_iff_iff, decide_eq_true_eq, under_iff hr hi hk']
theorem findGo_some {P : List ByteArray} : ∀ (n i p : Nat), n = L.length - i → i ≤ L.length → p < P.length → (∀ k, k < i → pa L k ≠ P.take (p + 1)) →
 (p = 0 ∨ ∃ j, j < i ∧ pa L j = P.take p ∧ ∀ m, j < m → m < i → (p : Int) ≤ depthAt L m) →
 (∀ k, findGo P p i (L.drop i) = some k → k < L.length ∧ pa L k = P) ∧ (findGo P p i (L.drop i) = none → ∀ k, k < L.length → pa L k ≠ P)
 | 0, i, p, hn, hi, hp, ha, hb => by
   obtain ⟨-, hd, -⟩ := right_parts hr
   obtain rfl : i = L.length := by omega
   rw [List.drop_length]
   unfold findGo
   refine ⟨fun k h => (by cases h), fun _ k hk e => ?_⟩
   obtain ⟨m, hm, hm2⟩ := head_at hd hk (q := p + 1) (by omega) (by rw [e]; omega)
   exact ha m (by omega) (by rw [hm2, e])
 | n + 1, i, p, hn, hi, hp, ha, hb => by
   obtain ⟨-, hd, -⟩ := right_parts hr
   have hlt : i < L.length := by omega
   have hl := pa_len hd hlt
   have hnn := dep_nn hd hlt
   rw [List.drop_eq_getElem_cons hlt]
   unfold findGo
   rw [← depthAt_lt hlt, ← wordAt_lt hlt]
   have htake : (P.take (p + 1)).length = p + 1 := by rw [List.length_take]; omega
   by_cases h1 : depthAt L i < (p : Int)
   · rw [if_pos h1]
     refine ⟨fun k h => (by cases h), fun _ k hk e => ?_⟩
     obtain ⟨m, hm, hm2⟩ := head_at hd hk (q := p + 1) (by omega) (by rw [e]; omega)
     have hmi : ¬ m < i := fun h => ha m h (by rw [hm2, e])
     rcases hb with rfl | ⟨j, hj, hj2, hj3⟩
     · omega
     · obtain ⟨-, hke⟩ := (pre_iff hr (i := j) (k := k) (by omega) hk).1 ⟨P.drop p, by rw [e, hj2, List.take_append_drop]⟩
       have hlj := pa_len hd (i := j) (by omega)
       have hnj := dep_nn hd (i := j) (by omega)
       have hpl : (P.take p).length = p := by rw [List.length_take]; omega
       rw [hj2, hpl] at hlj
       have := end_in (L := L) (i := j) (k := i) (by omega) hj (by omega)
       omega
   · rw [if_neg h1]
     have hkeep : p = 0 ∨ ∃ j, j < i + 1 ∧ pa L j = P.take p ∧ ∀ m, j < m → m < i + 1 → (p : Int) ≤ depthAt L m := by
      rcases hb with h | ⟨j, a, b, c⟩
      · exact .inl h
      · refine .inr ⟨j, by omega, b, fun m x y => ?_⟩
        rcases Nat.lt_or_ge m i with h | h
        · exact c m x h
        · rw [show m = i by omega]; omega
     by_cases h2 : (p : Int) < depthAt L i
     · rw [if_pos h2]
       refine findGo_some n (i + 1) p (by clear ha hb hkeep; omega) (by clear ha hb hkeep; omega) hp (fun k hk => ?_) hkeep
       rcases Nat.lt_or_ge k i with h | h
       · exact ha k h
       · rw [show k = i by omega]
         intro e; rw [e, htake] at hl; omega
     · rw [if_neg h2]
       have hdp : depthAt L i = (p : Int) := by omega
       have hpa : pa L i = P.take p ++ [wordAt L i] := by
        by_cases h0 : p = 0
        · subst h0
          rcases Nat.eq_zero_or_pos i with rfl | hpos
          · rw [pa_zero hd hlt]; rfl
          · have := pa_succ (L := L) (i := i - 1) (by omega)
            rw [show i - 1 + 1 = i by omega, hdp] at this
            rw [this]; rfl
        · obtain ⟨j, a, b, c⟩ := hb.resolve_left h0
          have := pa_succ (L := L) (i := i - 1) (by omega)
          rw [show i - 1 + 1 = i by omega, hdp, Int.toNat_natCast] at this
          rw [this, pa_keep hd (D := p) (i := j) (k := i - 1) (by omega) (by omega) (fun m x y => c m x (by omega)), b, List.take_take, Nat.min_self]
       have hgetD : P.getD p ⟨#[]⟩ = P[p] := by rw [List.getD_eq_getElem?_getD, List.getElem?_eq_getElem hp]; rfl
       rw [hgetD]
       by_cases h3 : wordAt L i = P[p]
       · rw [if_neg (by rw [h3]; simp)]
         have hpa2 : pa L i = P.take (p + 1) := by rw [hpa, h3, List.take_succ_eq_append_getElem hp]
         by_cases h4 : p + 1 = P.length
         · rw [if_pos h4]
           have hP : pa L i = P := by rw [hpa2, h4, List.take_length]
           exact ⟨fun k h => (by cases h; exact ⟨hlt, hP⟩), fun h => (by cases h)⟩
         · rw [if_neg h4]
           refine findGo_some n (i + 1) (p + 1) (by clear ha hb hkeep; omega) (by omega) (by omega) (fun k hk e => ?_) (.inr ⟨i, by omega, hpa2, fun m x y => by omega⟩)
           rcases Nat.lt_or_ge k i with h | h
           · obtain ⟨m, hm, hm2⟩ := head_at hd (i := k) (by omega) (q := p + 1) (by omega) (by rw [e, List.length_take]; omega)
             refine ha m (by omega) ?_
             rw [hm2, e, List.take_take, Nat.min_eq_left (by omega)]
           · rw [show k = i by omega] at e
             rw [e, List.length_take] at hl; omega
       · have hb2 : ((wordAt L i).toList == P[p].toList) = false := by
          rw [beq_eq_false_iff_ne]
          intro e; exact h3 (bytes_inj e)
         rw [if_pos hb2]
         refine findGo_some n (i + 1) p (by clear ha hb hkeep; omega) (by clear ha hb hkeep; omega) hp (fun k hk => ?_) hkeep
         rcases Nat.lt_or_ge k i with h | h
         · exact ha k h
         · rw [show k = i by omega, hpa, List.take_succ_eq_append_getElem hp]
           intro e
           have := List.append_cancel_left e
           simp only [List.cons.injEq, and_true] at this
           exact h3 this
theorem findB_some {P : List ByteArray} {k : Nat} (h : findB L P = some k) : k < L.length ∧ pa L k = P := by
 unfold findB at h
 split at h
 · cases h
 · exact (findGo_some hr (P := P) _ 0 0 rfl (Nat.zero_le _) (by omega) (fun k hk => by omega) (.inl rfl)).1 k (by rw [List.drop_zero]; exact h)
theorem findB_none {P : List ByteArray} (h : findB L P = none) {k : Nat} (hk : k < L.length) : pa L k ≠ P := by
 obtain ⟨-, hd, -⟩ := right_parts hr
 unfold findB at h
 split at h
 · intro e
   have := pa_len hd hk
   have := dep_nn hd hk
   rw [e] at *
   omega
 · exact (findGo_some hr (P := P) _ 0 0 rfl (Nat.zero_le _) (by omega) (fun k hk => by omega) (.inl rfl)).2 (by rw [List.drop_zero]; exact h) k hk
theorem findB_at {k : Nat} (hk : k < L.length) : findB L (pa L k) = some k := by
 cases h : findB L (pa L k) with
 | none => exact absurd rfl (findB_none hr h hk)
 | some j =>
   obtain ⟨hj, e⟩ := findB_some hr h
   rw [pa_inj hr hj hk e]
theorem find_mem {P : List ByteArray} : (findB L P).isSome = true ↔ P ∈ paths L := by
 rw [paths_range, List.mem_map]
 constructor
 · intro h
   obtain ⟨k, hk⟩ := Option.isSome_iff_exists.1 h
   obtain ⟨a, b⟩ := findB_some hr hk
   exact ⟨k, by simpa using a, b⟩
 · rintro ⟨k, hk, rfl⟩
   rw [findB_at hr (by simpa using hk)]; rfl
theorem refHit_iff {P : List ByteArray} {k : Nat} (hk : k < L.length) : refHit L P k = true ↔ pa L k = P := by
 obtain ⟨-, hd, -⟩ := right_parts hr
 unfold refHit
 rw [path_pa hd hk]
 simp only [Bool.and_eq_true, decide_eq_true_eq]
 refine ⟨fun h => h.2, fun h => ⟨?_, h⟩⟩
 have := pa_len hd hk
 have := dep_nn hd hk
 rw [h] at *; omega
theorem refFind_from {P : List ByteArray} : ∀ (n i : Nat), n = L.length - i → i ≤ L.length → (∀ k, k < i → pa L k ≠ P) → refFindFrom L P i n = match findB L P with | some k => (k : Int) | none => -1
 | 0, i, hn, hi, ha => by
   unfold refFindFrom
   cases h : findB L P with
   | none => rfl
   | some k =>
     obtain ⟨hk, e⟩ := findB_some hr h
     exact absurd e (ha k (by omega))
 | n + 1, i, hn, hi, ha => by
   unfold refFindFrom
   by_cases h : pa L i = P
   · rw [if_pos ((refHit_iff hr (by omega)).2 h), ← h, findB_at hr (by omega)]
   · rw [if_neg (fun h2 => h ((refHit_iff hr (by omega)).1 h2))]
     refine refFind_from n (i + 1) (by omega) (by omega) (fun k hk => ?_)
     rcases Nat.lt_or_ge k i with h2 | h2
     · exact ha k h2
     · rw [show k = i by omega]; exact h
theorem refFind_eq (P : List ByteArray) : refFind L P = match findB L P with | some k => (k : Int) | none => -1 :=
 refFind_from hr _ 0 rfl (Nat.zero_le _) (fun k hk => by omega)
end
theorem lines_dep (L : List Line) : allFrom (lineOk L) 0 L.length = true ↔ depFrom [] L = true := by
 suffices h : ∀ (M : List Line) (i : Nat) (p : List ByteArray), M = L.drop i → i ≤ L.length → (p.length : Int) = (if i = 0 then 0 else depthAt L (i - 1) + 1) → ((∀ k, i ≤ k → k < L.length → lineOk L k = true) ↔ depFrom p M = true) by
  rw [allFrom_iff, ← h L 0 [] rfl (Nat.zero_le _) rfl]
  exact ⟨fun h k a b => h k a (by omega), fun h k a b => h k a (by omega)⟩
 intro M
 induction M with
 | nil =>
   intro i p hM hi hp
   have : L.length ≤ i := by simpa using List.drop_eq_nil_iff.1 hM.symm
   exact ⟨fun _ => rfl, fun _ k a b => by omega⟩
 | cons l r ih =>
   intro i p hM hi hp
   have hlt : i < L.length := by
    rcases Nat.lt_or_ge i L.length with h | h
    · exact h
    · rw [List.drop_eq_nil_iff.2 h] at hM; cases hM
   rw [List.drop_eq_getElem_cons hlt] at hM
   injection hM with hl hr
   have hok : lineOk L i = true ↔ soundB l = true ∧ l.depth ≤ (p.length : Int) := by
    unfold lineOk
    rw [lineAt_lt hlt, ← hl, Bool.and_eq_true, hp]
    by_cases h0 : i = 0
    · rw [if_pos h0, if_pos h0, decide_eq_true_eq]
      constructor
      · rintro ⟨a, b⟩; exact ⟨a, by omega⟩
      · rintro ⟨a, b⟩; have := sound_depth a; exact ⟨a, by omega⟩
    · rw [if_neg h0, if_neg h0, decide_eq_true_eq]
   unfold depFrom
   simp only [Bool.and_eq_true, decide_eq_true_eq]
   rw [← hok]
   constructor
   · intro h
     have h1 := h i (Nat.le_refl _) hlt
     refine ⟨h1, ?_⟩
     obtain ⟨a, b⟩ := hok.1 h1
     refine (ih (i + 1) (nxt p l) hr (by omega) ?_).1 (fun k x y => h k (by omega) y)
     rw [nxt_len (sound_depth a).1 b, if_neg (by omega), Nat.add_sub_cancel, depthAt_lt hlt, ← hl]
   · rintro ⟨h1, h2⟩ k x y
     obtain ⟨a, b⟩ := hok.1 h1
     rcases Nat.eq_or_lt_of_le x with rfl | x
     · exact h1
     · refine (ih (i + 1) (nxt p l) hr (by omega) ?_).2 h2 k x y
       rw [nxt_len (sound_depth a).1 b, if_neg (by omega), Nat.add_sub_cancel, depthAt_lt hlt, ← hl]
theorem pair_iff {L : List Line} {i : Nat} : ∀ (n k : Nat), n = L.length - k → (pairFrom L i k n = true ↔ ∀ m, k ≤ m → m < L.length → (∀ j, k ≤ j → j ≤ m → depthAt L i ≤ depthAt L j) → depthAt L m = depthAt L i → leB (wordAt L m) (wordAt L i) = false)
 | 0, k, hn => by unfold pairFrom; exact ⟨fun _ m a b => by omega, fun _ => rfl⟩
 | n + 1, k, hn => by
   unfold pairFrom
   by_cases h : depthAt L k < depthAt L i
   · rw [if_pos h]
     exact ⟨fun _ m a b c => by have := c k (Nat.le_refl _) a; omega, fun _ => rfl⟩
   · rw [if_neg h]
     by_cases h2 : (decide (depthAt L k = depthAt L i) && leB (wordAt L k) (wordAt L i)) = true
     · rw [if_pos h2]
       simp only [Bool.and_eq_true, decide_eq_true_eq] at h2
       refine ⟨fun h => (by cases h), fun h3 => ?_⟩
       have := h3 k (Nat.le_refl _) (by omega) (fun j a b => by rw [show j = k by omega]; omega) h2.1
       rw [h2.2] at this; cases this
     · rw [if_neg h2, pair_iff n (k + 1) (by omega)]
       constructor
       · intro h3 m a b c e
         rcases Nat.eq_or_lt_of_le a with rfl | a
         · simp only [Bool.and_eq_true, decide_eq_true_eq, not_and, Bool.not_eq_true] at h2
           exact h2 e
         · exact h3 m a b (fun j x y => c j (by omega) y) e
       · intro h3 m a b c e
         refine h3 m (by omega) b (fun j x y => ?_) e
         rcases Nat.eq_or_lt_of_le x with rfl | x
         · omega
         · exact c j x y
theorem srt_at {L : List Line} (hd : depFrom [] L = true) : srtFrom [] L = true ↔ ∀ i (h : i + 1 < L.length), srtOk (pa L i) L[i + 1] = true := by
 suffices hg : ∀ (M : List Line) (p : List ByteArray), srtFrom p M = true ↔ (∀ (h : 0 < M.length), srtOk p M[0] = true) ∧ ∀ i (h : i + 1 < M.length), srtOk ((pathsFrom p M)[i]'(by rw [pathsFrom_len]; omega)) M[i + 1] = true by
  rw [hg]
  constructor
  · rintro ⟨-, h⟩ i hi
    rw [pa_lt (by omega : i < L.length)]; exact h i hi
  · intro h
    refine ⟨fun h0 => ?_, fun i hi => ?_⟩
    · unfold srtOk; rw [depFrom_zero hd h0]; rfl
    · have := h i hi
      rwa [pa_lt (by omega : i < L.length)] at this
 intro M
 induction M with
 | nil => intro p; exact ⟨fun _ => ⟨fun h => by simp at h, fun i h => by simp at h⟩, fun _ => rfl⟩
 | cons l r ih =>
   intro p
   unfold srtFrom
   rw [Bool.and_eq_true, ih]
   constructor
   · rintro ⟨h1, h2, h3⟩
     refine ⟨fun _ => h1, fun i hi => ?_⟩
     cases i with
     | zero => exact h2 (by simpa using hi)
     | succ i => exact h3 i (by simpa using hi)
   · rintro ⟨h1, h2⟩
     exact ⟨h1 (by simp), fun h => h2 0 (by simpa using h), fun i hi => h2 (i + 1) (by simpa using hi)⟩
theorem less_le (a b : ByteArray) : leB a b = false ↔ b.toList < a.toList := by
 unfold leB
 rw [less_tri, Proofs.bytesLess_eq]; simp
theorem right_ref (L : List Line) : rightR L = rightB L := by
 rw [right_steps]
 unfold rightR
 by_cases hl : L.length ≤ 200
 · rw [decide_eq_true hl]
   by_cases hd : depFrom [] L = true
   · rw [hd, (lines_dep L).2 hd]
     simp only [Bool.true_and]
     rw [Bool.eq_iff_iff, srt_at hd, allFrom_iff]
     constructor
     · intro h i hi
       unfold srtOk
       rw [Bool.or_eq_true, decide_eq_true_eq]
       have hln := pa_len hd (by omega : i < L.length)
       have hn := dep_nn hd (by omega : i < L.length)
       have hn2 := dep_nn hd hi
       have hs := dep_step hd hi
       rw [← depthAt_lt hi, ← wordAt_lt hi]
       by_cases e : depthAt L (i + 1) = ((pa L i).length : Int)
       · exact .inl e
       · right
         obtain ⟨D, hD⟩ : ∃ D : Nat, depthAt L (i + 1) = (D : Int) := ⟨(depthAt L (i + 1)).toNat, by omega⟩
         obtain ⟨j, a, b, c, d, f⟩ := under_at hd (D := D + 1) (by omega) (k := i + 1) (by omega) (by omega) (by rw [Nat.add_sub_cancel]; omega)
         rw [Nat.add_sub_cancel] at f
         have hp := (pair_iff (L := L) (i := j) _ (j + 1) rfl).1 (h j (Nat.zero_le _) (by omega)) (i + 1) (by omega) hi (fun m x y => by
          rcases Nat.lt_or_ge m (i + 1) with hm | hm
          · have := d m (by omega) hm; omega
          · rw [show m = i + 1 by omega]; omega) (by omega)
         have hlt : D < (pa L i).length := by omega
         have hw : (pa L i).getD D ⟨#[]⟩ = wordAt L j := by
          rw [List.getD_eq_getElem?_getD, List.getElem?_eq_getElem hlt]
          show (pa L i)[D] = _
          have hlast : pa L j = (pa L i).take D ++ [(pa L i)[D]] := by rw [f, List.take_succ_eq_append_getElem hlt]
          rcases Nat.eq_zero_or_pos j with rfl | hp0
          · rw [pa_zero hd (by omega)] at hlast
            have hl0 : ((pa L i).take D).length = 0 := by
             have := congrArg List.length hlast
             simp at this; rw [List.length_take]; omega
            rw [List.eq_nil_of_length_eq_zero hl0] at hlast
            simpa using hlast.symm
          · have hq := pa_succ (L := L) (i := j - 1) (by omega)
            rw [show j - 1 + 1 = j by omega] at hq
            rw [hq] at hlast
            have := List.append_inj_right' hlast rfl
            simpa using this.symm
         rw [hD, Int.toNat_natCast, hw, Proofs.bytesLess_eq, decide_eq_true_eq]
         exact (less_le _ _).1 hp
     · intro h i _ hi
       unfold pairOk
       refine (pair_iff _ (i + 1) rfl).2 (fun m a b c e => ?_)
       have hi' : i < L.length := by omega
       have hsrt : srtFrom [] L = true := (srt_at hd).2 h
       have hr : rightB L = true := by rw [right_steps, hd, hsrt, decide_eq_true hl]; rfl
       rw [less_le]
       have hu := pa_up hr (by omega : i < m) b
       have hn := dep_nn hd hi'
       obtain ⟨D, hD⟩ : ∃ D : Nat, depthAt L i = (D : Int) := ⟨(depthAt L i).toNat, by omega⟩
       have hm1 := pa_succ (L := L) (i := m - 1) (by omega)
       rw [show m - 1 + 1 = m by omega, e, hD, Int.toNat_natCast] at hm1
       have hk := pa_keep hd (D := D) (i := i) (k := m - 1) (by omega) (by omega) (fun j x y => by have := c j (by omega) (by omega); omega)
       rw [hm1, hk] at hu
       have hil : pa L i = (pa L i).take D ++ [wordAt L i] := by
        rcases Nat.eq_zero_or_pos i with rfl | hp0
        · rw [pa_zero hd hi', show D = 0 by have := dep_zero hd hi'; omega]; rfl
        · have hq := pa_succ (L := L) (i := i - 1) (by omega)
          rw [show i - 1 + 1 = i by omega, hD, Int.toNat_natCast] at hq
          have ht : (pa L i).take D = (pa L (i - 1)).take D := by
           have hln := pa_len hd (by omega : i - 1 < L.length)
           have hn1 := dep_nn hd (by omega : i - 1 < L.length)
           have hs := dep_step hd (i := i - 1) (by omega)
           rw [show i - 1 + 1 = i by omega] at hs
           rw [hq, List.take_append_of_le_length (by rw [List.length_take]; omega), List.take_take, Nat.min_self]
          rw [ht]; exact hq
       rw [hil] at hu
       rw [List.take_append_of_le_length (by
        have := pa_len hd hi'
        rw [List.length_take]; omega), List.take_take, Nat.min_self] at hu
       have := pLt_front.1 hu
       rw [pLt_cons_iff] at this
       rcases this with h | ⟨-, h⟩
       · exact h
       · exact absurd h (pLt_nil_not _)
   · have h1 : depFrom [] L = false := by simpa using hd
     have h2 : allFrom (lineOk L) 0 L.length = false := by
      rw [Bool.eq_false_iff]; exact fun h => hd ((lines_dep L).1 h)
     rw [h1, h2]; simp
 · rw [decide_eq_false hl]; rfl
end Tre
namespace Adr
open Go
def valN (s : ByteArray) (k : Nat) : Int := (val (s.data.toList.take k) : Int)
def digs (s : ByteArray) (k : Nat) : Bool := (s.data.toList.take k).all isDig
theorem take_snoc (s : ByteArray) (k : Nat) (h : k < s.size) : s.data.toList.take (k + 1) = s.data.toList.take k ++ [s[k]] := by
 rw [List.take_succ_eq_append_getElem (by simpa using h)]; rfl
theorem valN_zero (s : ByteArray) : valN s 0 = 0 := by unfold valN; rw [List.take_zero]; rfl
theorem digs_zero (s : ByteArray) : digs s 0 = true := by unfold digs; rw [List.take_zero]; rfl
theorem valN_succ (s : ByteArray) (k : Nat) (h : k < s.size) (h48 : 48 ≤ s[k].toNat) : valN s (k + 1) = 10 * valN s k + ((s[k].toNat : Int) - 48) := by
 unfold valN val
 rw [take_snoc s k h, valFrom_append, valFrom_cons, valFrom_nil]; omega
theorem digs_succ (s : ByteArray) (k : Nat) (h : k < s.size) : digs s (k + 1) = (digs s k && isDig s[k]) := by
 unfold digs
 rw [take_snoc s k h, List.all_append]; simp
theorem valN_bd (s : ByteArray) (k : Nat) (hk : k ≤ 10) (hd : digs s k = true) : 0 ≤ valN s k ∧ valN s k < 10000000000 := by
 have h1 := val_lt _ hd
 have h2 : (s.data.toList.take k).length ≤ 10 := by rw [List.length_take]; omega
 have h3 : 10 ^ (s.data.toList.take k).length ≤ 10 ^ 10 := Nat.pow_le_pow_right (by decide) h2
 unfold valN; omega
theorem list_size (s : ByteArray) : s.data.toList.length = s.size := by simp
theorem num_empty (s : ByteArray) (h : s.size < 1) : num s.data.toList = -1 := by
 refine num_of_not ?_
 have : s.data.toList = [] := List.length_eq_zero_iff.1 (by rw [list_size]; omega)
 rw [this]; rfl
theorem num_long (s : ByteArray) (h : 10 < s.size) : num s.data.toList = -1 := by
 refine num_of_not ?_
 rw [Bool.eq_false_iff]
 intro hc
 have := ((canon_iff _).1 hc).2.1
 rw [list_size] at this; omega
theorem head_get (s : ByteArray) (h : 0 < s.size) : s.data.toList.head? = some s[0] := by
 have : s.data.toList = s[0] :: s.data.toList.drop 1 := by
  have h1 := take_snoc s 0 h
  rw [List.take_zero, List.nil_append] at h1
  have h2 := List.take_append_drop 1 s.data.toList
  rw [h1] at h2; exact h2.symm
 rw [this]; rfl
theorem num_zeros (s : ByteArray) (h : 1 < s.size) (h0 : s[0].toNat = 48) : num s.data.toList = -1 := by
 refine num_of_not ?_
 rw [Bool.eq_false_iff]
 intro hc
 have := ((canon_iff _).1 hc).2.2.2 s[0] (head_get s (by omega)) (UInt8.toNat_inj.1 (by rw [h0]; rfl))
 rw [list_size] at this; omega
theorem num_other (s : ByteArray) (k : Nat) (h : k < s.size) (hd : isDig s[k] = false) : num s.data.toList = -1 := by
 refine num_of_not ?_
 rw [Bool.eq_false_iff]
 intro hc
 have := List.all_eq_true.1 ((canon_iff _).1 hc).2.2.1 s[k] (List.getElem_mem (by simpa using h))
 rw [hd] at this; cases this
theorem num_all (s : ByteArray) (h1 : 1 ≤ s.size) (h2 : s.size ≤ 10) (h3 : ¬ (s[0].toNat = 48 ∧ 1 < s.size)) (hd : digs s s.size = true) : num s.data.toList = valN s s.size := by
 unfold digs at hd
 unfold valN
 rw [List.take_of_length_le (by rw [list_size]; omega)] at hd ⊢
 refine num_of_canon ?_
 rw [canon_iff]
 refine ⟨?_, by rw [list_size]; omega, hd, ?_⟩
 · intro e
   have := congrArg List.length e
   rw [list_size] at this; simp only [List.length_nil] at this; omega
 · intro c hc h48
   rw [head_get s (by omega)] at hc
   rw [list_size]
   have : s[0].toNat = 48 := by
    have := Option.some.inj hc
    rw [this, h48]; rfl
   omega
end Adr
namespace Go.Proofs.YtjdknhalcpkeaaaGreatDoor
open Go.RowKit
set_option maxHeartbeats 1000000 in
theorem refNum_any (s : ByteArray) (w : World) (hs : s.size ≤ maxLen) :
 Calls Tryz.prog 146 #[.string s] w fun e w' => e = .returned (.int .i64 (Adr.num s.data.toList)) ∧ w = w' := by
 unfold maxLen at hs
 by_cases h0 : s.size < 1
 · have He := Lib.hid (Adr.num_empty s h0)
   go_enter Tryz.func146, Tryz.ntmps146
   go_wp2
   go_ret
   exact ⟨ret_int He.out.symm, rfl⟩
 · by_cases h1 : 10 < s.size
   · have He := Lib.hid (Adr.num_long s h1)
     go_enter Tryz.func146, Tryz.ntmps146
     go_wp2
     go_ret
     exact ⟨ret_int He.out.symm, rfl⟩
   · have hp : 0 < s.size := by omega
     have hl : s.size ≤ 10 := by omega
     by_cases h2 : s[0].toNat = 48 ∧ 1 < s.size
     · obtain ⟨h3, h4⟩ := h2
       have He := Lib.hid (Adr.num_zeros s h4 h3)
       have z1 : 48 ≤ s[0].toNat := by omega
       have z2 : s[0].toNat ≤ 48 := by omega
       clear h3
       go_enter Tryz.func146, Tryz.ntmps146
       go_wp2
       go_ret
       exact ⟨ret_int He.out.symm, rfl⟩
     · have HA := Lib.hid (Adr.num_all s (by omega) hl h2)
       have hcase : (s.size ≤ 1 ∧ 48 ≤ s[0].toNat ∧ s[0].toNat ≤ 48) ∨ s[0].toNat < 48 ∨ 48 < s[0].toNat := by omega
       clear h2
       rcases hcase with ⟨c1, c2, c3⟩ | c2 | c2
       all_goals
        go_enter Tryz.func146, Tryz.ntmps146
        go_wp2
        go_loop [3, 4] (fun n i => ∃ k : Nat, k ≤ s.size ∧ i = .int .i64 k ∧ Adr.digs s k = true ∧ n = .int .i64 (Adr.valN s k)) (fun _ i => s.size - (intOf i).toNat)
        case atStart => exact ⟨0, Nat.zero_le _, rfl, Adr.digs_zero s, by rw [Adr.valN_zero]⟩
        case round =>
         obtain ⟨k, hk, rfl, hd, rfl⟩ := hrel
         have hb := Adr.valN_bd s k (by omega) hd
         have Hd := Lib.hid hd
         clear hd
         by_cases hlt : k < s.size
         · have hc := s[k].toNat_lt
           by_cases hg : 48 ≤ s[k].toNat ∧ s[k].toNat ≤ 57
           · obtain ⟨g1, g2⟩ := hg
             have HV := Lib.hid (Adr.valN_succ s k hlt g1)
             have HD := Lib.hid (show Adr.digs s (k + 1) = true by rw [Adr.digs_succ s k hlt, Hd.out, (Adr.isDig_iff _).2 ⟨g1, g2⟩]; rfl)
             go_wp2
             go_round
             case rel => exact ⟨k + 1, by omega, by go_num, HD.out, by rw [HV.out]⟩
             case measure => simp [intOf]; omega
           · have HE := Lib.hid (Adr.num_other s k hlt (by rw [Bool.eq_false_iff]; exact fun e => hg ((Adr.isDig_iff _).1 e)))
             by_cases g1 : s[k].toNat < 48
             · clear hg
               go_wp2
               go_ret
               exact ⟨ret_int HE.out.symm, rfl⟩
             · have g2 : 57 < s[k].toNat := by omega
               clear hg
               go_wp2
               go_ret
               exact ⟨ret_int HE.out.symm, rfl⟩
         · obtain rfl : k = s.size := by omega
           go_wp2
           go_ret
           exact ⟨ret_int (HA.out Hd.out).symm, rfl⟩
end Go.Proofs.YtjdknhalcpkeaaaGreatDoor
