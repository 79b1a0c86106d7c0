/- Plain facts: what the library's Split, Cut, ReplaceAll and Join are at one byte. No program in sight. -/
import Derived.Test.YtlojeeakjgalpaaDoorParts
import Derived.Lib.ReplaceLaws
import Derived.Lib.Join
namespace Adr
open Go.Lib

theorem index_nil (c : UInt8) : index [] [c] = -1 := rfl
theorem index_eq (c : UInt8) (l : List UInt8) : index (c :: l) [c] = 0 := by
  rw [index, if_pos (by simp)]
theorem index_other (b c : UInt8) (l : List UInt8) (h : b ≠ c) : index (b :: l) [c] = if index l [c] == -1 then -1 else index l [c] + 1 := by
  rw [index, if_neg]
  simp only [List.isPrefixOf_cons_cons, Bool.and_eq_true, beq_iff_eq, not_and]
  intro e; exact absurd e.symm h
theorem index_miss (c : UInt8) (l : List UInt8) (h : c ∉ l) : index l [c] = -1 := by
  induction l with
  | nil => rfl
  | cons b r ih =>
    simp only [List.mem_cons, not_or] at h
    rw [index_other b c r (fun e => h.1 e.symm), ih h.2]; rfl
theorem index_at (c : UInt8) (a r : List UInt8) (h : c ∉ a) : index (a ++ c :: r) [c] = a.length := by
  induction a with
  | nil => exact index_eq c r
  | cons b a ih =>
    simp only [List.mem_cons, not_or] at h
    rw [List.cons_append, index_other b c _ (fun e => h.1 e.symm), ih h.2, if_neg (by simp)]
    simp
/-- A text that has the byte, at its first place. -/
theorem first_at (c : UInt8) (l : List UInt8) (h : c ∈ l) : ∃ a r, l = a ++ c :: r ∧ c ∉ a := by
  induction l with
  | nil => simp at h
  | cons b l ih =>
    by_cases e : b = c
    · subst e; exact ⟨[], l, rfl, by simp⟩
    · simp only [List.mem_cons] at h
      obtain ⟨a, r, hl, ha⟩ := ih (h.resolve_left fun x => e x.symm)
      refine ⟨b :: a, r, by rw [hl]; rfl, ?_⟩
      simp only [List.mem_cons, not_or]
      exact ⟨fun x => e x.symm, ha⟩
theorem take_at (c : UInt8) (a r : List UInt8) : (a ++ c :: r).take a.length = a := by simp
theorem drop_at (c : UInt8) (a r : List UInt8) : (a ++ c :: r).drop (a.length + 1) = r := by
  rw [← List.drop_drop]; simp

theorem cut_at (c : UInt8) (a r : List UInt8) (h : c ∉ a) : cut (a ++ c :: r) [c] = (a, r, true) := by
  unfold cut
  rw [index_at c a r h, if_pos (by omega), Int.toNat_natCast, take_at, show [c].length = 1 from rfl, drop_at]
theorem cut_miss (c : UInt8) (l : List UInt8) (h : c ∉ l) : cut l [c] = (l, [], false) := by
  unfold cut
  rw [index_miss c l h, if_neg (by omega)]

theorem count_free (c : UInt8) (l : List UInt8) (h : c ∉ l) : count l [c] = 0 := by
  rw [count_one]; exact List.count_eq_zero.2 h
theorem count_at (c : UInt8) (a r : List UInt8) (h : c ∉ a) : count (a ++ c :: r) [c] = count r [c] + 1 := by
  rw [count_one, count_one, List.count_append, List.count_eq_zero.2 h, List.count_cons_self]; omega
theorem splitK_at (c : UInt8) (k : Nat) (a r : List UInt8) (h : c ∉ a) : splitK [c] 0 (k + 1) (a ++ c :: r) = a :: splitK [c] 0 k r := by
  have e := index_at c a r h
  rw [splitK, e, if_neg (by simp), Int.toNat_natCast, Nat.add_zero, take_at, show [c].length = 1 from rfl, drop_at]
theorem split_parts (c : UInt8) (l : List UInt8) : split l [c] = parts c l := by
  suffices h : ∀ (k : Nat) (l : List UInt8), l.length ≤ k → splitK [c] 0 (count l [c]) l = parts c l from h _ l (Nat.le_refl _)
  intro k
  induction k with
  | zero =>
    intro l hl
    have : l = [] := List.length_eq_zero_iff.1 (by omega)
    subst this
    rw [count_free c [] (by simp)]; rfl
  | succ k ih =>
    intro l hl
    by_cases hc : c ∈ l
    · obtain ⟨a, r, rfl, ha⟩ := first_at c l hc
      rw [count_at c a r ha, splitK_at c _ a r ha, parts_append c a r ha, ih r (by simp at hl; omega)]
    · rw [count_free c l hc, parts_free c l hc]; rfl
theorem replaceK_at (c : UInt8) (k : Nat) (a r : List UInt8) (h : c ∉ a) : replaceK [c] [] (k + 1) (a ++ c :: r) = a ++ replaceK [c] [] k r := by
  have e := index_at c a r h
  rw [replaceK, e, if_neg (by simp), Int.toNat_natCast, take_at, show [c].length = 1 from rfl, drop_at, List.append_nil]
theorem filter_free (c : UInt8) (a : List UInt8) (h : c ∉ a) : a.filter (· != c) = a := by
  rw [List.filter_eq_self]
  intro b hb
  simp only [bne_iff_ne, ne_eq]
  rintro rfl; exact h hb
theorem replace_filter (c : UInt8) (l : List UInt8) : replaceAll l [c] [] = l.filter (· != c) := by
  suffices h : ∀ (k : Nat) (l : List UInt8), l.length ≤ k → replaceK [c] [] (count l [c]) l = l.filter (· != c) by
    unfold replaceAll replace
    rw [if_neg (by simp)]
    unfold replaceNum
    rw [if_pos (Or.inl (by decide))]
    exact h _ l (Nat.le_refl _)
  intro k
  induction k with
  | zero =>
    intro l hl
    have : l = [] := List.length_eq_zero_iff.1 (by omega)
    subst this
    rw [count_free c [] (by simp)]; rfl
  | succ k ih =>
    intro l hl
    by_cases hc : c ∈ l
    · obtain ⟨a, r, rfl, ha⟩ := first_at c l hc
      rw [count_at c a r ha, replaceK_at c _ a r ha, ih r (by simp at hl; omega), List.filter_append, filter_free c a ha]
      simp
    · rw [count_free c l hc, filter_free c l hc]; rfl
theorem join_glue (c : UInt8) (L : List (List UInt8)) : join L [c] = glue c L := by
  unfold join
  induction L with
  | nil => rfl
  | cons a r ih =>
    cases r with
    | nil => simp [glue, List.intercalate]
    | cons b r =>
      rw [glue_more, ← ih]
      simp [List.intercalate, List.intersperse]
end Adr
