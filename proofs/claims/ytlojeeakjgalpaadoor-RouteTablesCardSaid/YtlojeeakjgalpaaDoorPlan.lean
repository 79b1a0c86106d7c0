/- Routes and rules in plain Lean: entries, what an address goes by, what a rule is, which rule decides. No program. -/
import Derived.Test.YtlojeeakjgalpaaDoorNumA
import Derived.Test.YtlojeeakjgalpaaDoorPreW
import Derived.Test.YtlojeeakjgalpaaDoorEnt
namespace Rte
open Go Adr

abbrev bs (s : ByteArray) : List UInt8 := s.data.toList
/-- "permit", "deny", "any". -/
def sPermit : ByteArray := ⟨#[112, 101, 114, 109, 105, 116]⟩
def sDeny : ByteArray := ⟨#[100, 101, 110, 121]⟩
def sAny : ByteArray := ⟨#[97, 110, 121]⟩

def pfx (e : Ent) : Int × Int := pre (bs e.key)
/-- Does an entry take an address, as a route of a host's? -/
def hit (h : ByteArray) (ip : Int) (e : Ent) : Bool := decide (e.host = h) && decide (e.kind = 4) && decide (0 ≤ (pfx e).1) && isIn (pfx e).1 (pfx e).2 ip
def lkStep (h : ByteArray) (ip : Int) (b : Int × ByteArray) (e : Ent) : Int × ByteArray := if hit h ip e = true ∧ b.1 < (pfx e).2 then ((pfx e).2, e.val) else b
def lk (L : List Ent) (h : ByteArray) (ip : Int) : Int × ByteArray := L.foldl (lkStep h ip) (-1, ⟨#[]⟩)

theorem lk_snoc (L : List Ent) (e : Ent) (h : ByteArray) (ip : Int) : lk (L ++ [e]) h ip = lkStep h ip (lk L h ip) e := by unfold lk; rw [List.foldl_append]; rfl
theorem hit_bits {h : ByteArray} {ip : Int} {e : Ent} (hh : hit h ip e = true) : 0 ≤ (pfx e).1 ∧ 0 ≤ (pfx e).2 ∧ (pfx e).2 ≤ 32 := by
  unfold hit at hh
  simp only [Bool.and_eq_true, decide_eq_true_eq] at hh
  obtain ⟨⟨_, h0⟩, h1⟩ := hh
  unfold isIn at h1
  simp only [Bool.and_eq_true] at h1
  obtain ⟨⟨⟨h2, _⟩, _⟩, _⟩ := h1
  unfold right at h2
  simp only [Bool.and_eq_true, decide_eq_true_eq] at h2
  omega
theorem snoc_ind {α : Type} {P : List α → Prop} (h0 : P []) (h1 : ∀ L x, P L → P (L ++ [x])) (L : List α) : P L := by
  have h : ∀ M : List α, P M.reverse := by
    intro M
    induction M with
    | nil => exact h0
    | cons x M ih => rw [List.reverse_cons]; exact h1 _ _ ih
  have := h L.reverse
  rwa [List.reverse_reverse] at this
/-- What is found: nothing, and none takes the address; or a longest one that does, the first of these. -/
theorem lk_spec (L : List Ent) (h : ByteArray) (ip : Int) :
    ((lk L h ip) = (-1, ⟨#[]⟩) ∧ ∀ e ∈ L, hit h ip e = false) ∨ ∃ e ∈ L, hit h ip e = true ∧ lk L h ip = ((pfx e).2, e.val) ∧ ∀ x ∈ L, hit h ip x = true → (pfx x).2 ≤ (pfx e).2 := by
  induction L using snoc_ind with
  | h0 => exact .inl ⟨rfl, fun e he => by cases he⟩
  | h1 L x ih =>
    rw [lk_snoc]
    unfold lkStep
    rcases ih with ⟨h1, h2⟩ | ⟨e, he, h1, h2, h3⟩
    · rw [h1]
      by_cases hx : hit h ip x = true
      · have hb := hit_bits hx
        rw [if_pos ⟨hx, by show (-1 : Int) < _; omega⟩]
        refine .inr ⟨x, by simp, hx, rfl, fun y hy hy' => ?_⟩
        rcases List.mem_append.1 hy with hy | hy
        · rw [h2 y hy] at hy'; cases hy'
        · rw [List.mem_singleton.1 hy]; exact Int.le_refl _
      · rw [if_neg fun hc => hx hc.1]
        refine .inl ⟨rfl, fun y hy => ?_⟩
        rcases List.mem_append.1 hy with hy | hy
        · exact h2 y hy
        · rw [List.mem_singleton.1 hy]; simpa using hx
    · rw [h2]
      by_cases hx : hit h ip x = true ∧ (pfx e).2 < (pfx x).2
      · rw [if_pos hx]
        refine .inr ⟨x, by simp, hx.1, rfl, fun y hy hy' => ?_⟩
        rcases List.mem_append.1 hy with hy | hy
        · have := h3 y hy hy'; omega
        · rw [List.mem_singleton.1 hy]; exact Int.le_refl _
      · rw [if_neg hx]
        refine .inr ⟨e, by simp [he], h1, rfl, fun y hy hy' => ?_⟩
        rcases List.mem_append.1 hy with hy | hy
        · exact h3 y hy hy'
        · rw [List.mem_singleton.1 hy] at hy' ⊢
          rcases Int.lt_or_le (pfx e).2 (pfx x).2 with hlt | hle
          · exact absurd ⟨hy', hlt⟩ hx
          · exact hle

/-! ### Rules -/
def words (e : Ent) : List (List UInt8) := parts 32 (bs e.val)
def side (w : List UInt8) : Bool := decide (0 ≤ (pre w).1) || decide (w = bs sAny)
def takes (w : List UInt8) (ip : Int) : Bool := decide (w = bs sAny) || (decide (0 ≤ (pre w).1) && isIn (pre w).1 (pre w).2 ip)
def wordsOk : List (List UInt8) → Bool
  | [a, b, c] => (decide (a = bs sPermit) || decide (a = bs sDeny)) && side b && side c
  | _ => false
def isRule (h : ByteArray) (e : Ent) : Bool := numIn (bs e.key) 1 1000 && decide (e.host = h) && decide (e.kind = 5) && wordsOk (words e)
def rule (h : ByteArray) (e : Ent) : Int := if isRule h e then num (bs e.key) else 0
theorem rule_pos (h : ByteArray) (e : Ent) : 0 < rule h e ↔ isRule h e = true := by
  unfold rule
  constructor
  · intro hh; split at hh
    · assumption
    · omega
  · intro hh
    rw [if_pos hh]
    unfold isRule at hh
    simp only [Bool.and_eq_true] at hh
    have := ((numIn_iff _ _ _).1 hh.1.1.1)
    omega
theorem rule_zero {h : ByteArray} {e : Ent} (hh : isRule h e = false) : rule h e = 0 := by unfold rule; rw [hh]; rfl
theorem rule_bd (h : ByteArray) (e : Ent) : 0 ≤ rule h e ∧ rule h e ≤ 1000 := by
  unfold rule
  split
  · rename_i hh
    unfold isRule at hh
    simp only [Bool.and_eq_true] at hh
    have := ((numIn_iff _ _ _).1 hh.1.1.1)
    omega
  · omega
/-- Does a rule take both addresses? -/
def both (e : Ent) (fr dt : Int) : Bool := takes ((words e).getD 1 []) fr && takes ((words e).getD 2 []) dt
def acts (e : Ent) : Bool := decide ((words e).getD 0 [] = bs sPermit)

end Rte
