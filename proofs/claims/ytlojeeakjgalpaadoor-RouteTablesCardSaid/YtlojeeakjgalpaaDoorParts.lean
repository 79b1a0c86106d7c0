/- Plain facts on texts of parts: an address' four numbers, a prefix' two words. No program in sight. -/
import Derived.Test.YtlojeeakjgalpaaDoorNum
namespace Adr
open Go.Lib

/-- The first part gets more ahead of it. -/
def ahead (p : List UInt8) : List (List UInt8) → List (List UInt8)
  | [] => [p]
  | h :: t => (p ++ h) :: t
/-- The parts of a text, at each of a byte. -/
def parts (at' : UInt8) : List UInt8 → List (List UInt8)
  | [] => [[]]
  | c :: r => if c = at' then [] :: parts at' r else ahead [c] (parts at' r)

theorem parts_nil (s : UInt8) : parts s [] = [[]] := rfl
theorem parts_at (s : UInt8) (r : List UInt8) : parts s (s :: r) = [] :: parts s r := by rw [parts, if_pos rfl]
theorem parts_other (s c : UInt8) (r : List UInt8) (h : c ≠ s) : parts s (c :: r) = ahead [c] (parts s r) := by rw [parts, if_neg h]
theorem parts_ne (s : UInt8) (l : List UInt8) : parts s l ≠ [] := by
  cases l with
  | nil => simp [parts_nil]
  | cons c r =>
    by_cases h : c = s
    · subst h; rw [parts_at]; simp
    · rw [parts_other s c r h]; cases parts s r <;> simp [ahead]
theorem ahead_nil (L : List (List UInt8)) (h : L ≠ []) : ahead [] L = L := by cases L with
  | nil => exact absurd rfl h
  | cons a b => rfl
theorem ahead_ahead (p q : List UInt8) (L : List (List UInt8)) (h : L ≠ []) : ahead p (ahead q L) = ahead (p ++ q) L := by
  cases L with
  | nil => exact absurd rfl h
  | cons a b => simp [ahead]
theorem ahead_length (p : List UInt8) (L : List (List UInt8)) (h : L ≠ []) : (ahead p L).length = L.length := by
  cases L with
  | nil => exact absurd rfl h
  | cons a b => rfl
theorem parts_free (s : UInt8) (a : List UInt8) (h : s ∉ a) : parts s a = [a] := by
  induction a with
  | nil => rfl
  | cons c r ih =>
    simp only [List.mem_cons, not_or] at h
    rw [parts_other s c r (fun e => h.1 e.symm), ih h.2]; rfl
theorem parts_append (s : UInt8) (a r : List UInt8) (h : s ∉ a) : parts s (a ++ s :: r) = a :: parts s r := by
  induction a with
  | nil => exact parts_at s r
  | cons c a ih =>
    simp only [List.mem_cons, not_or] at h
    rw [List.cons_append, parts_other s c _ (fun e => h.1 e.symm), ih h.2]; rfl
/-- Text, again. -/
def glue (s : UInt8) : List (List UInt8) → List UInt8
  | [] => []
  | [a] => a
  | a :: b :: r => a ++ s :: glue s (b :: r)
theorem glue_one (s : UInt8) (a : List UInt8) : glue s [a] = a := rfl
theorem glue_more (s : UInt8) (a b : List UInt8) (r : List (List UInt8)) : glue s (a :: b :: r) = a ++ s :: glue s (b :: r) := rfl
theorem glue_cons (s : UInt8) (a : List UInt8) (L : List (List UInt8)) (h : L ≠ []) : glue s (a :: L) = a ++ s :: glue s L := by
  cases L with
  | nil => exact absurd rfl h
  | cons b r => rfl
theorem glue_ahead (s : UInt8) (p : List UInt8) (L : List (List UInt8)) (h : L ≠ []) : glue s (ahead p L) = p ++ glue s L := by
  cases L with
  | nil => exact absurd rfl h
  | cons a r =>
    cases r with
    | nil => rfl
    | cons b r => simp only [ahead, glue_more, List.append_assoc]
theorem glue_parts (s : UInt8) (l : List UInt8) : glue s (parts s l) = l := by
  induction l with
  | nil => rfl
  | cons c r ih =>
    by_cases h : c = s
    · subst h; rw [parts_at, glue_cons _ _ _ (parts_ne c r), ih]; rfl
    · rw [parts_other s c r h, glue_ahead _ _ _ (parts_ne s r), ih]; rfl
theorem parts_mem (s : UInt8) (l p : List UInt8) (h : p ∈ parts s l) : s ∉ p := by
  induction l generalizing p with
  | nil => simp only [parts_nil, List.mem_singleton] at h; subst h; simp
  | cons c r ih =>
    by_cases hc : c = s
    · subst hc
      rw [parts_at, List.mem_cons] at h
      rcases h with h | h
      · subst h; simp
      · exact ih p h
    · rw [parts_other s c r hc] at h
      cases hp : parts s r with
      | nil => exact absurd hp (parts_ne s r)
      | cons a b =>
        rw [hp] at h ih
        simp only [ahead, List.mem_cons] at h
        rcases h with h | h
        · subst h
          have := ih a (by simp)
          simp only [List.cons_append, List.nil_append, List.mem_cons, not_or]
          exact ⟨fun e => hc e.symm, this⟩
        · exact ih p (by simp [h])

/-! ### An address -/
def step (n : Int) (w : List UInt8) : Int := if n < 0 ∨ num w < 0 ∨ 255 < num w then -1 else 256 * n + num w
/-- The address of a text; -1: there is none. -/
def ip (l : List UInt8) : Int := match parts 46 l with
  | [a, b, c, d] => step (step (step (step 0 a) b) c) d
  | _ => -1
def ipText (n : Nat) : List UInt8 := glue 46 [decDigits (n / 16777216), decDigits (n / 65536 % 256), decDigits (n / 256 % 256), decDigits (n % 256)]

theorem dec_free (n : Nat) (c : UInt8) (h : isDig c = false) : c ∉ decDigits n := by
  intro hm
  have := List.all_eq_true.1 (dec_digits n) c hm
  rw [h] at this; cases this

theorem num_byte (k : Nat) (h : k < 256) : num (decDigits k) = k := num_dec k (by omega)
theorem step_byte (n k : Nat) (h : k < 256) : step n (decDigits k) = ((256 * n + k : Nat) : Int) := by
  unfold step
  rw [num_byte k h, if_neg (by omega)]; omega
theorem ipText_parts (n : Nat) : parts 46 (ipText n) = [decDigits (n / 16777216), decDigits (n / 65536 % 256), decDigits (n / 256 % 256), decDigits (n % 256)] := by
  have f : ∀ k, (46 : UInt8) ∉ decDigits k := fun k => dec_free k 46 (by decide)
  unfold ipText
  rw [glue_more, glue_more, glue_more, glue_one, parts_append _ _ _ (f _), parts_append _ _ _ (f _), parts_append _ _ _ (f _), parts_free _ _ (f _)]
theorem ip_text (n : Nat) (h : n < 4294967296) : ip (ipText n) = n := by
  unfold ip
  rw [ipText_parts]
  simp only
  rw [show (0 : Int) = ((0 : Nat) : Int) from rfl, step_byte _ _ (by omega), step_byte _ _ (by omega), step_byte _ _ (by omega), step_byte _ _ (by omega)]
  omega
theorem step_ok {n : Int} {w : List UInt8} (h : 0 ≤ step n w) : 0 ≤ n ∧ 0 ≤ num w ∧ num w ≤ 255 ∧ step n w = 256 * n + num w := by
  unfold step at h ⊢
  split at h
  · omega
  · rename_i hn; rw [if_neg hn]; omega
theorem num_canon {w : List UInt8} (h : 0 ≤ num w) : canon w = true ∧ decDigits (num w).toNat = w := by
  cases hc : canon w with
  | false => rw [num_of_not hc] at h; omega
  | true =>
    refine ⟨rfl, ?_⟩
    obtain ⟨hne, _, hd, h0⟩ := (canon_iff w).1 hc
    rw [num_of_canon hc, Int.toNat_natCast]
    exact dec_val w hne hd h0
theorem ip_cases (l : List UInt8) : ip l = -1 ∨ ∃ a b c d, parts 46 l = [a, b, c, d] ∧ ip l = step (step (step (step 0 a) b) c) d := by
  unfold ip
  split
  · rename_i a b c d h; right; exact ⟨a, b, c, d, h, rfl⟩
  · left; rfl
theorem step_ge (n : Int) (w : List UInt8) : -1 ≤ step n w := by unfold step; split <;> omega
theorem ip_ge (l : List UInt8) : -1 ≤ ip l := by
  rcases ip_cases l with h | ⟨a, b, c, d, _, h⟩
  · omega
  · rw [h]; exact step_ge _ _
theorem ip_fore (l : List UInt8) (h : 0 ≤ ip l) : ip l < 4294967296 ∧ ipText (ip l).toNat = l := by
  rcases ip_cases l with e | ⟨a, b, c, d, hp, e⟩
  · omega
  · rw [e] at h ⊢
    obtain ⟨h3, d0, d1, ed⟩ := step_ok h
    obtain ⟨h2, c0, c1, ec⟩ := step_ok h3
    obtain ⟨h1, b0, b1, eb⟩ := step_ok h2
    obtain ⟨_, a0, a1, ea⟩ := step_ok h1
    rw [ed, ec, eb, ea]
    have ka := (num_canon a0).2; have kb := (num_canon b0).2; have kc := (num_canon c0).2; have kd := (num_canon d0).2
    refine ⟨by omega, ?_⟩
    generalize num a = x at *; generalize num b = y at *; generalize num c = z at *; generalize num d = u at *
    unfold ipText
    rw [show (256 * (256 * (256 * (256 * (0 : Int) + x) + y) + z) + u).toNat / 16777216 = x.toNat by omega,
      show (256 * (256 * (256 * (256 * (0 : Int) + x) + y) + z) + u).toNat / 65536 % 256 = y.toNat by omega,
      show (256 * (256 * (256 * (256 * (0 : Int) + x) + y) + z) + u).toNat / 256 % 256 = z.toNat by omega,
      show (256 * (256 * (256 * (256 * (0 : Int) + x) + y) + z) + u).toNat % 256 = u.toNat by omega, ka, kb, kc, kd, ← hp]
    exact glue_parts 46 l
theorem ip_lt (l : List UInt8) : ip l < 4294967296 := by
  by_cases h : 0 ≤ ip l
  · exact (ip_fore l h).1
  · omega

/-! ### A prefix -/
/-- Is it a prefix? -/
def right (n bits : Int) : Bool := decide (0 ≤ n) && decide (n < 4294967296) && decide (0 ≤ bits) && decide (bits ≤ 32) && decide (n.toNat % 2 ^ (32 - bits.toNat) = 0)
def good (n k : Int) : Bool := decide (0 ≤ n) && decide (0 ≤ k) && decide (k ≤ 32) && right n k
/-- The prefix of a text; -1: there is none. -/
def pre (l : List UInt8) : Int × Int := match parts 47 l with
  | [a, b] => if good (ip a) (num b) then (ip a, num b) else (-1, 0)
  | _ => (-1, 0)
/-- As by the first / alone. -/
def preCut (a b : List UInt8) (ok : Bool) : Int × Int := if ok && good (ip a) (num b) then (ip a, num b) else (-1, 0)
def preText (n k : Nat) : List UInt8 := ipText n ++ 47 :: decDigits k

theorem good_right {n k : Int} (h : right n k = true) : good n k = true := by
  unfold good
  simp only [h, Bool.and_true, Bool.and_eq_true, decide_eq_true_eq]
  unfold right at h
  simp only [Bool.and_eq_true, decide_eq_true_eq] at h
  omega
theorem right_of_good {n k : Int} (h : good n k = true) : right n k = true := by
  unfold good at h; simp only [Bool.and_eq_true] at h; exact h.2
theorem good_num {n k : Int} (h : good n k = true) : 0 ≤ n ∧ 0 ≤ k ∧ k ≤ 32 := by
  unfold good at h; simp only [Bool.and_eq_true, decide_eq_true_eq] at h; omega
theorem num_free (b : List UInt8) (c : UInt8) (hc : isDig c = false) (h : c ∈ b) : num b = -1 := by
  refine num_of_not ?_
  cases hb : canon b with
  | false => rfl
  | true =>
    have := List.all_eq_true.1 ((canon_iff b).1 hb).2.2.1 c h
    rw [hc] at this; cases this
theorem good_bad (n : Int) : good n (-1) = false := by simp [good]
/-- With a /: what is ahead of the first one, and what is behind it. -/
theorem pre_hit (a b : List UInt8) (h : (47 : UInt8) ∉ a) : pre (a ++ 47 :: b) = preCut a b true := by
  unfold pre preCut
  rw [parts_append _ _ _ h, Bool.true_and]
  by_cases hb : (47 : UInt8) ∈ b
  · rw [num_free b 47 (by decide) hb, good_bad]
    simp only [Bool.false_eq_true, if_false]
    cases hp : parts 47 b with
    | nil => rfl
    | cons x y =>
      cases y with
      | nil =>
        exfalso
        have := glue_parts 47 b
        rw [hp, glue_one] at this
        subst this
        exact parts_mem 47 x x (by rw [hp]; simp) hb
      | cons z t => rfl
  · rw [parts_free _ _ hb]
theorem pre_miss (l : List UInt8) (h : (47 : UInt8) ∉ l) : pre l = (-1, 0) := by unfold pre; rw [parts_free _ _ h]
theorem pre_cut_false (a b : List UInt8) : preCut a b false = (-1, 0) := rfl
theorem ipText_free (n : Nat) : (47 : UInt8) ∉ ipText n := by
  have f : ∀ k, (47 : UInt8) ∉ decDigits k := fun k => dec_free k 47 (by decide)
  unfold ipText
  simp only [glue_more, glue_one, List.mem_append, List.mem_cons, f, false_or, or_false]
  decide
theorem pre_text (n k : Nat) (h : right n k = true) : pre (preText n k) = ((n : Int), (k : Int)) := by
  have h2 := good_num (good_right h)
  have h3 : (n : Int) < 4294967296 := by unfold right at h; simp only [Bool.and_eq_true, decide_eq_true_eq] at h; omega
  unfold preText
  rw [pre_hit _ _ (ipText_free n)]
  unfold preCut
  rw [ip_text n (by omega), num_dec k (by omega), good_right h]
  rfl
theorem pre_cases (l : List UInt8) : pre l = (-1, 0) ∨ ∃ a b, parts 47 l = [a, b] ∧ good (ip a) (num b) = true ∧ pre l = (ip a, num b) := by
  unfold pre
  split
  · rename_i a b h
    cases hg : good (ip a) (num b) with
    | false => left; rfl
    | true => right; exact ⟨a, b, h, hg, rfl⟩
  · left; rfl
theorem pre_fore (l : List UInt8) (h : 0 ≤ (pre l).1) : right (pre l).1 (pre l).2 = true ∧ preText (pre l).1.toNat (pre l).2.toNat = l := by
  rcases pre_cases l with e | ⟨a, b, hp, hg, e⟩
  · rw [e] at h; simp at h
  · rw [e]
    obtain ⟨h0, h1, h2⟩ := good_num hg
    refine ⟨right_of_good hg, ?_⟩
    unfold preText
    simp only
    rw [(ip_fore a h0).2, (num_canon h1).2]
    have := glue_parts 47 l
    rw [hp, glue_more, glue_one] at this
    exact this
theorem pre_ge (l : List UInt8) : -1 ≤ (pre l).1 ∧ 0 ≤ (pre l).2 ∧ (pre l).2 ≤ 32 ∧ (pre l).1 < 4294967296 := by
  rcases pre_cases l with e | ⟨a, b, hp, hg, e⟩
  · rw [e]; simp
  · rw [e]
    obtain ⟨h0, h1, h2⟩ := good_num hg
    have := ip_lt a
    simp only; omega
theorem pre_none (l : List UInt8) (h : (pre l).1 < 0) : pre l = (-1, 0) := by
  rcases pre_cases l with e | ⟨a, b, hp, hg, e⟩
  · exact e
  · rw [e] at h; have := (good_num hg).1; simp only at h; omega
end Adr
