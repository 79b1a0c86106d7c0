/- Plain facts on decimal numerals: what strconv.Atoi and strconv.Itoa, held together, take for a number's text. No program in sight. -/
import Derived.Lib.AtoiAll
import Derived.Lib.ItoaNum
namespace Adr
open Go.Lib

def isDig (c : UInt8) : Bool := decide (48 ≤ c.toNat) && decide (c.toNat ≤ 57)
def valFrom (a : Nat) (l : List UInt8) : Nat := l.foldl (fun a c => 10 * a + (c.toNat - 48)) a
theorem valFrom_nil (a : Nat) : valFrom a [] = a := rfl
theorem valFrom_cons (a : Nat) (c : UInt8) (r : List UInt8) : valFrom a (c :: r) = valFrom (10 * a + (c.toNat - 48)) r := by unfold valFrom; rw [List.foldl_cons]
def val (l : List UInt8) : Nat := valFrom 0 l
/-- The text of a number: 1 to 10 digits, the first not 0 but for 0 itself. -/
def canon : List UInt8 → Bool
  | [] => false
  | c :: r => decide (r.length < 10) && !(c == 48 && !r.isEmpty) && (c :: r).all isDig
/-- The reference's number: -1 where there is none. -/
def num (l : List UInt8) : Int := if canon l then (val l : Int) else -1

theorem valFrom_append (a : Nat) (l m : List UInt8) : valFrom a (l ++ m) = valFrom (valFrom a l) m := by
  unfold valFrom; rw [List.foldl_append]

theorem isDig_iff (c : UInt8) : isDig c = true ↔ 48 ≤ c.toNat ∧ c.toNat ≤ 57 := by simp [isDig]

theorem valFrom_lt (l : List UInt8) (a : Nat) (h : l.all isDig = true) : valFrom a l < (a + 1) * 10 ^ l.length := by
  induction l generalizing a with
  | nil => simp [valFrom_nil]
  | cons c r ih =>
    simp only [List.all_cons, Bool.and_eq_true] at h
    have hc := (isDig_iff c).1 h.1
    have := ih (10 * a + (c.toNat - 48)) h.2
    simp only [valFrom_cons, List.length_cons, Nat.pow_succ]
    have h2 : (10 * a + (c.toNat - 48) + 1) * 10 ^ r.length ≤ (10 * (a + 1)) * 10 ^ r.length := Nat.mul_le_mul_right _ (by omega)
    have h3 : (10 * (a + 1)) * 10 ^ r.length = (a + 1) * (10 ^ r.length * 10) := by
      rw [Nat.mul_comm 10 (a + 1), Nat.mul_assoc, Nat.mul_comm 10]
    omega

theorem val_lt (l : List UInt8) (h : l.all isDig = true) : val l < 10 ^ l.length := by
  have := valFrom_lt l 0 h
  simpa [val] using this

theorem parse_digits (l : List UInt8) (a : Nat) (h : l.all isDig = true) (hb : (a + 1) * 10 ^ l.length ≤ 10000000000) : parseUint10 a l = .ok (valFrom a l) := by
  induction l generalizing a with
  | nil => rfl
  | cons c r ih =>
    simp only [List.all_cons, Bool.and_eq_true] at h
    have hc := (isDig_iff c).1 h.1
    have hp : 1 ≤ 10 ^ r.length := Nat.one_le_pow _ _ (by decide)
    simp only [List.length_cons, Nat.pow_succ] at hb
    have e3 : (a + 1) * (10 ^ r.length * 10) = (10 * (a + 1)) * 10 ^ r.length := by
      rw [Nat.mul_comm 10 (a + 1), Nat.mul_assoc, Nat.mul_comm 10]
    have e4 : 10 * (a + 1) ≤ (10 * (a + 1)) * 10 ^ r.length := Nat.le_mul_of_pos_right _ hp
    have e5 : (10 * a + (c.toNat - 48) + 1) * 10 ^ r.length ≤ (10 * (a + 1)) * 10 ^ r.length := Nat.mul_le_mul_right _ (by omega)
    rw [parseUint10, if_pos hc, if_neg (by omega), if_neg (by omega), Nat.mul_comm a 10]
    exact ih _ h.2 (by omega)

theorem dig_ofNat {u : Nat} (h : u < 10) : (UInt8.ofNat (48 + u)).toNat = 48 + u := by simp; omega

theorem dec_digits (n : Nat) : (decDigits n).all isDig = true := by
  induction n using Nat.strongRecOn with
  | _ n ih =>
    rw [decDigits]
    split
    · rename_i h
      simp only [List.all_cons, List.all_nil, Bool.and_true, isDig_iff]
      have := dig_ofNat h; omega
    · rename_i h
      rw [List.all_append, ih (n / 10) (by omega)]
      simp only [List.all_cons, List.all_nil, Bool.and_true, Bool.true_and, isDig_iff]
      have := dig_ofNat (show n % 10 < 10 by omega); omega

theorem val_dec (n : Nat) : val (decDigits n) = n := by
  induction n using Nat.strongRecOn with
  | _ n ih =>
    rw [decDigits]
    split
    · rename_i h
      have := dig_ofNat h
      simp only [val, valFrom_cons, valFrom_nil]; omega
    · rename_i h
      have e := ih (n / 10) (by omega)
      have := dig_ofNat (show n % 10 < 10 by omega)
      unfold val at e ⊢
      rw [valFrom_append, e]
      simp only [valFrom_cons, valFrom_nil]; omega

theorem dec_ne (n : Nat) : decDigits n ≠ [] := by
  rw [decDigits]; split <;> simp

/-- The first digit is not 0, but of 0 itself. -/
theorem dec_head (n : Nat) (hn : n ≠ 0) : ∀ c, (decDigits n).head? = some c → c ≠ 48 := by
  induction n using Nat.strongRecOn with
  | _ n ih =>
    intro c hc e
    rw [decDigits] at hc
    split at hc
    · rename_i h
      have h1 := dig_ofNat h
      simp only [List.head?_cons, Option.some.injEq] at hc
      subst e
      rw [hc] at h1
      simp at h1; omega
    · rename_i h
      have hne := dec_ne (n / 10)
      cases hd : decDigits (n / 10) with
      | nil => exact hne hd
      | cons d r =>
        rw [hd] at hc
        simp only [List.cons_append, List.head?_cons, Option.some.injEq] at hc
        exact ih (n / 10) (by omega) (by omega) d (by rw [hd]; rfl) (hc.trans e)

/-- A numeral without a leading 0 is its number's own. -/
theorem dec_val (l : List UInt8) (hne : l ≠ []) (hd : l.all isDig = true) (h0 : ∀ c, l.head? = some c → c = 48 → l.length = 1) : decDigits (val l) = l := by
  suffices h : ∀ (k : Nat) (l : List UInt8), l.length = k → l ≠ [] → l.all isDig = true → (∀ c, l.head? = some c → c = 48 → l.length = 1) → decDigits (val l) = l from h _ l rfl hne hd h0
  intro k
  induction k using Nat.strongRecOn with
  | _ k ih =>
    intro l hk hne hd h0
    obtain ⟨m, c, rfl⟩ : ∃ m c, l = m ++ [c] := ⟨l.dropLast, l.getLast hne, (List.dropLast_concat_getLast hne).symm⟩
    rw [List.all_append, Bool.and_eq_true] at hd
    obtain ⟨hm, hc⟩ := hd
    simp only [List.all_cons, List.all_nil, Bool.and_true, isDig_iff] at hc
    have ev : val (m ++ [c]) = 10 * val m + (c.toNat - 48) := by simp only [val, valFrom_append, valFrom_cons, valFrom_nil]
    by_cases hmn : m = []
    · subst hmn
      rw [ev]
      simp only [val, valFrom_nil, List.nil_append]
      rw [decDigits, dif_pos (by omega)]
      congr 1
      apply UInt8.toNat_inj.1
      rw [dig_ofNat (by omega)]; omega
    · have em : decDigits (val m) = m := ih m.length (by rw [← hk]; simp) m rfl hmn hm (by
        intro d hdh he
        have := h0 d (by rw [List.head?_append, hdh]; rfl) he
        simp at this
        exact absurd this hmn)
      have hpos : 1 ≤ val m := by
        rcases Nat.eq_zero_or_pos (val m) with hz | hz
        · exfalso
          rw [hz, decDigits, dif_pos (by omega)] at em
          have := h0 48 (by rw [← em]; rfl) rfl
          rw [← em] at this
          simp at this
        · exact hz
      rw [ev, decDigits, dif_neg (by omega), show (10 * val m + (c.toNat - 48)) / 10 = val m by omega, em]
      congr 2
      apply UInt8.toNat_inj.1
      rw [dig_ofNat (by omega)]; omega

theorem canon_iff (l : List UInt8) : canon l = true ↔ l ≠ [] ∧ l.length ≤ 10 ∧ l.all isDig = true ∧ ∀ c, l.head? = some c → c = 48 → l.length = 1 := by
  cases l with
  | nil => simp [canon]
  | cons c r =>
    simp only [canon, Bool.and_eq_true, decide_eq_true_eq, Bool.not_eq_true', Bool.and_eq_false_iff, List.length_cons, List.head?_cons, Option.some.injEq]
    constructor
    · rintro ⟨⟨h1, h2⟩, h3⟩
      refine ⟨by simp, by omega, h3, ?_⟩
      rintro d rfl rfl
      rcases h2 with h2 | h2
      · simp at h2
      · cases r with
        | nil => rfl
        | cons a b => simp at h2
    · rintro ⟨_, h1, h3, h2⟩
      refine ⟨⟨by omega, ?_⟩, h3⟩
      by_cases hc : c = 48
      · right
        have := h2 c rfl hc
        have hr : r = [] := List.length_eq_zero_iff.1 (by omega)
        subst hr; rfl
      · left; simp [hc]

theorem canon_dec (n : Nat) (h : n < 10000000000) : canon (decDigits n) = true := by
  rw [canon_iff]
  refine ⟨dec_ne n, ?_, dec_digits n, ?_⟩
  · rw [decDigits_length]
    have : ¬ 11 ≤ nDigits n := by
      intro h11
      have hge : ∀ (k n : Nat), k + 1 ≤ nDigits n → 10 ^ k ≤ n ∨ (k = 0) := by
        intro k
        induction k with
        | zero => intro n _; right; rfl
        | succ k ih =>
          intro n hn
          left
          by_cases hs : n < 10
          · rw [nDigits_small hs] at hn; omega
          · rw [nDigits_big hs] at hn
            rcases ih (n / 10) (by omega) with h | h
            · rw [Nat.pow_succ]; omega
            · subst h; simp; omega
      rcases hge 10 n h11 with h | h
      · simp at h; omega
      · omega
    omega
  · intro c hc h48
    by_cases hn : n = 0
    · subst hn; rw [decDigits]; rfl
    · exact absurd h48 (dec_head n hn c hc)

theorem num_dec (n : Nat) (h : n < 10000000000) : num (decDigits n) = n := by
  unfold num; rw [if_pos (canon_dec n h), val_dec]

/-- What Atoi says of a number's text. -/
theorem atoi_canon (l : List UInt8) (h : canon l = true) : atoiAll l = .ok (val l) := by
  obtain ⟨hne, hlen, hd, _⟩ := (canon_iff l).1 h
  cases l with
  | nil => exact absurd rfl hne
  | cons c r =>
    have hc := (isDig_iff c).1 (by simp only [List.all_cons, Bool.and_eq_true] at hd; exact hd.1)
    have hp : 10 ^ (c :: r).length ≤ 10 ^ 10 := Nat.pow_le_pow_right (by decide) hlen
    have hv := val_lt (c :: r) hd
    have e : parseUint10 0 (c :: r) = .ok (val (c :: r)) := parse_digits (c :: r) 0 hd (by simpa using hp)
    unfold atoiAll
    simp only
    rw [if_neg (by omega)]
    unfold parseMag
    rw [if_neg (by simp), e]
    simp only
    rw [if_neg (by omega), if_neg (by omega), if_neg (by omega)]

/-- A number that is not negative, and whose own text is the one that was read, and short: is the text's. -/
theorem canon_of_itoa (l : List UInt8) (n : Int) (h0 : 0 ≤ n) (hlen : l.length ≤ 10) (h : itoa n = l) : canon l = true ∧ n = val l := by
  unfold itoa at h
  rw [if_neg (by omega)] at h
  subst h
  refine ⟨?_, by rw [val_dec]; omega⟩
  rw [canon_iff]
  refine ⟨dec_ne _, hlen, dec_digits _, ?_⟩
  intro c hc h48
  by_cases hn : n.toNat = 0
  · rw [hn, decDigits]; rfl
  · exact absurd h48 (dec_head _ hn c hc)

theorem itoa_val (l : List UInt8) (h : canon l = true) : itoa (val l) = l := by
  obtain ⟨hne, _, hd, h0⟩ := (canon_iff l).1 h
  unfold itoa
  rw [if_neg (by omega)]
  exact dec_val l hne hd h0

theorem num_of_canon {l : List UInt8} (h : canon l = true) : num l = val l := by unfold num; rw [if_pos h]
theorem num_of_not {l : List UInt8} (h : canon l = false) : num l = -1 := by unfold num; simp [h]
theorem num_lt (l : List UInt8) : num l < 10000000000 := by
  unfold num
  split
  · rename_i h
    obtain ⟨_, hlen, hd, _⟩ := (canon_iff l).1 h
    have hv := val_lt l hd
    have hp : 10 ^ l.length ≤ 10 ^ 10 := Nat.pow_le_pow_right (by decide) hlen
    omega
  · omega
theorem num_ge (l : List UInt8) : -1 ≤ num l := by unfold num; split <;> omega
end Adr
