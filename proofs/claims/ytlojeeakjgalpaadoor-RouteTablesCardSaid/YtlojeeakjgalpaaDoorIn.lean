/- Plain facts on addresses in prefixes. No program in sight. -/
import Derived.Test.YtlojeeakjgalpaaDoorParts
namespace Adr
/-- Is an address in a prefix? -/
def isIn (n bits ip : Int) : Bool := right n bits && decide (0 ≤ ip) && decide (ip < 4294967296) && decide (ip.toNat / 2 ^ (32 - bits.toNat) = n.toNat / 2 ^ (32 - bits.toNat))
/-- The first bits alone. -/
def cutTo (n b : Nat) : Nat := n / 2 ^ (32 - b) * 2 ^ (32 - b)

theorem right_nat (n b : Nat) : right n b = (decide (n < 4294967296) && decide (b ≤ 32) && decide (n % 2 ^ (32 - b) = 0)) := by
  unfold right
  rw [Bool.eq_iff_iff]
  simp only [Bool.and_eq_true, decide_eq_true_eq, Int.toNat_natCast]
  omega
theorem isIn_nat (n b k : Nat) : isIn n b k = (right n b && decide (k < 4294967296) && decide (k / 2 ^ (32 - b) = n / 2 ^ (32 - b))) := by
  unfold isIn
  rw [Bool.eq_iff_iff]
  simp only [Bool.and_eq_true, decide_eq_true_eq, Int.toNat_natCast]
  constructor
  · rintro ⟨⟨⟨a, _⟩, c⟩, d⟩
    exact ⟨⟨a, by omega⟩, d⟩
  · rintro ⟨⟨a, c⟩, d⟩
    exact ⟨⟨⟨a, by omega⟩, by omega⟩, d⟩
theorem cutTo_le (n b : Nat) : cutTo n b ≤ n := Nat.div_mul_le_self _ _
theorem cutTo_div (n b : Nat) : cutTo n b / 2 ^ (32 - b) = n / 2 ^ (32 - b) := Nat.mul_div_cancel _ (Nat.pow_pos (by decide))
theorem cutTo_mod (n b : Nat) : cutTo n b % 2 ^ (32 - b) = 0 := Nat.mul_mod_left _ _
theorem right_cut (n b : Nat) (hn : n < 4294967296) (hb : b ≤ 32) : right (cutTo n b) b = true := by
  rw [right_nat]
  simp only [Bool.and_eq_true, decide_eq_true_eq]
  exact ⟨⟨Nat.lt_of_le_of_lt (cutTo_le n b) hn, hb⟩, cutTo_mod n b⟩
theorem in_cut (n b k : Nat) (hn : n < 4294967296) (hb : b ≤ 32) (hk : k < 4294967296) : isIn (cutTo n b) b k = decide (k / 2 ^ (32 - b) = n / 2 ^ (32 - b)) := by
  rw [isIn_nat, right_cut n b hn hb, cutTo_div]
  simp [hk]
theorem in_self (n b : Nat) (hn : n < 4294967296) (hb : b ≤ 32) : isIn (cutTo n b) b n = true := by
  rw [in_cut n b n hn hb hn]; simp
theorem in_shorter (n b c k : Nat) (hn : n < 4294967296) (hb : b ≤ 32) (hc : c ≤ b) (hk : k < 4294967296) (h : isIn (cutTo n b) b k = true) : isIn (cutTo n c) c k = true := by
  rw [in_cut n b k hn hb hk] at h
  rw [in_cut n c k hn (by omega) hk]
  simp only [decide_eq_true_eq] at h ⊢
  have e : 2 ^ (32 - c) = 2 ^ (32 - b) * 2 ^ (b - c) := by rw [← Nat.pow_add, show 32 - b + (b - c) = 32 - c by omega]
  rw [e, ← Nat.div_div_eq_div_mul, ← Nat.div_div_eq_div_mul, h]
theorem in_all (k : Nat) (hk : k < 4294967296) : isIn 0 0 k = true := by
  have : isIn ((0 : Nat) : Int) ((0 : Nat) : Int) k = true := by
    rw [isIn_nat, right_nat]
    simp only [Bool.and_eq_true, decide_eq_true_eq]
    refine ⟨⟨⟨⟨by omega, by omega⟩, by simp⟩, hk⟩, ?_⟩
    rw [Nat.div_eq_of_lt (by simpa using hk)]
  simpa using this

/-- The second half of a prefix. -/
def half (n b : Nat) : Nat := cutTo n b + 2 ^ (31 - b)
theorem half_plain (n m r : Nat) (hm : 0 < m) (hr : 2 * m * r = 4294967296) (hn : n < 4294967296) :
    n / (2 * m) * (2 * m) + m < 4294967296 ∧ (n / (2 * m) * (2 * m) + m) % m = 0 ∧ (n / (2 * m) * (2 * m) + m) / (2 * m) = n / (2 * m) ∧ (n / (2 * m) * (2 * m) + m) / m = 2 * (n / (2 * m)) + 1 ∧
    n / (2 * m) * (2 * m) / m = 2 * (n / (2 * m)) ∧ n / (2 * m) * (2 * m) % m = 0 ∧ (n / m = 2 * (n / (2 * m)) ∨ n / m = 2 * (n / (2 * m)) + 1) := by
  have q0 : n / (2 * m) = n / m / 2 := by rw [Nat.mul_comm, Nat.div_div_eq_div_mul]
  have hle : n / (2 * m) * (2 * m) ≤ n := Nat.div_mul_le_self _ _
  have hy : n / (2 * m) < r := Nat.div_lt_of_lt_mul (by omega)
  have hb : (2 * m) * (n / (2 * m) + 1) ≤ (2 * m) * r := Nat.mul_le_mul_left _ hy
  rw [Nat.mul_add, Nat.mul_one] at hb
  have hc : (2 * m) * (n / (2 * m)) = n / (2 * m) * (2 * m) := Nat.mul_comm _ _
  have hd : n / m = 2 * (n / (2 * m)) ∨ n / m = 2 * (n / (2 * m)) + 1 := by omega
  generalize n / (2 * m) = y at *
  have f1 : y * (2 * m) = m * (2 * y) := by rw [Nat.mul_comm y, Nat.mul_assoc, Nat.mul_comm m, ← Nat.mul_assoc, Nat.mul_comm]
  have f2 : y * (2 * m) + m = m * (2 * y + 1) := by rw [Nat.mul_add, Nat.mul_one, f1]
  refine ⟨by omega, ?_, ?_, ?_, ?_, ?_, hd⟩
  · rw [f2]; exact Nat.mul_mod_right _ _
  · rw [Nat.add_comm, Nat.add_mul_div_right _ _ (by omega), Nat.div_eq_of_lt (by omega), Nat.zero_add]
  · rw [f2]; exact Nat.mul_div_cancel_left _ hm
  · rw [f1]; exact Nat.mul_div_cancel_left _ hm
  · rw [f1]; exact Nat.mul_mod_right _ _
theorem half_all (n b : Nat) (hn : n < 4294967296) (hb : b < 32) : right (half n b) (b + 1 : Nat) = true ∧ isIn (cutTo n b) b (half n b) = true ∧ isIn (cutTo n b) (b + 1 : Nat) n ≠ isIn (half n b) (b + 1 : Nat) n := by
  have e : 2 ^ (32 - b) = 2 * 2 ^ (31 - b) := by rw [show 32 - b = (31 - b) + 1 by omega, Nat.pow_succ, Nat.mul_comm]
  have e2 : 32 - (b + 1) = 31 - b := by omega
  have e3 : 2 * 2 ^ (31 - b) * 2 ^ b = 4294967296 := by rw [← e, ← Nat.pow_add, show 32 - b + b = 32 by omega]
  have hp : 0 < 2 ^ (31 - b) := Nat.pow_pos (by decide)
  obtain ⟨h1, h2, h3, h4, h5, h6, h7⟩ := half_plain n (2 ^ (31 - b)) (2 ^ b) hp e3 hn
  have hc := in_cut n b (half n b) hn (by omega)
  have hle := cutTo_le n b
  unfold half at hc ⊢
  unfold cutTo at hc hle ⊢
  rw [e] at hc hle ⊢
  rw [hc h1]
  rw [isIn_nat, isIn_nat, right_nat, right_nat, e2, h2, h3, h4, h5, h6]
  refine ⟨by simp [h1]; omega, by simp, ?_⟩
  have a1 : decide (n / (2 * 2 ^ (31 - b)) * (2 * 2 ^ (31 - b)) < 4294967296) = true := by simp; omega
  have a2 : decide (b + 1 ≤ 32) = true := by simp; omega
  have a3 : decide (n < 4294967296) = true := by simp [hn]
  have a4 : decide (n / (2 * 2 ^ (31 - b)) * (2 * 2 ^ (31 - b)) + 2 ^ (31 - b) < 4294967296) = true := by simp [h1]
  rw [a1, a2, a3, a4]
  simp only [decide_true, Bool.and_true, Bool.true_and]
  rcases h7 with h | h
  · rw [h]; simp
  · rw [h]; simp
end Adr
