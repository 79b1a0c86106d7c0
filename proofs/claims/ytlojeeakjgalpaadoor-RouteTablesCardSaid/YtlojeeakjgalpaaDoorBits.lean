/- Plain facts on the bits of numbers from 0 on, as the walk spells them. -/
import Derived.Laws.BitsAllLaws
import Derived.WalkKit
import Derived.Test.YtlojeeakjgalpaaDoorIn
namespace Adr
open Go Go.RowKit

theorem ofInt_i64 (a : Nat) (ha : a < 18446744073709551616) : (BitVec.ofInt 64 (a : Int)).toNat = a := by
  rw [BitVec.ofInt_natCast, BitVec.toNat_ofNat]; exact Nat.mod_eq_of_lt (by omega)
theorem wrap_nat (a : Nat) (ha : a < 9223372036854775808) : IntKind.i64.wrap (a : Int) = a := IntWalk.i64_in _ (by omega)
theorem and_nat (a b : Nat) (ha : a < 9223372036854775808) (hb : b < 9223372036854775808) : bits .and .i64 (a : Int) (b : Int) = ((a &&& b : Nat) : Int) := by
  have hx : a &&& b ≤ a := Nat.and_le_left
  show IntKind.i64.wrap ((BitVec.ofInt 64 (a : Int) &&& BitVec.ofInt 64 (b : Int)).toNat : Int) = _
  rw [BitVec.toNat_and, ofInt_i64 a (by omega), ofInt_i64 b (by omega), wrap_nat _ (by omega)]
theorem andNot_nat (a b : Nat) (ha : a < 9223372036854775808) (hb : b < 9223372036854775808) : bits .andNot .i64 (a : Int) (b : Int) = ((a &&& (18446744073709551615 - b) : Nat) : Int) := by
  have hx : a &&& (18446744073709551615 - b) ≤ a := Nat.and_le_left
  show IntKind.i64.wrap ((BitVec.ofInt 64 (a : Int) &&& ~~~BitVec.ofInt 64 (b : Int)).toNat : Int) = _
  rw [BitVec.toNat_and, BitVec.toNat_not, ofInt_i64 a (by omega), ofInt_i64 b (by omega)]
  have e : 2 ^ 64 - 1 - b = 18446744073709551615 - b := by omega
  rw [e, wrap_nat _ (by omega)]

/-- The bits behind the first ones. -/
def restV (n : Int) : Int := ((2 ^ (32 - n.toNat) - 1 : Nat) : Int)
theorem pow_le (k : Nat) (h : k ≤ 32) : 1 ≤ 2 ^ k ∧ 2 ^ k ≤ 4294967296 := by
  refine ⟨Nat.one_le_pow _ _ (by decide), ?_⟩
  have := Nat.pow_le_pow_right (n := 2) (by decide) h
  simpa using this
theorem rest_bd (n : Int) (h0 : 0 ≤ n) (h : n ≤ 32) : 0 ≤ restV n ∧ restV n < 4294967296 := by
  have := pow_le (32 - n.toNat) (by omega)
  unfold restV; omega
theorem rest_val (n : Int) (h0 : 0 ≤ n) (h : n ≤ 32) : wrap64 (wrap64 (2 ^ (32 - n).toNat) - 1) = restV n := by
  obtain ⟨k, rfl⟩ := Int.eq_ofNat_of_zero_le h0
  have hp := pow_le (32 - k) (by omega)
  have e1 : (32 - (k : Int)).toNat = 32 - k := by omega
  have e2 : ((2 : Int) ^ (32 - k)) = ((2 ^ (32 - k) : Nat) : Int) := by simp
  rw [e1, e2]
  unfold restV
  rw [Int.toNat_natCast]
  generalize 2 ^ (32 - k) = m at *
  have e3 : wrap64 (m : Int) = m := IntWalk.wrap64_in _ (by omega)
  rw [e3, IntWalk.wrap64_in _ (by omega)]
  omega
theorem and_rest (n b : Int) (h0 : 0 ≤ n) (h1 : n < 4294967296) (hb0 : 0 ≤ b) (hb : b ≤ 32) : bits .and .i64 n (restV b) = ((n.toNat % 2 ^ (32 - b.toNat) : Nat) : Int) := by
  obtain ⟨a, rfl⟩ := Int.eq_ofNat_of_zero_le h0
  have hp := pow_le (32 - b.toNat) (by omega)
  unfold restV
  rw [and_nat a _ (by omega) (by omega), Nat.and_two_pow_sub_one_eq_mod, Int.toNat_natCast]
theorem andNot_rest (n b : Int) (h0 : 0 ≤ n) (h1 : n < 4294967296) (hb0 : 0 ≤ b) (hb : b ≤ 32) : bits .andNot .i64 n (restV b) = ((n.toNat / 2 ^ (32 - b.toNat) * 2 ^ (32 - b.toNat) : Nat) : Int) := by
  obtain ⟨a, rfl⟩ := Int.eq_ofNat_of_zero_le h0
  have hp := pow_le (32 - b.toNat) (by omega)
  have hk : 32 - b.toNat ≤ 64 := by omega
  unfold restV
  rw [andNot_nat a _ (by omega) (by omega), Int.toNat_natCast]
  have e : 18446744073709551615 - (2 ^ (32 - b.toNat) - 1) = 2 ^ 64 - 2 ^ (32 - b.toNat) := by omega
  rw [e, nat_midmask 64 _ a hk, Nat.mod_eq_of_lt (by omega)]
theorem right_bits (n b : Int) (h0 : 0 ≤ n) (h1 : n < 4294967296) (hb0 : 0 ≤ b) (hb : b ≤ 32) : (bits .and .i64 n (restV b) == 0) = right n b := by
  rw [and_rest n b h0 h1 hb0 hb, Bool.eq_iff_iff]
  unfold right
  simp only [beq_iff_eq, Bool.and_eq_true, decide_eq_true_eq]
  omega
theorem right_not {n b : Int} (h : ¬ (0 ≤ n ∧ n < 4294967296 ∧ 0 ≤ b ∧ b ≤ 32)) : right n b = false := by
  unfold right
  rw [Bool.eq_false_iff]
  simp only [ne_eq, Bool.and_eq_true, decide_eq_true_eq]
  omega
theorem right_bd {n b : Int} (h : right n b = true) : 0 ≤ n ∧ n < 4294967296 ∧ 0 ≤ b ∧ b ≤ 32 ∧ n.toNat % 2 ^ (32 - b.toNat) = 0 := by
  unfold right at h
  simp only [Bool.and_eq_true, decide_eq_true_eq] at h
  omega
theorem in_bits (n b ip : Int) (hr : right n b = true) (h0 : 0 ≤ ip) (h1 : ip < 4294967296) : (bits .andNot .i64 ip (restV b) == n) = isIn n b ip := by
  obtain ⟨n0, n1, b0, b1, hm⟩ := right_bd hr
  rw [andNot_rest ip b h0 h1 b0 b1, Bool.eq_iff_iff]
  unfold isIn
  rw [hr]
  simp only [beq_iff_eq, Bool.and_eq_true, decide_eq_true_eq, Bool.true_and]
  obtain ⟨a, rfl⟩ := Int.eq_ofNat_of_zero_le n0
  rw [Int.toNat_natCast] at hm ⊢
  have hp := pow_le (32 - b.toNat) (by omega)
  have hd := Nat.div_add_mod a (2 ^ (32 - b.toNat))
  generalize 2 ^ (32 - b.toNat) = m at *
  rw [hm, Nat.add_zero] at hd
  constructor
  · intro h
    refine ⟨⟨h0, h1⟩, ?_⟩
    have : ip.toNat / m * m = a := by omega
    rw [← this, Nat.mul_div_cancel _ (by omega)]
  · rintro ⟨_, h⟩
    rw [h, Nat.mul_comm]; omega
/-- A power of two, as a number of the walk's. -/
def pw (n : Int) : Int := ((2 ^ n.toNat : Nat) : Int)
theorem pw_bd (k : Nat) (h : k ≤ 32) : 1 ≤ pw k ∧ pw k ≤ 4294967296 := by
  have := pow_le k h
  unfold pw; rw [Int.toNat_natCast]; omega
theorem pw_bd' (k : Int) (h0 : 0 ≤ k) (h : k ≤ 32) : 1 ≤ pw k ∧ pw k ≤ 4294967296 := by
  obtain ⟨m, rfl⟩ := Int.eq_ofNat_of_zero_le h0
  exact pw_bd m (by omega)
theorem pw_succ (k : Nat) : pw ((k + 1 : Nat) : Int) = 2 * pw k := by
  unfold pw; rw [Int.toNat_natCast, Int.toNat_natCast, Nat.pow_succ]; omega
theorem pw_nat (b : Int) (hb0 : 0 ≤ b) (hb : b ≤ 32) : pw (32 - b) = ((2 ^ (32 - b.toNat) : Nat) : Int) := by
  unfold pw; rw [show (32 - b).toNat = 32 - b.toNat by omega]
theorem right_pw (n b : Int) (h0 : 0 ≤ n) (h1 : n < 4294967296) (hb0 : 0 ≤ b) (hb : b ≤ 32) : (n % pw (32 - b) == 0) = right n b := by
  obtain ⟨a, rfl⟩ := Int.eq_ofNat_of_zero_le h0
  rw [pw_nat b hb0 hb, Bool.eq_iff_iff]
  unfold right
  simp only [beq_iff_eq, Bool.and_eq_true, decide_eq_true_eq, Int.toNat_natCast]
  generalize 2 ^ (32 - b.toNat) = m
  rw [← Int.natCast_emod]
  omega
theorem isIn_not {n b ip : Int} (h : ¬ (right n b = true ∧ 0 ≤ ip ∧ ip < 4294967296)) : isIn n b ip = false := by
  unfold isIn
  rw [Bool.eq_false_iff]
  simp only [ne_eq, Bool.and_eq_true, decide_eq_true_eq]
  rintro ⟨⟨⟨a, c⟩, d⟩, _⟩
  exact h ⟨a, c, d⟩
end Adr
