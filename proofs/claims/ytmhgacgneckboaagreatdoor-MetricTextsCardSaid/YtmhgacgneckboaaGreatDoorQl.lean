/- Walks: the rank of a metric, and the library's looks at a float. Plain facts: the order of floats is that of their signed rungs. Walks: which of two metrics stands ahead; the document's answer and the program's. -/
import Derived.Test.YtmhgacgneckboaaGreatDoorQk
namespace Mtr
open Go Ieee
/-- Is it no number? -/
def nanB (b : Nat) : Bool := double.order b b != some .eq
def rankB (b : Nat) : Int := if nanB b then 9223372036854775807 else if 9223372036854775808 ≤ b then -1 - ((b - 9223372036854775808 : Nat) : Int) else (b : Int)
theorem rankB_nan {b : Nat} (h : nanB b = true) : rankB b = 9223372036854775807 := by unfold rankB; rw [if_pos h]
theorem rankB_neg {b : Nat} (h : nanB b = false) (hb : 9223372036854775808 ≤ b) : rankB b = -1 - ((b - 9223372036854775808 : Nat) : Int) := by
  unfold rankB; rw [if_neg (by rw [h]; decide), if_pos hb]
theorem rankB_pos {b : Nat} (h : nanB b = false) (hb : b < 9223372036854775808) : rankB b = (b : Int) := by
  unfold rankB; rw [if_neg (by rw [h]; decide), if_neg (by omega)]
end Mtr
namespace Go.Proofs.YtmhgacgneckboaaGreatDoor
open Go Go.RowKit Mtr

theorem wrap64_low (b : Nat) (hb : b < 9223372036854775808) : wrap64 (b : Int) = (b : Int) := by unfold wrap64; omega
theorem wrap64_sign (b : Nat) (hb : b < 18446744073709551616) : decide (wrap64 (b : Int) < 0) = decide (9223372036854775808 ≤ b) := by
  apply decide_eq_decide.mpr; unfold wrap64; omega
theorem wrap64_ranks (d : Nat) (h : d < 9223372036854775808) : wrap64 (-1 - (d : Int)) = -1 - (d : Int) := by unfold wrap64; omega
theorem abs_bits (b : Nat) (hb : b < 18446744073709551616) : bits BinOp.andNot IntKind.u64 (b : Int) 9223372036854775808 = ((b % 9223372036854775808 : Nat) : Int) := by
  have := u64_andNot_nat b 9223372036854775808 hb (by decide)
  rw [show 18446744073709551615 - 9223372036854775808 = 2 ^ 63 - 1 by decide, Nat.and_two_pow_sub_one_eq_mod] at this
  rw [show (9223372036854775808 : Nat) = 2 ^ 63 by decide]
  exact this
theorem isNaN_any (b : Nat) (w : World) : Calls Tryz.prog 26 #[.float .f64 b] w fun e w' => e = .returned (.bool (nanB b)) ∧ w' = w := by
  have HX : Hid (nanB b = (Ieee.double.order b b != some .eq)) := rfl
  go_enter Tryz.func26, Tryz.ntmps26
  go_wp2
  go_ret
  exact ⟨ret_bool HX.out.symm, rfl⟩
theorem signbit_any (b : Nat) (w : World) (hb : b < 18446744073709551616) : Calls Tryz.prog 27 #[.float .f64 b] w fun e w' => e = .returned (.bool (decide (9223372036854775808 ≤ b))) ∧ w' = w := by
  have h1 := run_bits
  have HX := Lib.hid (wrap64_sign b hb)
  go_enter Tryz.func27, Tryz.ntmps27
  go_wp2
  go_ret
  exact ⟨ret_bool HX.out, rfl⟩
theorem rank_any (b : Nat) (w : World) (hb : b < 18446744073709551616) : Calls Tryz.prog 12 #[.float .f64 b] w fun e w' => e = .returned (.int .i64 (rankB b)) ∧ w' = w := by
  have h1 := run_bits
  have hd : b % 9223372036854775808 < 9223372036854775808 := Nat.mod_lt _ (by decide)
  have HN := Lib.hid (isNaN_any b)
  have HS := Lib.hid (fun w => signbit_any b w hb)
  have e1 := abs_bits b hb
  have e2 := wrap64_low _ hd
  have e3 := wrap64_ranks _ hd
  have HA : Hid (nanB b = true → rankB b = 9223372036854775807) := fun h => rankB_nan h
  have HB : Hid (nanB b = false → decide (9223372036854775808 ≤ b) = true → rankB b = -1 - ((b % 9223372036854775808 : Nat) : Int)) := fun h h2 => by
    have h3 := of_decide_eq_true h2
    rw [rankB_neg h h3]; omega
  have HC : Hid (nanB b = false → decide (9223372036854775808 ≤ b) = false → rankB b = ((b % 9223372036854775808 : Nat) : Int)) := fun h h2 => by
    have h3 := of_decide_eq_false h2
    rw [rankB_pos h (by omega)]; omega
  generalize nanB b = nb at *
  generalize decide (9223372036854775808 ≤ b) = sg at *
  generalize b % 9223372036854775808 = d at *
  clear hb
  go_enter Tryz.func12, Tryz.ntmps12
  go_wp2_with fail
  refine (HN.out _).mono ?_
  rintro e w' ⟨rfl, rfl⟩
  cases nb with
  | true =>
    go_wp2
    go_ret
    exact ⟨by rw [HA.out (by first | rfl | trivial)]; rfl, rfl⟩
  | false =>
    go_wp2_with fail
    refine (HS.out _).mono ?_
    rintro e w' ⟨rfl, rfl⟩
    cases sg with
    | true =>
      go_wp2
      go_ret
      exact ⟨by rw [HB.out (by first | rfl | trivial) (by first | rfl | trivial)]; rfl, rfl⟩
    | false =>
      go_wp2
      go_ret
      exact ⟨by rw [HC.out (by first | rfl | trivial) (by first | rfl | trivial)]; rfl, rfl⟩
theorem refNan_any (b : Nat) (w : World) : Calls Tryz.prog 23 #[.float .f64 b] w fun e w' => e = .returned (.bool (nanB b)) ∧ w' = w := by
  have HX : Hid (nanB b = (Ieee.double.order b b != some .eq)) := rfl
  go_enter Tryz.func23, Tryz.ntmps23
  go_wp2
  go_ret
  exact ⟨ret_bool HX.out.symm, rfl⟩
theorem refRank_any (b : Nat) (w : World) (hb : b < 18446744073709551616) : Calls Tryz.prog 13 #[.float .f64 b] w fun e w' => e = .returned (.int .i64 (rankB b)) ∧ w' = w := by
  have h1 := run_bits
  have HN := Lib.hid (refNan_any b)
  have HA : Hid (nanB b = true → rankB b = 9223372036854775807) := fun h => rankB_nan h
  by_cases hs : 9223372036854775808 ≤ b
  · have HB : Hid (nanB b = false → rankB b = -1 - ((b - 9223372036854775808 : Nat) : Int)) := fun h => rankB_neg h hs
    have hd : b - 9223372036854775808 < 9223372036854775808 := by omega
    have e0 : decide ((9223372036854775808 : Int) ≤ (b : Int)) = true := decide_eq_true (by omega)
    have e1 : IntKind.u64.wrap ((b : Int) - 9223372036854775808) = ((b - 9223372036854775808 : Nat) : Int) := by rw [IntKind.wrap_u64]; omega
    have e2 := wrap64_low _ hd
    have e3 := wrap64_ranks _ hd
    generalize nanB b = nb at *
    generalize b - 9223372036854775808 = d at *
    clear hb hs
    go_enter Tryz.func13, Tryz.ntmps13
    go_wp2_with fail
    refine (HN.out _).mono ?_
    rintro e w' ⟨rfl, rfl⟩
    cases nb with
    | true =>
      go_wp2
      go_ret
      exact ⟨by rw [HA.out (by first | rfl | trivial)]; rfl, rfl⟩
    | false =>
      go_wp2
      go_ret
      exact ⟨by rw [HB.out (by first | rfl | trivial)]; rfl, rfl⟩
  · have HB : Hid (nanB b = false → rankB b = (b : Int)) := fun h => rankB_pos h (by omega)
    have e0 : decide ((9223372036854775808 : Int) ≤ (b : Int)) = false := decide_eq_false (by omega)
    have e2 := wrap64_low b (by omega)
    generalize nanB b = nb at *
    go_enter Tryz.func13, Tryz.ntmps13
    go_wp2_with fail
    refine (HN.out _).mono ?_
    rintro e w' ⟨rfl, rfl⟩
    cases nb with
    | true =>
      go_wp2
      go_ret
      exact ⟨by rw [HA.out (by first | rfl | trivial)]; rfl, rfl⟩
    | false =>
      go_wp2
      go_ret
      exact ⟨by rw [HB.out (by first | rfl | trivial)]; rfl, rfl⟩
end Go.Proofs.YtmhgacgneckboaaGreatDoor

namespace Fta
open Go Ieee
def rungB (b : Nat) : Nat := b % 9223372036854775808
def negB (b : Nat) : Bool := b / 9223372036854775808 % 2 == 1
def srB (b : Nat) : Int := if negB b then -(rungB b : Int) else (rungB b : Int)
def valR (r : Nat) : Nat := if r < 4503599627370496 then r else (4503599627370496 + r % 4503599627370496) * 2 ^ (r / 4503599627370496 - 1)
theorem valR_succ (r : Nat) : valR r < valR (r + 1) := by
  unfold valR
  by_cases h : r + 1 < 4503599627370496
  · rw [if_pos (by omega), if_pos h]; omega
  rw [if_neg h]
  by_cases h2 : r < 4503599627370496
  · rw [if_pos h2]
    have : r + 1 = 4503599627370496 := by omega
    rw [this, show 4503599627370496 / 4503599627370496 - 1 = 0 by decide, Nat.pow_zero]; omega
  rw [if_neg h2]
  by_cases h3 : r % 4503599627370496 + 1 < 4503599627370496
  · have e1 : (r + 1) / 4503599627370496 = r / 4503599627370496 := by omega
    have e2 : (r + 1) % 4503599627370496 = r % 4503599627370496 + 1 := by omega
    rw [e1, e2]
    exact Nat.mul_lt_mul_of_pos_right (by omega) (Nat.two_pow_pos _)
  · have e1 : (r + 1) / 4503599627370496 - 1 = (r / 4503599627370496 - 1) + 1 := by omega
    have e2 : (r + 1) % 4503599627370496 = 0 := by omega
    rw [e1, e2, Nat.pow_succ]
    have := Nat.two_pow_pos (r / 4503599627370496 - 1)
    have h4 : (4503599627370496 + r % 4503599627370496) * 2 ^ (r / 4503599627370496 - 1) < 9007199254740992 * 2 ^ (r / 4503599627370496 - 1) := Nat.mul_lt_mul_of_pos_right (by omega) this
    omega
theorem valR_add (r k : Nat) : valR r < valR (r + k + 1) := by
  induction k with
  | zero => exact valR_succ r
  | succ k ih => exact Nat.lt_trans ih (valR_succ _)
theorem valR_lt {r s : Nat} (h : r < s) : valR r < valR s := by
  have := valR_add r (s - r - 1)
  rwa [show r + (s - r - 1) + 1 = s by omega] at this
theorem valR_iff {r s : Nat} : valR r < valR s ↔ r < s := by
  constructor
  · intro h
    rcases Nat.lt_trichotomy r s with h2 | h2 | h2
    · exact h2
    · rw [h2] at h; omega
    · have := valR_lt h2; omega
  · exact valR_lt
theorem valR_zero : valR 0 = 0 := rfl
theorem valR_pos {r : Nat} : 0 < valR r ↔ 0 < r := by rw [← valR_zero, valR_iff, valR_zero]
theorem valR_inj {r s : Nat} : valR r = valR s ↔ r = s := by
  constructor
  · intro h
    rcases Nat.lt_trichotomy r s with h2 | h2 | h2
    · have := valR_lt h2; omega
    · exact h2
    · have := valR_lt h2; omega
  · intro h; rw [h]
theorem read_nan (b : Nat) (h : 9218868437227405312 < rungB b) : ∃ s f, double.read b = .nan s f := by
  unfold Format.read rungB at *
  dsimp only
  rw [sign_d, binade_d, infRung_d, if_neg (by omega), if_neg (by omega), if_neg (by omega)]
  exact ⟨_, _, rfl⟩
theorem read_inf (b : Nat) (h : rungB b = 9218868437227405312) : double.read b = .infinity (negB b) := by
  unfold Format.read
  unfold rungB at h
  dsimp only
  rw [sign_d, binade_d, infRung_d, h, if_neg (by omega), if_neg (by omega), if_pos rfl]
  rfl
theorem read_num (b : Nat) (h : rungB b < 9218868437227405312) : ∃ m i, double.read b = .number (negB b) m i ∧ -1074 ≤ i ∧ m * 2 ^ (i + 1074).toNat = valR (rungB b) := by
  unfold Format.read
  have hr : b % 9223372036854775808 = rungB b := rfl
  have hn : (b / 9223372036854775808 % 2 == 1) = negB b := rfl
  dsimp only
  rw [sign_d, binade_d, infRung_d, least_d, hr, hn]
  generalize rungB b = r at *
  unfold valR
  by_cases h1 : r < 4503599627370496
  · rw [if_pos h1, if_pos h1]
    exact ⟨_, _, rfl, by omega, by rw [show (-1074 + 1074 : Int).toNat = 0 by decide]; omega⟩
  · rw [if_neg h1, if_neg h1, if_pos h]
    refine ⟨_, _, rfl, by omega, ?_⟩
    rw [show ((-1074 : Int) + ((r / 4503599627370496 - 1 : Nat) : Int) + 1074).toNat = r / 4503599627370496 - 1 by omega]
theorem comp_iff {x y u v : Int} (h1 : x < y ↔ u < v) (h2 : x = y ↔ u = v) : compare x y = compare u v := by
  show compareOfLessAndEq x y = compareOfLessAndEq u v
  unfold compareOfLessAndEq
  simp only [h1, h2]
theorem signed_shift (s : Bool) (m : Nat) (i base : Int) (h0 : -1074 ≤ base) (h : base ≤ i) : signed s m (i - base).toNat * ((2 ^ (base + 1074).toNat : Nat) : Int) = if s then -((m * 2 ^ (i + 1074).toNat : Nat) : Int) else ((m * 2 ^ (i + 1074).toNat : Nat) : Int) := by
  have e : (m <<< (i - base).toNat) * 2 ^ (base + 1074).toNat = m * 2 ^ (i + 1074).toNat := by
    rw [Nat.shiftLeft_eq, Nat.mul_assoc, ← Nat.pow_add, show (i - base).toNat + (base + 1074).toNat = (i + 1074).toNat by omega]
  unfold signed
  cases s with
  | true => rw [if_pos rfl, if_pos rfl, Int.neg_mul, ← Int.natCast_mul, e]
  | false => rw [if_neg (by decide), if_neg (by decide), ← Int.natCast_mul, e]
theorem comp_mul (x y : Int) (c : Nat) (h : 0 < c) : compare x y = compare (x * (c : Int)) (y * (c : Int)) := by
  have hc : (0 : Int) < (c : Int) := by omega
  refine comp_iff ?_ ?_
  · exact (Int.mul_lt_mul_right hc).symm
  · exact (Int.mul_eq_mul_right_iff (by omega)).symm
theorem comp_lt {x y : Int} (h : x < y) : compare x y = .lt := by
  show compareOfLessAndEq x y = _
  unfold compareOfLessAndEq
  rw [if_pos h]
theorem comp_gt {x y : Int} (h : y < x) : compare x y = .gt := by
  show compareOfLessAndEq x y = _
  unfold compareOfLessAndEq
  rw [if_neg (by omega), if_neg (by omega)]
theorem comp_eq {x y : Int} (h : x = y) : compare x y = .eq := by
  show compareOfLessAndEq x y = _
  unfold compareOfLessAndEq
  rw [if_neg (by omega), if_pos h]
/-- The order of two floats that are numbers or infinite. -/
theorem order_sr (a b : Nat) (ha : rungB a ≤ 9218868437227405312) (hb : rungB b ≤ 9218868437227405312) : double.order a b = some (compare (srB a) (srB b)) := by
  unfold Format.order
  by_cases h1 : rungB a = 9218868437227405312
  · rw [read_inf a h1]
    by_cases h2 : rungB b = 9218868437227405312
    · rw [read_inf b h2]
      unfold srB
      rw [h1, h2]
      cases negB a <;> cases negB b <;> rfl
    · obtain ⟨m, i, e, _, _⟩ := read_num b (by omega)
      rw [e]
      unfold srB
      rw [h1]
      show some (if negB a then Ordering.lt else .gt) = _
      cases negB a with
      | true => exact congrArg some (comp_lt (by simp only [if_true]; split <;> omega)).symm
      | false => exact congrArg some (comp_gt (by simp only [if_false, Bool.false_eq_true]; split <;> omega)).symm
  · obtain ⟨m, i, e, hi, hv⟩ := read_num a (by omega)
    rw [e]
    by_cases h2 : rungB b = 9218868437227405312
    · rw [read_inf b h2]
      unfold srB
      rw [h2]
      show some (if negB b then Ordering.gt else .lt) = _
      cases negB b with
      | true => exact congrArg some (comp_gt (by simp only [if_true]; split <;> omega)).symm
      | false => exact congrArg some (comp_lt (by simp only [if_false, Bool.false_eq_true]; split <;> omega)).symm
    · obtain ⟨n, j, e2, hj, hw⟩ := read_num b (by omega)
      rw [e2]
      show some (compare (signed (negB a) m (i - min i j).toNat) (signed (negB b) n (j - min i j).toNat)) = _
      rw [comp_mul _ _ (2 ^ (min i j + 1074).toNat) (Nat.two_pow_pos _), signed_shift _ _ _ _ (by omega) (by omega), signed_shift _ _ _ _ (by omega) (by omega), hv, hw]
      have k1 := @valR_iff (rungB a) (rungB b)
      have k2 := @valR_iff (rungB b) (rungB a)
      have k3 := @valR_pos (rungB a)
      have k4 := @valR_pos (rungB b)
      congr 1
      unfold srB
      generalize valR (rungB a) = va at *
      generalize valR (rungB b) = vb at *
      generalize rungB a = ra at *
      generalize rungB b = rb at *
      cases negB a <;> cases negB b <;> refine comp_iff ?_ ?_ <;> simp only [if_true, if_false, Bool.false_eq_true] <;> omega
theorem order_nan (a b : Nat) (h : 9218868437227405312 < rungB a ∨ 9218868437227405312 < rungB b) : double.order a b = none := by
  unfold Format.order
  rcases h with h | h
  · obtain ⟨s, f, e⟩ := read_nan a h
    rw [e]; rfl
  · obtain ⟨s, f, e⟩ := read_nan b h
    rw [e]
    cases double.read a <;> rfl
/-- The order, whatever the two are. -/
theorem order_all (a b : Nat) : double.order a b = if 9218868437227405312 < rungB a ∨ 9218868437227405312 < rungB b then none else some (compare (srB a) (srB b)) := by
  by_cases h : 9218868437227405312 < rungB a ∨ 9218868437227405312 < rungB b
  · rw [if_pos h, order_nan a b h]
  · rw [if_neg h, order_sr a b (by omega) (by omega)]
theorem order_isLt (a b : Nat) : (double.order a b == some .lt) = (decide (rungB a ≤ 9218868437227405312) && decide (rungB b ≤ 9218868437227405312) && decide (srB a < srB b)) := by
  rw [order_all]
  by_cases h : 9218868437227405312 < rungB a ∨ 9218868437227405312 < rungB b
  · rw [if_pos h]
    rcases h with h | h
    · rw [decide_eq_false (by omega : ¬ rungB a ≤ 9218868437227405312)]; rfl
    · rw [decide_eq_false (by omega : ¬ rungB b ≤ 9218868437227405312), Bool.and_false]; rfl
  · rw [if_neg h, decide_eq_true (by omega : rungB a ≤ 9218868437227405312), decide_eq_true (by omega : rungB b ≤ 9218868437227405312)]
    rcases Int.lt_trichotomy (srB a) (srB b) with k | k | k
    · rw [comp_lt k, decide_eq_true k]; rfl
    · rw [comp_eq k, decide_eq_false (by omega)]; rfl
    · rw [comp_gt k, decide_eq_false (by omega)]; rfl
theorem order_isEq (a b : Nat) : (double.order a b == some .eq) = (decide (rungB a ≤ 9218868437227405312) && decide (rungB b ≤ 9218868437227405312) && decide (srB a = srB b)) := by
  rw [order_all]
  by_cases h : 9218868437227405312 < rungB a ∨ 9218868437227405312 < rungB b
  · rw [if_pos h]
    rcases h with h | h
    · rw [decide_eq_false (by omega : ¬ rungB a ≤ 9218868437227405312)]; rfl
    · rw [decide_eq_false (by omega : ¬ rungB b ≤ 9218868437227405312), Bool.and_false]; rfl
  · rw [if_neg h, decide_eq_true (by omega : rungB a ≤ 9218868437227405312), decide_eq_true (by omega : rungB b ≤ 9218868437227405312)]
    rcases Int.lt_trichotomy (srB a) (srB b) with k | k | k
    · rw [comp_lt k, decide_eq_false (by omega)]; rfl
    · rw [comp_eq k, decide_eq_true k]; rfl
    · rw [comp_gt k, decide_eq_false (by omega)]; rfl
theorem order_isGt (a b : Nat) : (double.order a b == some .gt) = (decide (rungB a ≤ 9218868437227405312) && decide (rungB b ≤ 9218868437227405312) && decide (srB b < srB a)) := by
  rw [order_all]
  by_cases h : 9218868437227405312 < rungB a ∨ 9218868437227405312 < rungB b
  · rw [if_pos h]
    rcases h with h | h
    · rw [decide_eq_false (by omega : ¬ rungB a ≤ 9218868437227405312)]; rfl
    · rw [decide_eq_false (by omega : ¬ rungB b ≤ 9218868437227405312), Bool.and_false]; rfl
  · rw [if_neg h, decide_eq_true (by omega : rungB a ≤ 9218868437227405312), decide_eq_true (by omega : rungB b ≤ 9218868437227405312)]
    rcases Int.lt_trichotomy (srB a) (srB b) with k | k | k
    · rw [comp_lt k, decide_eq_false (by omega)]; rfl
    · rw [comp_eq k, decide_eq_false (by omega)]; rfl
    · rw [comp_gt k, decide_eq_true k]; rfl
end Fta

namespace Mtr
open Go Ieee Fta
theorem nanB_rung (b : Nat) : nanB b = decide (9218868437227405312 < rungB b) := by
  have h : nanB b = !(double.order b b == some .eq) := rfl
  rw [h, order_isEq]
  by_cases k : 9218868437227405312 < rungB b
  · rw [decide_eq_true k, decide_eq_false (by omega)]; rfl
  · rw [decide_eq_false k, decide_eq_true (by omega : rungB b ≤ 9218868437227405312), decide_eq_true rfl]; rfl
/-- Does one stand ahead of another one? -/
def aheadB (a b : Nat) : Bool := decide (rankB a < rankB b)
theorem rank_val (b : Nat) (hb : b < 18446744073709551616) : rankB b = if 9218868437227405312 < rungB b then 9223372036854775807 else if negB b then -1 - (rungB b : Int) else (rungB b : Int) := by
  unfold rankB
  rw [nanB_rung]
  unfold rungB negB
  by_cases h : 9223372036854775808 ≤ b
  · have e1 : b / 9223372036854775808 % 2 = 1 := by omega
    have e2 : b % 9223372036854775808 = b - 9223372036854775808 := by omega
    rw [if_pos h, e1, e2]
    simp only [decide_eq_true_eq, beq_self_eq_true, if_true]
  · have e1 : b / 9223372036854775808 % 2 = 0 := by omega
    have e2 : b % 9223372036854775808 = b := by omega
    rw [if_neg h, e1, e2]
    simp only [decide_eq_true_eq, show ((0 : Nat) == 1) = false from rfl, Bool.false_eq_true, if_false]
theorem rung_lt (b : Nat) : rungB b < 9223372036854775808 := Nat.mod_lt _ (by decide)
theorem ahead_nan (a b : Nat) (ha : a < 18446744073709551616) (hb : b < 18446744073709551616) (h : nanB a = true) : aheadB a b = false := by
  rw [nanB_rung] at h
  have h := of_decide_eq_true h
  unfold aheadB
  rw [rank_val a ha, rank_val b hb, if_pos h]
  have := rung_lt b
  apply decide_eq_false
  split
  · omega
  · split <;> omega
theorem ahead_nanR (a b : Nat) (ha : a < 18446744073709551616) (hb : b < 18446744073709551616) (h : nanB a = false) (h2 : nanB b = true) : aheadB a b = true := by
  rw [nanB_rung] at h h2
  have h := of_decide_eq_false h
  have h2 := of_decide_eq_true h2
  unfold aheadB
  rw [rank_val a ha, rank_val b hb, if_pos h2, if_neg h]
  apply decide_eq_true
  split <;> omega
theorem split_bits (b : Nat) (hb : b < 18446744073709551616) : ∃ r, r < 9223372036854775808 ∧ rungB b = r ∧ ((b = r ∧ negB b = false) ∨ (b = 9223372036854775808 + r ∧ negB b = true)) := by
  refine ⟨_, rung_lt b, rfl, ?_⟩
  unfold rungB negB
  by_cases h : 9223372036854775808 ≤ b
  · rw [show b / 9223372036854775808 % 2 = 1 by omega]
    exact Or.inr ⟨by omega, rfl⟩
  · rw [show b / 9223372036854775808 % 2 = 0 by omega]
    exact Or.inl ⟨by omega, rfl⟩
theorem ahead_lt (a b : Nat) (ha : a < 18446744073709551616) (hb : b < 18446744073709551616) (h : (double.order a b == some .lt) = true) : aheadB a b = true := by
  rw [order_isLt] at h
  simp only [Bool.and_eq_true, decide_eq_true_eq] at h
  obtain ⟨⟨h1, h2⟩, h3⟩ := h
  unfold aheadB
  rw [rank_val a ha, rank_val b hb, if_neg (Nat.not_lt.2 h1), if_neg (Nat.not_lt.2 h2)]
  apply decide_eq_true
  unfold srB at h3
  cases h4 : negB a <;> cases h5 : negB b <;> rw [h4, h5] at h3 <;> simp only [if_true, if_false, Bool.false_eq_true] at h3 ⊢ <;> omega
theorem zero_isEq (a : Nat) (ha : a < 18446744073709551616) : (double.order a 0 == some .eq) = (decide (a = 0) || decide (a = 9223372036854775808)) := by
  rw [order_isEq]
  have e : srB 0 = 0 := by decide
  have e2 : rungB 0 = 0 := by decide
  rw [e, e2]
  by_cases h1 : a = 0
  · rw [h1]; decide
  by_cases h2 : a = 9223372036854775808
  · rw [h2]; decide
  rw [decide_eq_false h1, decide_eq_false h2, Bool.or_self]
  have : ¬ srB a = 0 := by
    obtain ⟨r, hr, e3, ⟨e4, e5⟩ | ⟨e4, e5⟩⟩ := split_bits a ha
    · unfold srB; rw [e5, e3]; simp only [if_false, Bool.false_eq_true]; omega
    · unfold srB; rw [e5, e3]; simp only [if_true]; omega
  rw [decide_eq_false this, Bool.and_false]
/-- Neither is no number, the one is not less: it stands ahead only as -0 ahead of 0. -/
theorem ahead_zero (a b : Nat) (ha : a < 18446744073709551616) (hb : b < 18446744073709551616) (h1 : nanB a = false) (h2 : nanB b = false) (h : (double.order a b == some .lt) = false) : aheadB a b = (decide (a = 9223372036854775808) && decide (b = 0)) := by
  rw [nanB_rung] at h1 h2
  have h1 := of_decide_eq_false h1
  have h2 := of_decide_eq_false h2
  rw [order_isLt, decide_eq_true (Nat.not_lt.1 h1), decide_eq_true (Nat.not_lt.1 h2), Bool.and_self, Bool.true_and] at h
  have h := of_decide_eq_false h
  unfold aheadB
  rw [rank_val a ha, rank_val b hb, if_neg h1, if_neg h2]
  unfold srB at h
  obtain ⟨r, hr, e3, ⟨e4, e5⟩ | ⟨e4, e5⟩⟩ := split_bits a ha <;> obtain ⟨s, hs, f3, ⟨f4, f5⟩ | ⟨f4, f5⟩⟩ := split_bits b hb <;> rw [e3, e5, f3, f5] at h <;> rw [e3, e5, f3, f5] <;> simp only [if_true, if_false, Bool.false_eq_true] at h ⊢
  · rw [decide_eq_false (by omega : ¬ a = 9223372036854775808)]
    exact decide_eq_false (by omega)
  · rw [decide_eq_false (by omega : ¬ a = 9223372036854775808)]
    exact decide_eq_false (by omega)
  · by_cases k : b = 0
    · rw [decide_eq_true k, decide_eq_true (by omega : a = 9223372036854775808)]
      exact decide_eq_true (by omega)
    · exfalso; omega
  · rw [decide_eq_false (by omega : ¬ b = 0), Bool.and_false]
    exact decide_eq_false (by omega)
end Mtr
namespace Go.Proofs.YtmhgacgneckboaaGreatDoor
open Go Go.RowKit Mtr Ieee

theorem less_any (a b : Nat) (w : World) (ha : a < 18446744073709551616) (hb : b < 18446744073709551616) : Calls Tryz.prog 14 #[.float .f64 a, .float .f64 b] w fun e w' => e = .returned (.bool (aheadB a b)) ∧ w' = w := by
  have H1 := Lib.hid (fun w => rank_any a w ha)
  have H2 := Lib.hid (fun w => rank_any b w hb)
  have HX : Hid (aheadB a b = decide (rankB a < rankB b)) := rfl
  generalize rankB a = ra at *
  generalize rankB b = rb at *
  clear ha hb
  go_enter Tryz.func14, Tryz.ntmps14
  go_wp2_with fail
  refine (H1.out _).mono ?_
  rintro e w' ⟨rfl, rfl⟩
  go_wp2_with fail
  refine (H2.out _).mono ?_
  rintro e w' ⟨rfl, rfl⟩
  go_wp2
  go_ret
  exact ⟨ret_bool HX.out.symm, rfl⟩
theorem ahead_any (a b : Nat) (w : World) (ha : a < 18446744073709551616) (hb : b < 18446744073709551616) : Calls Tryz.prog 15 #[.float .f64 a, .float .f64 b] w fun e w' => e = .returned (.bool (aheadB a b)) ∧ w' = w := by
  have H1 := Lib.hid (fun w => refNan_any a w)
  have H2 := Lib.hid (fun w => refNan_any b w)
  have HA := Lib.hid (ahead_nan a b ha hb)
  have HB := Lib.hid (ahead_nanR a b ha hb)
  have HC := Lib.hid (ahead_lt a b ha hb)
  have HD := Lib.hid (ahead_zero a b ha hb)
  have HE := Lib.hid (zero_isEq a ha)
  have HF := Lib.hid (zero_isEq b hb)
  cases hna : nanB a with
  | true =>
    rw [hna] at H1
    have HA := Lib.hid (HA.out hna)
    clear ha hb HB HC HD HE HF hna
    go_enter Tryz.func15, Tryz.ntmps15
    go_wp2_with fail
    refine (H1.out _).mono ?_
    rintro e w' ⟨rfl, rfl⟩
    go_wp2
    go_ret
    exact ⟨by rw [HA.out]; rfl, rfl⟩
  | false =>
    rw [hna] at H1
    cases hnb : nanB b with
    | true =>
      rw [hnb] at H2
      have HA := Lib.hid (HB.out hna hnb)
      clear ha hb HB HC HD HE HF hna hnb
      go_enter Tryz.func15, Tryz.ntmps15
      go_wp2_with fail
      refine (H1.out _).mono ?_
      rintro e w' ⟨rfl, rfl⟩
      go_wp2_with fail
      refine (H2.out _).mono ?_
      rintro e w' ⟨rfl, rfl⟩
      go_wp2
      go_ret
      exact ⟨by rw [HA.out]; rfl, rfl⟩
    | false =>
      rw [hnb] at H2
      cases hlt : double.order a b == some .lt with
      | true =>
        have HA := Lib.hid (HC.out hlt)
        have hlt' : (FloatKind.f64.format.order a b == some .lt) = true := hlt
        clear ha hb HB HC HD HE HF hna hnb hlt
        go_enter Tryz.func15, Tryz.ntmps15
        go_wp2_with fail
        refine (H1.out _).mono ?_
        rintro e w' ⟨rfl, rfl⟩
        go_wp2_with fail
        refine (H2.out _).mono ?_
        rintro e w' ⟨rfl, rfl⟩
        go_wp2
        go_ret
        exact ⟨by rw [HA.out]; rfl, rfl⟩
      | false =>
        have HA := Lib.hid (HD.out hna hnb hlt)
        have hlt' : (FloatKind.f64.format.order a b == some .lt) = false := hlt
        clear HB HC HD hlt
        cases hea : double.order a 0 == some .eq with
        | false =>
          have hea' : (FloatKind.f64.format.order a 0 == some .eq) = false := hea
          have HG : Hid (aheadB a b = false) := by
            show _ = _
            rw [HE.out] at hea
            rw [HA.out]
            simp only [Bool.or_eq_false_iff] at hea
            rw [hea.2, Bool.false_and]
          clear ha hb HE HF hna hnb hea HA
          go_enter Tryz.func15, Tryz.ntmps15
          go_wp2_with fail
          refine (H1.out _).mono ?_
          rintro e w' ⟨rfl, rfl⟩
          go_wp2_with fail
          refine (H2.out _).mono ?_
          rintro e w' ⟨rfl, rfl⟩
          go_wp2
          go_ret
          exact ⟨by rw [HG.out]; rfl, rfl⟩
        | true =>
          cases heb : double.order b 0 == some .eq with
          | false =>
            have hea' : (FloatKind.f64.format.order a 0 == some .eq) = true := hea
            have heb' : (FloatKind.f64.format.order b 0 == some .eq) = false := heb
            have HG : Hid (aheadB a b = false) := by
              show _ = _
              rw [HF.out] at heb
              rw [HA.out]
              simp only [Bool.or_eq_false_iff] at heb
              rw [heb.1, Bool.and_false]
            clear ha hb HE HF hna hnb hea HA
            go_enter Tryz.func15, Tryz.ntmps15
            go_wp2_with fail
            refine (H1.out _).mono ?_
            rintro e w' ⟨rfl, rfl⟩
            go_wp2_with fail
            refine (H2.out _).mono ?_
            rintro e w' ⟨rfl, rfl⟩
            go_wp2
            go_ret
            exact ⟨by rw [HG.out]; rfl, rfl⟩
          | true =>
            rw [HE.out] at hea
            rw [HF.out] at heb
            have q1 : ∀ w, (binOp .quo 22 (.float .f64 4607182418800017408) (.float .f64 0)).run Tryz.prog w = .ok (.float .f64 9218868437227405312) w := fun w => run_float_arith w .quo _ .f64 _ _ _ (by decide +kernel)
            have q2 : ∀ w, (binOp .quo 22 (.float .f64 4607182418800017408) (.float .f64 9223372036854775808)).run Tryz.prog w = .ok (.float .f64 18442240474082181120) w := fun w => run_float_arith w .quo _ .f64 _ _ _ (by decide +kernel)
            have o1 : (FloatKind.f64.format.order 9218868437227405312 0 == some .lt) = false := by decide +kernel
            have o2 : (FloatKind.f64.format.order 18442240474082181120 0 == some .lt) = true := by decide +kernel
            have o3 : (FloatKind.f64.format.order 9218868437227405312 0 == some .gt) = true := by decide +kernel
            have o4 : (FloatKind.f64.format.order 18442240474082181120 0 == some .gt) = false := by decide +kernel
            have o5 : (FloatKind.f64.format.order 0 0 == some .eq) = true := by decide +kernel
            have o6 : (FloatKind.f64.format.order 9223372036854775808 0 == some .eq) = true := by decide +kernel
            have HG : Hid (aheadB a b = (decide (a = 9223372036854775808) && decide (b = 0))) := HA
            have hea : a = 0 ∨ a = 9223372036854775808 := by simpa using hea
            have heb : b = 0 ∨ b = 9223372036854775808 := by simpa using heb
            clear ha hb HE HF hna hnb HA
            rcases hea with rfl | rfl <;> rcases heb with rfl | rfl
            all_goals
              have HG := Lib.hid HG.out
              go_enter Tryz.func15, Tryz.ntmps15
              go_wp2_with fail
              refine (H1.out _).mono ?_
              rintro e w' ⟨rfl, rfl⟩
              go_wp2_with fail
              refine (H2.out _).mono ?_
              rintro e w' ⟨rfl, rfl⟩
              go_wp2
              go_ret
              exact ⟨ret_bool (HG.out.trans (by decide)).symm, rfl⟩
theorem same_any (a b : Nat) (w : World) (ha : a < 18446744073709551616) (hb : b < 18446744073709551616) : Calls Tryz.prog 19 #[.float .f64 a, .float .f64 b] w fun e w' => e = .returned (.bool (!aheadB a b && !aheadB b a)) ∧ w' = w := by
  have H1 := Lib.hid (fun w => ahead_any a b w ha hb)
  have H2 := Lib.hid (fun w => ahead_any b a w hb ha)
  generalize aheadB a b = p at *
  generalize aheadB b a = q at *
  clear ha hb
  cases p with
  | true =>
    go_enter Tryz.func19, Tryz.ntmps19
    go_wp2_with fail
    refine (H1.out _).mono ?_
    rintro e w' ⟨rfl, rfl⟩
    go_wp2
    go_ret
    exact ⟨rfl, rfl⟩
  | false =>
    go_enter Tryz.func19, Tryz.ntmps19
    go_wp2_with fail
    refine (H1.out _).mono ?_
    rintro e w' ⟨rfl, rfl⟩
    go_wp2_with fail
    refine (H2.out _).mono ?_
    rintro e w' ⟨rfl, rfl⟩
    go_wp2
    go_ret
    exact ⟨by cases q <;> rfl, rfl⟩
end Go.Proofs.YtmhgacgneckboaaGreatDoor
