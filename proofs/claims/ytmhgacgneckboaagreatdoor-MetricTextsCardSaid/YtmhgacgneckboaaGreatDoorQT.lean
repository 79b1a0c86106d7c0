/- Plain facts: numbers of thousandths stand in order. The law MetricThousand. -/
import Derived.Test.YtmhgacgneckboaaGreatDoorQm
import Derived.Test.YtmhgacgneckboaaGreatDoorQn
namespace Mtr
open Go Ieee Fta
theorem thou_null : thou 0 = 0 := by unfold thou; rw [thou_zero, Option.getD_some]
theorem thou_lt {n m : Nat} (h : n < m) (hm : m ≤ 999999999) : thou n < thou m := by
  obtain ⟨E2, M2, a1, a2, a3, a4, a5, a6, a7⟩ := thousand_digits m (by omega) hm
  have e2 : thou m = E2 * 4503599627370496 + (M2 - 4503599627370496) := by unfold thou; rw [a3, Option.getD_some]
  rcases Nat.eq_zero_or_pos n with rfl | h0
  · rw [thou_null, e2]; omega
  obtain ⟨E, M, b1, b2, b3, b4, b5, b6, b7⟩ := thousand_digits n h0 (by omega)
  have e1 : thou n = E * 4503599627370496 + (M - 4503599627370496) := by unfold thou; rw [b3, Option.getD_some]
  rw [e1, e2]
  clear a3 b3 e1 e2
  have hp : 2147483648 ≤ 2 ^ (1074 - E) := by
    have : (2 : Nat) ^ 31 ≤ 2 ^ (1074 - E) := Nat.pow_le_pow_right (by decide) (by omega)
    exact this
  rcases Nat.lt_trichotomy E E2 with k | k | k
  · omega
  · subst k
    generalize 2 ^ (1074 - E) = p at *
    have h1 : (n + 1) * p ≤ m * p := Nat.mul_le_mul_right _ (by omega)
    rw [Nat.mul_assoc] at a6 a7 b6 b7
    rw [Nat.add_mul, Nat.one_mul] at h1
    generalize n * p = u at *
    generalize m * p = v at *
    omega
  · exfalso
    obtain ⟨d, hd⟩ : ∃ d, 1074 - E2 = 1074 - E + 1 + d := ⟨E - E2 - 1, by omega⟩
    have hq : 2 * 2 ^ (1074 - E) ≤ 2 ^ (1074 - E2) := by
      rw [hd, Nat.pow_add, Nat.pow_succ, Nat.mul_comm 2]
      exact Nat.le_mul_of_pos_right _ (Nat.two_pow_pos _)
    generalize 2 ^ (1074 - E) = p at *
    generalize 2 ^ (1074 - E2) = q at *
    have h1 : (n + 1) * (2 * p) ≤ m * q := Nat.mul_le_mul (by omega) hq
    rw [Nat.mul_assoc] at a6 a7 b6 b7
    rw [Nat.add_mul, Nat.one_mul, ← Nat.mul_assoc, Nat.mul_comm n 2, Nat.mul_assoc] at h1
    generalize n * p = u at *
    generalize m * q = v at *
    omega
theorem thou_iff {n m : Nat} (hn : n ≤ 999999999) (hm : m ≤ 999999999) : thou n < thou m ↔ n < m := by
  constructor
  · intro h
    rcases Nat.lt_trichotomy n m with k | k | k
    · exact k
    · rw [k] at h; omega
    · have := thou_lt k hn; omega
  · intro h; exact thou_lt h hm
theorem thou_rung {n : Nat} (h : n ≤ 999999999) : rungB (thou n) = thou n ∧ nanB (thou n) = false ∧ rankB (thou n) = (thou n : Int) := by
  have hb := thou_bound h
  have h1 : rungB (thou n) = thou n := by unfold rungB; omega
  have h2 : nanB (thou n) = false := by rw [nanB_rung, h1]; exact decide_eq_false (by omega)
  exact ⟨h1, h2, rankB_pos h2 (by omega)⟩
theorem ahead_thou {n m : Nat} (hn : n ≤ 999999999) (hm : m ≤ 999999999) : aheadB (thou n) (thou m) = decide (n < m) := by
  unfold aheadB
  rw [(thou_rung hn).2.2, (thou_rung hm).2.2]
  apply decide_eq_decide.2
  have := thou_iff hn hm
  omega
theorem ahead_ofT {n : Nat} (hn : n ≤ 999999999) : aheadB (ofT true n) (thou n) = true := by
  have hb := thou_bound hn
  have h1 := ofT_rung true hn
  have h2 : nanB (ofT true n) = false := by rw [nanB_rung, h1]; exact decide_eq_false (by omega)
  have h3 : rankB (ofT true n) = -1 - ((ofT true n - 9223372036854775808 : Nat) : Int) := rankB_neg h2 (by unfold ofT; rw [if_pos rfl]; omega)
  unfold aheadB
  rw [h3, (thou_rung hn).2.2]
  exact decide_eq_true (by omega)
theorem thou_isEq {n : Nat} (hn : n ≤ 999999999) : (double.order (thou n) (thou n) == some .eq) = true := by
  have hb := thou_bound hn
  rw [order_isEq, (thou_rung hn).1, decide_eq_true (by omega : thou n ≤ 9218868437227405312), decide_eq_true rfl]; rfl
theorem flip_thou {n : Nat} (hn : n ≤ 999999999) : flipB (thou n) = ofT true n := by
  have hb := thou_bound hn
  unfold flipB ofT
  rw [if_pos (by omega), if_pos rfl]; omega
end Mtr

namespace Go.Proofs.YtmhgacgneckboaaGreatDoor
open Go Go.RowKit Mtr Ieee Fta
set_option maxHeartbeats 2000000 in
set_option maxRecDepth 100000 in
theorem thousand_any (a b : Int) (w : World) (hE : EnvF w) (ha : 0 ≤ a ∧ a ≤ 4294967295) (hb : 0 ≤ b ∧ b ≤ 4294967295) :
    Calls Tryz.prog 10 #[.int .u32 a, .int .u32 b] w fun e w' => e = .returned (.bool true) ∧ Below w.heap.size w w' := by
  obtain ⟨n, hn, e1⟩ : ∃ n : Nat, n ≤ 999999999 ∧ a.tmod 1000000000 = (n : Int) := ⟨(a % 1000000000).toNat, by omega, by rw [Int.tmod_eq_emod_of_nonneg ha.1]; omega⟩
  obtain ⟨m, hm, e2⟩ : ∃ m : Nat, m ≤ 999999999 ∧ b.tmod 1000000000 = (m : Int) := ⟨(b % 1000000000).toNat, by omega, by rw [Int.tmod_eq_emod_of_nonneg hb.1]; omega⟩
  have e3 : wrap64 (n : Int) = (n : Int) := by unfold wrap64; omega
  have e4 : wrap64 (m : Int) = (m : Int) := by unfold wrap64; omega
  have hq1 : ∀ w, (binOp .quo 22 (.float .f64 (floatOfInt .f64 (n : Int))) (.float .f64 4652007308841189376)).run Tryz.prog w = .ok (.float .f64 (thou n)) w := fun w => run_float_arith w .quo _ .f64 _ _ _ (thou_run hn).2
  have hq2 : ∀ w, (binOp .quo 22 (.float .f64 (floatOfInt .f64 (m : Int))) (.float .f64 4652007308841189376)).run Tryz.prog w = .ok (.float .f64 (thou m)) w := fun w => run_float_arith w .quo _ .f64 _ _ _ (thou_run hm).2
  have hF := ofT_lt false hn
  have hG := ofT_lt false hm
  have eF : ofT false n = thou n := by unfold ofT; rw [if_neg (by decide), Nat.zero_add]
  have eG : ofT false m = thou m := by unfold ofT; rw [if_neg (by decide), Nat.zero_add]
  rw [eF] at hF
  rw [eG] at hG
  have hng := neg_run (thou n) hF
  rw [flip_thou hn] at hng
  have hNF := ofT_lt true hn
  obtain ⟨hv1, hv2⟩ := text_val false n hn
  obtain ⟨l1, l2, l3⟩ := text_len false n hn
  have HT1 : Hid (∀ w, EnvF w → Calls Tryz.prog 20 #[.float .f64 (thou n)] w fun e w' => e = .returned (.tuple #[.string ⟨(sgn false ++ textL n).toArray⟩, .bool true]) ∧ Below w.heap.size w w') := fun w h => by
    have := text_thou n hn false w h
    rw [eF] at this; exact this
  have hcat : (⟨(sgn true ++ textL n).toArray⟩ : ByteArray) = (⟨#[45]⟩ : ByteArray) ++ ⟨(sgn false ++ textL n).toArray⟩ := by
    apply ByteArray.ext
    rw [ByteArray.data_append]
    apply Array.ext'
    simp [sgn]
  have HT2 : Hid (∀ w, EnvF w → Calls Tryz.prog 20 #[.float .f64 (ofT true n)] w fun e w' => e = .returned (.tuple #[.string ((⟨#[45]⟩ : ByteArray) ++ ⟨(sgn false ++ textL n).toArray⟩), .bool true]) ∧ Below w.heap.size w w') := fun w h => by
    have := text_thou n hn true w h
    rw [hcat] at this; exact this
  have HR : Hid (∀ w, Env w → Calls Tryz.prog 17 #[.string ⟨(sgn false ++ textL n).toArray⟩] w fun e w' => e = .returned (.tuple #[.float .f64 (thou n), .bool true]) ∧ Below w.heap.size w w') := fun w hE => by
    have := read_val ⟨(sgn false ++ textL n).toArray⟩ w hE (by rw [size_mk]; omega)
    unfold ReadEndV at this
    rw [data_mk, hv1, hv2, eF] at this
    exact this
  have hsz : (⟨(sgn false ++ textL n).toArray⟩ : ByteArray).size ≤ 1000000 := by rw [size_mk]; omega
  have HL1 := Lib.hid (fun w => less_any (thou n) (thou m) w hF hG)
  rw [ahead_thou hn hm] at HL1
  have HL2 := Lib.hid (fun w => less_any (ofT true n) (thou n) w hNF hF)
  rw [ahead_ofT hn] at HL2
  have ho : (FloatKind.f64.format.order (thou n) (thou n) == some .eq) = true := thou_isEq hn
  have HE : Hid (∀ w', Below w.heap.size w w' → EnvF w') := fun w' h => hE.below h
  have HA : Hid (∀ w', Below w.heap.size w w' → Calls Tryz.prog 16 #[] w' fun e w2 => e = .returned (.bool true) ∧ Below w'.heap.size w' w2) := fun w' h => awake11_any w' (hE.below h)
  have hlt2 : decide ((n : Int) < (m : Int)) = decide (n < m) := by apply decide_eq_decide.2; omega
  clear hv1 hv2 l1 l2 l3 hcat hF hG hNF eF eG hE
  generalize (⟨(sgn false ++ textL n).toArray⟩ : ByteArray) = S at *
  generalize thou n = F at *
  generalize thou m = G at *
  generalize ofT true n = NF at *
  obtain ⟨lt, hnm⟩ : ∃ lt, decide (n < m) = lt := ⟨_, rfl⟩
  rw [hnm] at HL1 hlt2
  go_enter Tryz.func10, Tryz.ntmps10
  go_wp2_with fail
  refine (HT1.out _ (HE.out _ (Below.refl _ _))).mono ?_
  rintro e w1 ⟨rfl, hb1⟩
  have HB1 := Lib.hid hb1
  clear hb1
  go_wp2_with fail
  refine (HT2.out _ (HE.out _ HB1.out)).mono ?_
  rintro e w2 ⟨rfl, hb2⟩
  have HB2 := Lib.hid (below_step HB1.out hb2)
  clear hb2
  go_wp2_with fail
  refine (HR.out _ (HE.out _ HB2.out).env).mono ?_
  rintro e w3 ⟨rfl, hb3⟩
  have HB3 := Lib.hid (below_step HB2.out hb3)
  clear hb3
  go_wp2_with fail
  refine (HL1.out _).mono ?_
  rintro e w' ⟨rfl, rfl⟩
  rcases Nat.eq_zero_or_pos n with h0 | h0
  · have h0i : ((n : Int) == 0) = true := by rw [beq_iff_eq]; omega
    clear h0
    cases lt
    all_goals
      go_wp2_with fail
      refine (HA.out _ HB3.out).mono ?_
      rintro e w4 ⟨rfl, hb4⟩
      have HB4 := Lib.hid (below_step HB3.out hb4)
      clear hb4
      go_wp2_with fail
      go_ret
      exact ⟨rfl, HB4.out⟩
  · have h0i : ((n : Int) == 0) = false := by rw [beq_eq_false_iff_ne]; omega
    clear h0
    cases lt
    all_goals
      go_wp2_with fail
      refine (HL2.out _).mono ?_
      rintro e w' ⟨rfl, rfl⟩
      go_wp2_with fail
      refine (HA.out _ HB3.out).mono ?_
      rintro e w4 ⟨rfl, hb4⟩
      have HB4 := Lib.hid (below_step HB3.out hb4)
      clear hb4
      go_wp2_with fail
      go_ret
      exact ⟨rfl, HB4.out⟩
end Go.Proofs.YtmhgacgneckboaaGreatDoor
