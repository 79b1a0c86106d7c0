/- Plain facts: how near the nearest float is. Plain facts: a float times 1000, and a half, made whole. -/
import Derived.Test.YtmhgacgneckboaaGreatDoorQs
import Derived.Test.YtmhgacgneckboaaGreatDoorQT
namespace Mtr
open Go Ieee Fta
theorem valR_norm (e k : Nat) (h1 : 4503599627370496 ≤ k) (h2 : k ≤ 9007199254740992) : valR (e * 4503599627370496 + k) = k * 2 ^ e := by
  unfold valR
  rw [if_neg (by omega)]
  by_cases h : k = 9007199254740992
  · subst h
    rw [show (e * 4503599627370496 + 9007199254740992) % 4503599627370496 = 0 by omega, show (e * 4503599627370496 + 9007199254740992) / 4503599627370496 - 1 = e + 1 by omega, Nat.pow_succ]
    generalize 2 ^ e = z
    omega
  · rw [show 4503599627370496 + (e * 4503599627370496 + k) % 4503599627370496 = k by omega, show (e * 4503599627370496 + k) / 4503599627370496 - 1 = e by omega]
theorem rneB_near (q d : Nat) : 2 * (rneB q d * 2 ^ d) ≤ 2 * q + 2 ^ d ∧ 2 * q ≤ 2 * (rneB q d * 2 ^ d) + 2 ^ d := by
  have h := Nat.div_add_mod q (2 ^ d)
  have hlt := Nat.mod_lt q (Nat.two_pow_pos d)
  rw [Nat.mul_comm] at h
  unfold rneB
  split
  · rw [Nat.add_mul, Nat.one_mul]
    generalize 2 ^ d = t at *
    generalize q / t * t = u at *
    omega
  · rename_i hn
    rw [Nat.add_zero]
    generalize 2 ^ d = t at *
    generalize q / t * t = u at *
    omega
theorem rneB_range (q d : Nat) (h1 : 2 ^ (52 + d) ≤ q) (h2 : q < 2 ^ (53 + d)) : 4503599627370496 ≤ rneB q d ∧ rneB q d ≤ 9007199254740992 := by
  have hp := Nat.two_pow_pos d
  have e1 : 4503599627370496 ≤ q / 2 ^ d := by
    rw [Nat.le_div_iff_mul_le hp]
    rw [Nat.pow_add] at h1
    exact h1
  have e2 : q / 2 ^ d < 9007199254740992 := by
    rw [Nat.div_lt_iff_lt_mul hp]
    rw [Nat.pow_add] at h2
    exact h2
  unfold rneB
  split <;> omega
/-- The nearest float of a number within the range: off by at most a 2 ^ 53rd part. -/
theorem near_val (mag : Nat) (place : Int) (h0 : mag ≠ 0) (hp : -1074 ≤ place) (hb : place + mag.log2 ≤ 900) :
    double.nearest false mag place < 9218868437227405312 ∧ 9007199254740992 * valR (double.nearest false mag place) ≤ 9007199254740993 * (mag * 2 ^ (place + 1074).toNat) ∧ 9007199254740991 * (mag * 2 ^ (place + 1074).toNat) ≤ 9007199254740992 * valR (double.nearest false mag place) := by
  obtain ⟨L, hL⟩ : ∃ L, mag.log2 = L := ⟨_, rfl⟩
  obtain ⟨hl1, hl2⟩ := (Nat.log2_eq_iff h0).1 hL
  unfold Format.nearest
  rw [if_neg h0]
  dsimp only
  rw [hL, frac_d, least_d, binade_d, infRung_d]
  rw [hL] at hb
  have hw : ∀ r, double.word false r = r := fun r => by unfold Format.word; rw [if_neg (by decide)]
  rw [hw]
  obtain ⟨s, hs⟩ : ∃ s, (place + 1074).toNat = s := ⟨_, rfl⟩
  rw [hs]
  by_cases hn : -1074 ≤ place + (L : Int) - 52
  · have e1 : max (place + (L : Int) - ((52 : Nat) : Int)) (-1074) = place + (L : Int) - 52 := by omega
    rw [e1]
    obtain ⟨e, he⟩ : ∃ e, (place + (L : Int) - 52 - -1074).toNat = e := ⟨_, rfl⟩
    rw [he]
    by_cases h52 : 52 ≤ L
    · obtain ⟨d, hd⟩ : ∃ d, L - 52 = d := ⟨_, rfl⟩
      have e2 : (place - (place + (L : Int) - 52)).toNat = 0 := by omega
      have e3 : (place + (L : Int) - 52 - place).toNat = d := by omega
      have e4 : e = d + s := by omega
      rw [e2, e3, Nat.shiftLeft_zero, cut_even _ _ _ (by omega)]
      obtain ⟨k1, k2⟩ := rneB_range mag d (by rw [show 52 + d = L by omega]; exact hl1) (by rw [show 53 + d = L + 1 by omega]; exact hl2)
      obtain ⟨n1, n2⟩ := rneB_near mag d
      generalize rneB mag d = k at *
      rw [Nat.min_eq_left (by omega), valR_norm e k k1 k2, show k * 2 ^ e = k * 2 ^ d * 2 ^ s by rw [e4, Nat.pow_add, ← Nat.mul_assoc]]
      have hl3 : 4503599627370496 * 2 ^ d ≤ mag := by rw [show L = 52 + d by omega, Nat.pow_add] at hl1; exact hl1
      have hz := Nat.two_pow_pos s
      have g1 : 9007199254740992 * (k * 2 ^ d) ≤ 9007199254740993 * mag := by
        generalize k * 2 ^ d = u at *
        generalize 2 ^ d = t at *
        omega
      have g2 : 9007199254740991 * mag ≤ 9007199254740992 * (k * 2 ^ d) := by
        generalize k * 2 ^ d = u at *
        generalize 2 ^ d = t at *
        omega
      have g3 := Nat.mul_le_mul_right (2 ^ s) g1
      have g4 := Nat.mul_le_mul_right (2 ^ s) g2
      rw [Nat.mul_assoc 9007199254740992, Nat.mul_assoc 9007199254740993] at g3
      rw [Nat.mul_assoc 9007199254740992, Nat.mul_assoc 9007199254740991] at g4
      exact ⟨by omega, g3, g4⟩
    · obtain ⟨d, hd⟩ : ∃ d, 52 - L = d := ⟨_, rfl⟩
      have e2 : (place - (place + (L : Int) - 52)).toNat = d := by omega
      have e3 : (place + (L : Int) - 52 - place).toNat = 0 := by omega
      have e4 : s = e + d := by omega
      rw [e2, e3, cut_even _ _ _ (Nat.zero_le _)]
      have e5 : rneB (mag <<< d) 0 = mag * 2 ^ d := by
        have := rneB_mul (mag * 2 ^ d) 0
        rw [Nat.pow_zero, Nat.mul_one] at this
        rw [Nat.shiftLeft_eq]; exact this
      rw [e5]
      have k1 : 4503599627370496 ≤ mag * 2 ^ d := by
        have : 2 ^ L * 2 ^ d ≤ mag * 2 ^ d := Nat.mul_le_mul_right _ hl1
        rw [← Nat.pow_add, show L + d = 52 by omega] at this
        exact this
      have k2 : mag * 2 ^ d < 9007199254740992 := by
        have : mag * 2 ^ d < 2 ^ (L + 1) * 2 ^ d := Nat.mul_lt_mul_of_pos_right hl2 (Nat.two_pow_pos _)
        rw [← Nat.pow_add, show L + 1 + d = 53 by omega] at this
        exact this
      have hX : mag * 2 ^ s = mag * 2 ^ d * 2 ^ e := by rw [e4, Nat.pow_add, Nat.mul_comm (2 ^ e), ← Nat.mul_assoc]
      rw [hX]
      generalize mag * 2 ^ d = k at *
      rw [Nat.min_eq_left (by omega), valR_norm e k k1 (by omega)]
      generalize k * 2 ^ e = u
      exact ⟨by omega, by omega, by omega⟩
  · have e1 : max (place + (L : Int) - ((52 : Nat) : Int)) (-1074) = -1074 := by omega
    rw [e1, show ((-1074 : Int) - -1074).toNat = 0 by decide, Nat.zero_mul, Nat.zero_add]
    have e2 : (place - -1074).toNat = s := by omega
    have e3 : (-1074 - place).toNat = 0 := by omega
    rw [e2, e3, cut_even _ _ _ (Nat.zero_le _)]
    have e5 : rneB (mag <<< s) 0 = mag * 2 ^ s := by
      have := rneB_mul (mag * 2 ^ s) 0
      rw [Nat.pow_zero, Nat.mul_one] at this
      rw [Nat.shiftLeft_eq]; exact this
    rw [e5]
    have k2 : mag * 2 ^ s < 4503599627370496 := by
      have h1 : mag * 2 ^ s < 2 ^ (L + 1) * 2 ^ s := Nat.mul_lt_mul_of_pos_right hl2 (Nat.two_pow_pos _)
      have h2 : 2 ^ (L + 1) * 2 ^ s ≤ 2 ^ 52 := by rw [← Nat.pow_add]; exact Nat.pow_le_pow_right (by decide) (by omega)
      have h3 : (2 : Nat) ^ 52 = 4503599627370496 := rfl
      omega
    generalize mag * 2 ^ s = k at *
    rw [Nat.min_eq_left (by omega)]
    have hv : valR k = k := by unfold valR; rw [if_pos k2]
    rw [hv]
    exact ⟨by omega, by omega, by omega⟩
end Mtr

namespace Mtr
open Go Ieee Fta
theorem read_pos {g : Nat} (hg : g < 9218868437227405312) : ∃ m i, double.read g = .number false m i ∧ -1074 ≤ i ∧ m * 2 ^ (i + 1074).toNat = valR g := by
  have h1 : rungB g = g := by unfold rungB; omega
  have h2 : negB g = false := by unfold negB; rw [show g / 9223372036854775808 % 2 = 0 by omega]; rfl
  obtain ⟨m, i, e, hi, hv⟩ := read_num g (by rw [h1]; omega)
  rw [h2] at e
  rw [h1] at hv
  exact ⟨m, i, e, hi, hv⟩
/-- The nearest float of what is less than a power of two is at most that power. -/
theorem near_pow (mag : Nat) (place : Int) (k : Int) (hk : -900 ≤ k) (h : place + mag.log2 + 1 ≤ k) : double.nearest false mag place ≤ (k + 1023).toNat * 4503599627370496 := by
  by_cases h0 : mag = 0
  · subst h0; rw [nearest_nought]; unfold Format.word; rw [if_neg (by decide)]; omega
  obtain ⟨L, hL⟩ : ∃ L, mag.log2 = L := ⟨_, rfl⟩
  obtain ⟨hl1, hl2⟩ := (Nat.log2_eq_iff h0).1 hL
  unfold Format.nearest
  rw [if_neg h0]
  dsimp only
  rw [hL, frac_d, least_d, binade_d, infRung_d]
  rw [hL] at h
  have hw : ∀ r, double.word false r = r := fun r => by unfold Format.word; rw [if_neg (by decide)]
  rw [hw]
  refine Nat.le_trans (Nat.min_le_left _ _) ?_
  by_cases hn : -1074 ≤ place + (L : Int) - 52
  · have e1 : max (place + (L : Int) - ((52 : Nat) : Int)) (-1074) = place + (L : Int) - 52 := by omega
    rw [e1]
    have hkept : Toward.even.cut false (mag <<< (place - (place + (L : Int) - 52)).toNat) (place + (L : Int) - 52 - place).toNat ≤ 9007199254740992 := by
      by_cases h52 : 52 ≤ L
      · obtain ⟨d, hd⟩ : ∃ d, L - 52 = d := ⟨_, rfl⟩
        have e2 : (place - (place + (L : Int) - 52)).toNat = 0 := by omega
        have e3 : (place + (L : Int) - 52 - place).toNat = d := by omega
        rw [e2, e3, Nat.shiftLeft_zero, cut_even _ _ _ (by omega)]
        exact (rneB_range mag d (by rw [show 52 + d = L by omega]; exact hl1) (by rw [show 53 + d = L + 1 by omega]; exact hl2)).2
      · obtain ⟨d, hd⟩ : ∃ d, 52 - L = d := ⟨_, rfl⟩
        have e2 : (place - (place + (L : Int) - 52)).toNat = d := by omega
        have e3 : (place + (L : Int) - 52 - place).toNat = 0 := by omega
        rw [e2, e3, cut_even _ _ _ (Nat.zero_le _)]
        have e5 : rneB (mag <<< d) 0 = mag * 2 ^ d := by
          have := rneB_mul (mag * 2 ^ d) 0
          rw [Nat.pow_zero, Nat.mul_one] at this
          rw [Nat.shiftLeft_eq]; exact this
        rw [e5]
        have : mag * 2 ^ d < 2 ^ (L + 1) * 2 ^ d := Nat.mul_lt_mul_of_pos_right hl2 (Nat.two_pow_pos _)
        rw [← Nat.pow_add, show L + 1 + d = 53 by omega] at this
        exact Nat.le_of_lt this
    generalize Toward.even.cut false (mag <<< (place - (place + (L : Int) - 52)).toNat) (place + (L : Int) - 52 - place).toNat = kept at *
    obtain ⟨a, ha⟩ : ∃ a, (place + (L : Int) - 52 - -1074).toNat = a := ⟨_, rfl⟩
    obtain ⟨b, hb⟩ : ∃ b, (k + 1023).toNat = b := ⟨_, rfl⟩
    rw [ha, hb]
    have : a + 2 ≤ b := by omega
    have h3 : (a + 2) * 4503599627370496 ≤ b * 4503599627370496 := Nat.mul_le_mul_right _ this
    omega
  · have e1 : max (place + (L : Int) - ((52 : Nat) : Int)) (-1074) = -1074 := by omega
    rw [e1, show ((-1074 : Int) - -1074).toNat = 0 by decide, Nat.zero_mul, Nat.zero_add]
    have hkept : Toward.even.cut false (mag <<< (place - -1074).toNat) (-1074 - place).toNat ≤ 4503599627370496 := by
      by_cases hp : -1074 ≤ place
      · obtain ⟨s, hs⟩ : ∃ s, (place - -1074).toNat = s := ⟨_, rfl⟩
        have e3 : (-1074 - place).toNat = 0 := by omega
        rw [hs, e3, cut_even _ _ _ (Nat.zero_le _)]
        have e5 : rneB (mag <<< s) 0 = mag * 2 ^ s := by
          have := rneB_mul (mag * 2 ^ s) 0
          rw [Nat.pow_zero, Nat.mul_one] at this
          rw [Nat.shiftLeft_eq]; exact this
        rw [e5]
        have h1 : mag * 2 ^ s < 2 ^ (L + 1) * 2 ^ s := Nat.mul_lt_mul_of_pos_right hl2 (Nat.two_pow_pos _)
        have h2 : 2 ^ (L + 1) * 2 ^ s ≤ 2 ^ 52 := by rw [← Nat.pow_add]; exact Nat.pow_le_pow_right (by decide) (by omega)
        have h3 : (2 : Nat) ^ 52 = 4503599627370496 := rfl
        omega
      · obtain ⟨d, hd⟩ : ∃ d, (-1074 - place).toNat = d := ⟨_, rfl⟩
        have e2 : (place - -1074).toNat = 0 := by omega
        rw [e2, hd, Nat.shiftLeft_zero]
        unfold Toward.cut
        dsimp only
        rw [hL, Nat.one_shiftLeft]
        have hgp := Nat.two_pow_pos (min d (L + 2))
        have hg : mag / 2 ^ min d (L + 2) < 4503599627370496 := by
          rw [Nat.div_lt_iff_lt_mul hgp]
          have h2 : 2 ^ (L + 1) ≤ 2 ^ 52 * 2 ^ min d (L + 2) := by rw [← Nat.pow_add]; exact Nat.pow_le_pow_right (by decide) (by omega)
          have h3 : (2 : Nat) ^ 52 = 4503599627370496 := rfl
          omega
        have hb : ∀ x : Bool, x.toNat ≤ 1 := fun x => by cases x <;> decide
        have := hb (decide (2 ^ min d (L + 2) < 2 * (mag % 2 ^ min d (L + 2))) || 2 ^ min d (L + 2) == 2 * (mag % 2 ^ min d (L + 2)) && mag / 2 ^ min d (L + 2) % 2 == 1)
        omega
    have : 1 ≤ (k + 1023).toNat := by omega
    have h3 : 1 * 4503599627370496 ≤ (k + 1023).toNat * 4503599627370496 := Nat.mul_le_mul_right _ this
    omega
theorem read_two2 {g : Nat} (hg : g < 9218868437227405312) : (g < 4503599627370496 ∧ double.read g = .number false g (-1074) ∧ valR g = g) ∨ (4503599627370496 ≤ g ∧ double.read g = .number false (4503599627370496 + g % 4503599627370496) (-1074 + ((g / 4503599627370496 - 1 : Nat) : Int)) ∧ valR g = (4503599627370496 + g % 4503599627370496) * 2 ^ (g / 4503599627370496 - 1)) := by
  have h1 : g % 9223372036854775808 = g := Nat.mod_eq_of_lt (by omega)
  have h2 : (g / 9223372036854775808 % 2 == 1) = false := by rw [show g / 9223372036854775808 % 2 = 0 by omega]; rfl
  unfold Format.read valR
  dsimp only
  rw [sign_d, binade_d, infRung_d, least_d, h1, h2]
  by_cases h : g < 4503599627370496
  · rw [if_pos h, if_pos h]; exact Or.inl ⟨h, rfl, rfl⟩
  · rw [if_neg h, if_neg h, if_pos hg]; exact Or.inr ⟨by omega, rfl, rfl⟩
theorem log_of {mag s K : Nat} (h0 : mag ≠ 0) (h : mag * 2 ^ s < 2 ^ K) : mag.log2 + s < K := by
  have h1 := Nat.log2_self_le h0
  have h2 : 2 ^ mag.log2 * 2 ^ s ≤ mag * 2 ^ s := Nat.mul_le_mul_right _ h1
  rw [← Nat.pow_add] at h2
  exact (Nat.pow_lt_pow_iff_right (by decide)).1 (Nat.lt_of_le_of_lt h2 h)
theorem pow_split {a b c : Nat} (h : a = b + c) : (2 : Nat) ^ a = 2 ^ b * 2 ^ c := by rw [h, Nat.pow_add]
theorem lit_pow {a b c k : Nat} (hk : k = 2 ^ b) (h : a = b + c) : k * 2 ^ c = 2 ^ a := by rw [hk, h, Nat.pow_add]
theorem ex_pow (a : Nat) : ∃ u : Nat, 2 ^ a = u ∧ 0 < u := ⟨_, rfl, Nat.two_pow_pos a⟩
theorem pow_lt2 (a b : Nat) (h : a < b) : (2 : Nat) ^ a < 2 ^ b := Nat.pow_lt_pow_right (by decide) h
theorem pow_le2 (a b : Nat) (h : a ≤ b) : (2 : Nat) ^ a ≤ 2 ^ b := Nat.pow_le_pow_right (by decide) h
/-- Times 1000. -/
theorem mul_thousand {g : Nat} (hg : g < 9218868437227405312) (hG : valR g ≤ 1000000 * 2 ^ 1074) : ∃ p, double.mul g 4652007308841189376 = some p ∧ p < 9218868437227405312 ∧
    ((9007199254740992 * valR p ≤ 9007199254740993 * (1000 * valR g) ∧ 9007199254740991 * (1000 * valR g) ≤ 9007199254740992 * valR p) ∨ (g < 4503599627370496000 ∧ valR p ≤ 2 ^ 1074)) := by
  obtain ⟨m, i, e, hi, hv, hm⟩ : ∃ m i, double.read g = .number false m i ∧ -1074 ≤ i ∧ m * 2 ^ (i + 1074).toNat = valR g ∧ (i < -1031 → g < 4503599627370496000 ∧ m < 9007199254740992) := by
    rcases read_two2 hg with ⟨h1, h2, h3⟩ | ⟨h1, h2, h3⟩
    · exact ⟨_, _, h2, by omega, by rw [h3, show ((-1074 : Int) + 1074).toNat = 0 by decide, Nat.pow_zero, Nat.mul_one], fun _ => ⟨by omega, by omega⟩⟩
    · exact ⟨_, _, h2, by omega, by rw [h3]; congr 2; omega, fun _ => ⟨by omega, by omega⟩⟩
  have hmul : double.mul g 4652007308841189376 = some (double.nearest false (m * 8796093022208000) (i + -43)) := by
    unfold Format.mul
    rw [e, read_1000]; rfl
  refine ⟨_, hmul, ?_⟩
  by_cases h0 : m = 0
  · subst h0
    rw [Nat.zero_mul] at hv
    rw [Nat.zero_mul, nearest_nought, ← hv]
    unfold Format.word
    rw [if_neg (by decide)]
    exact ⟨by decide, Or.inl ⟨by rw [valR_zero]; omega, by rw [valR_zero]; omega⟩⟩
  have hmag : m * 8796093022208000 ≠ 0 := by omega
  by_cases hp : -1074 ≤ i + -43
  · obtain ⟨s, hs⟩ : ∃ s, (i + -43 + 1074).toNat = s := ⟨_, rfl⟩
    have hX : m * 8796093022208000 * 2 ^ s = 1000 * valR g := by
      have h43 : (2 : Nat) ^ 43 = 8796093022208 := by decide
      rw [← hv, show (i + 1074).toNat = 43 + s by omega, Nat.pow_add, h43]
      generalize 2 ^ s = z
      rw [Nat.mul_assoc, Nat.mul_left_comm 1000 m, ← Nat.mul_assoc 1000]
    have h1104 : (2 : Nat) ^ 1104 = 2 ^ 30 * 2 ^ 1074 := pow_split (a := 1104) (b := 30) (c := 1074) (by decide)
    have hlt : m * 8796093022208000 * 2 ^ s < 2 ^ 1104 := by
      rw [hX]
      refine Nat.lt_of_lt_of_eq ?_ h1104.symm
      rw [show (2 : Nat) ^ 30 = 1073741824 by decide]
      clear h1104
      generalize (2 : Nat) ^ 1074 = U at *
      have hU : 0 < U ∨ U = 0 := by omega
      rcases hU with hU | hU
      · omega
      · exfalso
        rw [hU] at hG
        have := valR_pos (r := g)
        have h3 : valR g = 0 := by omega
        rw [h3] at hv
        have := Nat.mul_ne_zero h0 (Nat.ne_of_gt (Nat.two_pow_pos (i + 1074).toNat))
        exact this hv
    have hlog := log_of hmag hlt
    obtain ⟨g1, g2, g3⟩ := near_val (m * 8796093022208000) (i + -43) hmag hp (by omega)
    rw [hs, hX] at g2 g3
    exact ⟨g1, Or.inl ⟨g2, g3⟩⟩
  · obtain ⟨k1, k2⟩ := hm (by omega)
    have hlt : m * 8796093022208000 * 2 ^ 0 < 2 ^ 106 := by
      have : (2 : Nat) ^ 106 = 81129638414606681695789005144064 := by decide
      rw [this, Nat.pow_zero]; omega
    have hlog := log_of hmag hlt
    have hn := near_pow (m * 8796093022208000) (i + -43) (-900) (by omega) (by omega)
    have e3 : ((-900 : Int) + 1023).toNat = 123 := by decide
    rw [e3] at hn
    refine ⟨by omega, Or.inr ⟨k1, ?_⟩⟩
    have h1 : valR (double.nearest false (m * 8796093022208000) (i + -43)) ≤ valR (122 * 4503599627370496 + 4503599627370496) := by
      rcases Nat.lt_or_ge (double.nearest false (m * 8796093022208000) (i + -43)) (122 * 4503599627370496 + 4503599627370496) with h | h
      · exact Nat.le_of_lt (valR_lt h)
      · rw [show double.nearest false (m * 8796093022208000) (i + -43) = 122 * 4503599627370496 + 4503599627370496 by omega]; exact Nat.le_refl _
    rw [valR_norm 122 _ (Nat.le_refl _) (by decide)] at h1
    refine Nat.le_trans h1 ?_
    have h9 : 174 ≤ 1074 := by decide
    have h8 : (4503599627370496 : Nat) * 2 ^ 122 = 2 ^ 174 := lit_pow (a := 174) (b := 52) (c := 122) (k := 4503599627370496) (by decide) (by decide)
    have h7 := pow_le2 174 1074 h9
    rw [h8]
    exact h7
theorem read_half : double.read 4602678819172646912 = .number false 4503599627370496 (-53) := by decide +kernel
/-- And a half. -/
theorem add_half {p : Nat} (hp : p < 9218868437227405312) (hP : valR p ≤ 2 ^ 1200) : ∃ r, double.add p 4602678819172646912 = some r ∧ r < 9218868437227405312 ∧ 9007199254740992 * valR r ≤ 9007199254740993 * (valR p + 2 ^ 1073) ∧ 9007199254740991 * (valR p + 2 ^ 1073) ≤ 9007199254740992 * valR r := by
  obtain ⟨m, i, e, hi, hv⟩ := read_pos hp
  obtain ⟨b, hb⟩ : ∃ b, min i (-53) = b := ⟨_, rfl⟩
  have hb1 : -1074 ≤ b ∧ b ≤ i ∧ b ≤ -53 := by omega
  obtain ⟨T, hT⟩ : ∃ T : Nat, m * 2 ^ (i - b).toNat + 4503599627370496 * 2 ^ (-53 - b).toNat = T := ⟨_, rfl⟩
  have hT0 : T ≠ 0 := by
    have := Nat.two_pow_pos (-53 - b).toNat
    omega
  have hsum : Datum.sum (.number false m i) (.number false 4503599627370496 (-53)) = some (.number false T b) := by
    show some (Datum.number (if signed false m (i - min i (-53)).toNat + signed false 4503599627370496 (-53 - min i (-53)).toNat = 0 then false && false else decide (signed false m (i - min i (-53)).toNat + signed false 4503599627370496 (-53 - min i (-53)).toNat < 0)) (signed false m (i - min i (-53)).toNat + signed false 4503599627370496 (-53 - min i (-53)).toNat).natAbs (min i (-53))) = _
    have hsg : signed false m (i - min i (-53)).toNat + signed false 4503599627370496 (-53 - min i (-53)).toNat = (T : Int) := by
      unfold signed
      rw [if_neg (by decide), if_neg (by decide), hb, Nat.shiftLeft_eq, Nat.shiftLeft_eq, ← hT]; simp
    rw [hsg, hb, if_neg (by omega), decide_eq_false (by omega), Int.natAbs_natCast]
  have hadd : double.add p 4602678819172646912 = some (double.nearest false T b) := by
    unfold Format.add
    rw [e, read_half, hsum]; rfl
  obtain ⟨s, hs⟩ : ∃ s, (b + 1074).toNat = s := ⟨_, rfl⟩
  have hX : T * 2 ^ s = valR p + 2 ^ 1073 := by
    rw [← hT, Nat.add_mul, Nat.mul_assoc, Nat.mul_assoc, ← Nat.pow_add, ← Nat.pow_add, show (i - b).toNat + s = (i + 1074).toNat by omega, hv, show (-53 - b).toNat + s = 1021 by omega]
    have h73 := lit_pow (a := 1073) (b := 52) (c := 1021) (k := 4503599627370496) (by decide) (by decide)
    rw [h73]
  have hlt : T * 2 ^ s < 2 ^ 1201 := by
    have h3 := pow_lt2 1073 1200 (by decide)
    have h4 := pow_split (a := 1201) (b := 1200) (c := 1) (by decide)
    rw [hX]
    generalize (2 : Nat) ^ 1073 = x1 at *
    generalize (2 : Nat) ^ 1200 = x2 at *
    generalize (2 : Nat) ^ 1201 = x3 at *
    omega
  have hlog := log_of hT0 hlt
  obtain ⟨g1, g2, g3⟩ := near_val T b hT0 hb1.1 (by omega)
  rw [hs, hX] at g2 g3
  exact ⟨_, hadd, g1, g2, g3⟩
/-- Made whole. -/
theorem whole_of {r : Nat} (hr : r < 9218868437227405312) (h : valR r / 2 ^ 1074 ≤ 9223372036854775807) : floatToIntVal .f64 r .i64 = some ((valR r / 2 ^ 1074 : Nat) : Int) := by
  obtain ⟨m, i, e, hi, hv⟩ := read_pos hr
  have ht : (FloatKind.f64.decode r).toInt .zero = some ((valR r / 2 ^ 1074 : Nat) : Int) := by
    have e2 : FloatKind.f64.decode r = .number false m i := e
    rw [e2]
    show some (signed false (Toward.zero.cut false (m <<< i.toNat) (-i).toNat) 0) = _
    congr 1
    unfold signed
    rw [if_neg (by decide), Nat.shiftLeft_zero]
    congr 1
    rw [← hv, Nat.shiftLeft_eq]
    unfold Toward.cut
    dsimp only
    rw [Nat.one_shiftLeft]
    show _ / _ + 0 = _
    rw [Nat.add_zero]
    by_cases h0 : 0 ≤ i
    · have e3 : (-i).toNat = 0 := by omega
      rw [e3, Nat.zero_min, Nat.pow_zero, Nat.div_one, show (i + 1074).toNat = i.toNat + 1074 by omega, Nat.pow_add, ← Nat.mul_assoc, Nat.mul_div_cancel _ (Nat.two_pow_pos 1074)]
    · have e3 : i.toNat = 0 := by omega
      obtain ⟨d, hd⟩ : ∃ d, (-i).toNat = d := ⟨_, rfl⟩
      rw [e3, Nat.pow_zero, Nat.mul_one, hd]
      have hdd : (i + 1074).toNat + d = 1074 := by omega
      have hr2 : m * 2 ^ (i + 1074).toNat / 2 ^ 1074 = m / 2 ^ d := by
        rw [← hdd, Nat.pow_add, Nat.mul_comm m, Nat.mul_div_mul_left _ _ (Nat.two_pow_pos _)]
      rw [hr2]
      rcases Nat.le_total d (m.log2 + 2) with h1 | h1
      · rw [Nat.min_eq_left h1]
      · rw [Nat.min_eq_right h1]
        have hm : m < 2 ^ (m.log2 + 2) := by
          by_cases hm0 : m = 0
          · subst hm0; exact Nat.two_pow_pos _
          · have := ((Nat.log2_eq_iff hm0).1 rfl).2
            exact Nat.lt_trans this (Nat.pow_lt_pow_right (by decide) (by omega))
        rw [Nat.div_eq_of_lt hm, Nat.div_eq_of_lt (Nat.lt_of_lt_of_le hm (Nat.pow_le_pow_right (by decide) h1))]
  unfold floatToIntVal
  rw [ht]
  dsimp only
  rw [if_pos]
  have e1 : IntKind.min .i64 = -9223372036854775808 := by decide
  have e2 : IntKind.max .i64 = 9223372036854775807 := by decide
  rw [e1, e2]
  omega
/-- What the reference makes of a metric: its thousandths, wherever it is a number of them. -/
theorem ref_whole {g : Nat} (hg : g ≤ 4696837146684686336) : ∃ p r : Nat, double.mul g 4652007308841189376 = some p ∧ double.add p 4602678819172646912 = some r ∧
    ∃ n : Nat, n ≤ 9223372036854775807 ∧ floatToIntVal .f64 r .i64 = some (n : Int) ∧ ∀ m, m ≤ 999999999 → g = thou m → n = m := by
  have hgm : valR g ≤ 1000000 * 2 ^ 1074 := by
    have h1 : valR 4696837146684686336 = 8589934592000000 * 2 ^ 1041 := by
      have e : 4696837146684686336 = 1041 * 4503599627370496 + 8589934592000000 - 4503599627370496 + 4503599627370496 := by decide
      have := valR_norm 1041 8589934592000000 (by decide) (by decide)
      rw [show 1041 * 4503599627370496 + 8589934592000000 = 4696837146684686336 by decide] at this
      exact this
    have h2 : valR g ≤ valR 4696837146684686336 := by
      rcases Nat.lt_or_ge g 4696837146684686336 with h | h
      · exact Nat.le_of_lt (valR_lt h)
      · rw [show g = 4696837146684686336 by omega]; exact Nat.le_refl _
    have h3 := pow_split (a := 1074) (b := 33) (c := 1041) (by decide)
    rw [h1] at h2
    rw [h3]
    generalize (2 : Nat) ^ 1041 = z at *
    have h4 : (2 : Nat) ^ 33 = 8589934592 := by decide
    rw [h4]
    omega
  obtain ⟨p, hp1, hp2, hp3⟩ := mul_thousand (by omega) hgm
  obtain ⟨u, hu, hu0⟩ := ex_pow 1042
  have hU : (2 : Nat) ^ 1074 = 4294967296 * u := by
    have h3 := pow_split (a := 1074) (b := 32) (c := 1042) (by decide)
    rw [hu] at h3
    exact h3
  have hH : (2 : Nat) ^ 1073 = 2147483648 * u := by
    have h3 := pow_split (a := 1073) (b := 31) (c := 1042) (by decide)
    rw [hu] at h3
    exact h3
  have hK : (2 : Nat) ^ 1104 = 4611686018427387904 * u := by
    have h3 := pow_split (a := 1104) (b := 62) (c := 1042) (by decide)
    rw [hu] at h3
    exact h3
  rw [hU] at hgm hp3
  have hP : valR p ≤ 4611686018427387904 * u := by
    rcases hp3 with ⟨h1, -⟩ | ⟨-, h1⟩ <;> omega
  have hP2 : valR p ≤ 2 ^ 1200 := by
    refine Nat.le_trans (Nat.le_trans hP (Nat.le_of_eq hK.symm)) (pow_le2 1104 1200 (by decide))
  obtain ⟨r, hr1, hr2, hr3, hr4⟩ := add_half hp2 hP2
  rw [hH] at hr3 hr4
  refine ⟨p, r, hp1, hr1, valR r / 2 ^ 1074, ?_, ?_, ?_⟩
  · rw [hU]
    refine Nat.le_of_lt_succ ((Nat.div_lt_iff_lt_mul (by omega)).2 ?_)
    omega
  · refine whole_of hr2 ?_
    rw [hU]
    refine Nat.le_of_lt_succ ((Nat.div_lt_iff_lt_mul (by omega)).2 ?_)
    omega
  · intro m hm hgt
    have key : 4294967296 * (m * u) ≤ valR r ∧ valR r < 4294967296 * (m * u) + 4294967296 * u := by
      rcases Nat.eq_zero_or_pos m with rfl | h0
      · rw [thou_null] at hgt
        subst hgt
        rw [valR_zero] at hp3
        rw [Nat.zero_mul]
        have hp0 : valR p ≤ 4294967296 * u := by
          rcases hp3 with ⟨h1, -⟩ | ⟨-, h1⟩ <;> omega
        have : double.mul 0 4652007308841189376 = some 0 := by decide +kernel
        rw [this] at hp1
        injection hp1 with hp1
        subst hp1
        rw [valR_zero] at hr3 hr4
        omega
      · obtain ⟨E, M, a1, a2, a3, a4, a5, a6, a7⟩ := thousand_digits m h0 hm
        have e2 : thou m = E * 4503599627370496 + (M - 4503599627370496) := by unfold thou; rw [a3, Option.getD_some]
        have hv : valR g = M * 2 ^ (E - 1) := by
          rw [hgt, e2, show E * 4503599627370496 + (M - 4503599627370496) = (E - 1) * 4503599627370496 + M by omega]
          exact valR_norm _ _ a1 (by omega)
        obtain ⟨v, hv2⟩ : ∃ v : Nat, 2 ^ (E - 1) = v := ⟨_, rfl⟩
        have hvu : v ≤ u := by
          rw [← hv2, ← hu]; exact pow_le2 (E - 1) 1042 (by omega)
        have hw : 2 ^ (1074 - E) * v = 2 ^ 1073 := by
          rw [← hv2]; exact (pow_split (a := 1073) (b := 1074 - E) (c := E - 1) (by omega)).symm
        rw [hH] at hw
        rw [hv2] at hv
        have b6 := Nat.mul_le_mul_right v a6
        have b7 := Nat.mul_le_mul_right v a7
        have c1 : 4 * m * 2 ^ (1074 - E) * v = 8589934592 * (m * u) := by
          rw [Nat.mul_assoc, hw]
          rw [Nat.mul_assoc, ← Nat.mul_assoc m, Nat.mul_comm m, Nat.mul_assoc, ← Nat.mul_assoc 4]
        rw [c1, Nat.add_mul, Nat.mul_assoc 2000 M, ← hv] at b6
        rw [Nat.add_mul, c1, Nat.mul_assoc 2000 M, ← hv] at b7
        have ht : m * u ≤ 999999999 * u := Nat.mul_le_mul_right _ hm
        have hng : ¬ (g < 4503599627370496000) := by rw [hgt, e2]; omega
        rcases hp3 with ⟨h1, h2⟩ | ⟨h1, -⟩
        · generalize m * u = t at *
          generalize valR g = G at *
          generalize valR p = P at *
          generalize valR r = R at *
          omega
        · exact absurd h1 hng
    rw [hU]
    refine Nat.div_eq_of_lt_le ?_ ?_
    · rw [Nat.mul_left_comm]; exact key.1
    · rw [Nat.add_mul, Nat.one_mul, Nat.mul_left_comm]; exact key.2
end Mtr
