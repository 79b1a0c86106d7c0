/- Plain facts: a number of thousandths, divided by 1000, as a float. Plain facts: what the library's scaling makes of a number of thousandths. FormatFloat at each number of thousandths. Walks: metric.edge, Read, with the number that is read. -/
import Derived.Laws.FloatArith
import Derived.Laws.Externs
import Derived.Test.YtmhgacgneckboaaGreatDoorQg
import Derived.Test.YtmhgacgneckboaaGreatDoorQj
import Derived.Test.YtmhgacgneckboaaGreatDoorQf
namespace Fta
open Go Ieee
theorem infRung_d : double.infRung = 9218868437227405312 := by decide
theorem least_d : double.leastPlace = -1074 := by decide
theorem binade_d : double.binade = 4503599627370496 := by decide
theorem sign_d : double.signWeight = 9223372036854775808 := by decide
theorem frac_d : double.fractionBits = 52 := by decide
/-- Rounding to the nearest, between two to the even one, where d binary digits go. -/
def rneB (q d : Nat) : Nat := q / 2 ^ d + (if 2 ^ d < 2 * (q % 2 ^ d) ∨ (2 ^ d = 2 * (q % 2 ^ d) ∧ q / 2 ^ d % 2 = 1) then 1 else 0)
theorem cut_even (neg : Bool) (q d : Nat) (hd : d ≤ q.log2 + 2) : Toward.even.cut neg q d = rneB q d := by
  unfold Toward.cut rneB
  rw [Nat.min_eq_left hd, Nat.one_shiftLeft]
  dsimp only
  congr 1
  by_cases h : 2 ^ d < 2 * (q % 2 ^ d) ∨ (2 ^ d = 2 * (q % 2 ^ d) ∧ q / 2 ^ d % 2 = 1)
  · rw [if_pos h]
    have : (decide (2 ^ d < 2 * (q % 2 ^ d)) || 2 ^ d == 2 * (q % 2 ^ d) && q / 2 ^ d % 2 == 1) = true := by simpa using h
    rw [this]; rfl
  · rw [if_neg h]
    have : (decide (2 ^ d < 2 * (q % 2 ^ d)) || 2 ^ d == 2 * (q % 2 ^ d) && q / 2 ^ d % 2 == 1) = false := by
      rw [Bool.eq_false_iff]; intro e; exact h (by simpa using e)
    rw [this]; rfl
/-- A number of e + 1 binary digits, e at least 52, in the range of normal floats. -/
theorem nearest_norm (q e : Nat) (place : Int) (hq : q.log2 = e) (hq0 : q ≠ 0) (he : 52 ≤ e) (hp : -1022 ≤ place + e) (hr : ((place + e + 1022).toNat * 4503599627370496 + rneB q (e - 52)) ≤ 9218868437227405312) :
    double.nearest false q place = (place + e + 1022).toNat * 4503599627370496 + rneB q (e - 52) := by
  unfold Format.nearest
  rw [if_neg hq0]
  dsimp only
  rw [hq, frac_d, least_d, binade_d, infRung_d]
  have h1 : max (place + (e : Int) - (52 : Nat)) (-1074) = place + e - 52 := by omega
  rw [h1]
  have h2 : (place - (place + (e : Int) - 52)).toNat = 0 := by omega
  have h3 : (place + (e : Int) - 52 - place).toNat = e - 52 := by omega
  have h4 : (place + (e : Int) - 52 - -1074).toNat = (place + e + 1022).toNat := by omega
  rw [h2, h3, h4, Nat.shiftLeft_zero, cut_even _ _ _ (by omega)]
  unfold Format.word
  rw [if_neg (by simp), Nat.min_eq_left hr]
/-- A whole number of l + 1 binary digits, l at most 52. -/
theorem nearest_whole (n l : Nat) (hn : 2 ^ l ≤ n) (hn2 : n < 2 ^ (l + 1)) (hl : l ≤ 52) : double.nearest false n 0 = (l + 1022) * 4503599627370496 + n * 2 ^ (52 - l) := by
  have h0 : n ≠ 0 := by have := Nat.two_pow_pos l; omega
  have hlog : n.log2 = l := (Nat.log2_eq_iff h0).2 ⟨hn, hn2⟩
  unfold Format.nearest
  rw [if_neg h0]
  dsimp only
  rw [hlog, frac_d, least_d, binade_d, infRung_d]
  have h1 : max (0 + (l : Int) - (52 : Nat)) (-1074) = (l : Int) - 52 := by omega
  rw [h1]
  have h2 : (0 - ((l : Int) - 52)).toNat = 52 - l := by omega
  have h3 : ((l : Int) - 52 - 0).toNat = 0 := by omega
  have h4 : ((l : Int) - 52 - -1074).toNat = l + 1022 := by omega
  rw [h2, h3, h4, cut_even _ _ _ (by omega)]
  have h5 : rneB (n <<< (52 - l)) 0 = n * 2 ^ (52 - l) := by
    unfold rneB
    rw [Nat.shiftLeft_eq, Nat.pow_zero, Nat.div_one, Nat.mod_one, if_neg (by omega), Nat.add_zero]
  rw [h5]
  unfold Format.word
  rw [if_neg (by simp), Nat.min_eq_left]
  have h6 : n * 2 ^ (52 - l) ≤ 9007199254740992 := by
    have : n * 2 ^ (52 - l) ≤ 2 ^ (l + 1) * 2 ^ (52 - l) := Nat.mul_le_mul_right _ (by omega)
    rw [← Nat.pow_add, show l + 1 + (52 - l) = 53 by omega] at this
    exact this
  omega
theorem read_norm (E F : Nat) (hE : 1 ≤ E) (hE2 : E < 2047) (hF : F < 4503599627370496) : double.read (E * 4503599627370496 + F) = .number false (4503599627370496 + F) ((E : Int) - 1075) := by
  unfold Format.read
  dsimp only
  rw [sign_d, binade_d, infRung_d, least_d]
  have h1 : (E * 4503599627370496 + F) % 9223372036854775808 = E * 4503599627370496 + F := Nat.mod_eq_of_lt (by omega)
  have h2 : (E * 4503599627370496 + F) / 9223372036854775808 = 0 := Nat.div_eq_of_lt (by omega)
  rw [h1, h2, if_neg (by omega), if_pos (by omega)]
  have h3 : (E * 4503599627370496 + F) % 4503599627370496 = F := by omega
  have h4 : (E * 4503599627370496 + F) / 4503599627370496 = E := by omega
  rw [h3, h4]
  congr 1
  omega
theorem read_1000 : double.read 4652007308841189376 = .number false 8796093022208000 (-43) := by decide +kernel
theorem write_num (q : Nat) (p : Int) : double.write (.number false q p) = double.nearest false q p := rfl
theorem quot_num (g m n : Nat) (i j : Int) (hn : n ≠ 0) : (Datum.number false m i).quotient g (.number false n j) =
    some (.number false (2 * ((m <<< (g + n.log2 - m.log2)) / n) + ((m <<< (g + n.log2 - m.log2)) % n != 0).toNat) (i - j - ((g + n.log2 - m.log2 : Nat) : Int) - 1)) := by
  show (if n = 0 then _ else _) = _
  rw [if_neg hn]; rfl
/-- The float of n thousandths: the quotient's digits, and its rounding. -/
theorem div_thousandths (n l : Nat) (hn : 2 ^ l ≤ n) (hn2 : n < 2 ^ (l + 1)) (hl : l ≤ 52) (q e : Nat)
    (hq : 2 * (n * 2 ^ (52 - l) * 18014398509481984 / 8796093022208000) + (if n * 2 ^ (52 - l) * 18014398509481984 % 8796093022208000 = 0 then 0 else 1) = q) (he : q.log2 = e) (he2 : 52 ≤ e) (he3 : e ≤ 60) (hr : rneB q (e - 52) ≤ 9007199254740992) :
    floatBits .quo .f64 (floatOfInt .f64 n) 4652007308841189376 = some ((l + e + 958) * 4503599627370496 + rneB q (e - 52)) := by
  have hm1 : 4503599627370496 ≤ n * 2 ^ (52 - l) := by
    have : 2 ^ l * 2 ^ (52 - l) ≤ n * 2 ^ (52 - l) := Nat.mul_le_mul_right _ hn
    rw [← Nat.pow_add, show l + (52 - l) = 52 by omega] at this
    exact this
  have hm2 : n * 2 ^ (52 - l) < 9007199254740992 := by
    have : n * 2 ^ (52 - l) < 2 ^ (l + 1) * 2 ^ (52 - l) := Nat.mul_lt_mul_of_pos_right hn2 (Nat.two_pow_pos _)
    rw [← Nat.pow_add, show l + 1 + (52 - l) = 53 by omega] at this
    exact this
  have hfl : floatOfInt .f64 (n : Int) = (l + 1023) * 4503599627370496 + (n * 2 ^ (52 - l) - 4503599627370496) := by
    show double.nearest (decide ((n : Int) < 0)) (n : Int).natAbs 0 = _
    rw [decide_eq_false (by omega), Int.natAbs_natCast, nearest_whole n l hn hn2 hl]
    omega
  show double.div (floatOfInt .f64 (n : Int)) 4652007308841189376 = _
  unfold Format.div
  rw [hfl, read_norm (l + 1023) _ (by omega) (by omega) (by omega), read_1000]
  rw [show 4503599627370496 + (n * 2 ^ (52 - l) - 4503599627370496) = n * 2 ^ (52 - l) by omega]
  generalize n * 2 ^ (52 - l) = m at *
  have hlm : m.log2 = 52 := (Nat.log2_eq_iff (by omega)).2 ⟨hm1, hm2⟩
  have hln : Nat.log2 8796093022208000 = 52 := (Nat.log2_eq_iff (by decide)).2 ⟨by decide, by decide⟩
  rw [quot_num _ _ _ _ _ (by decide), hlm, hln, frac_d]
  have hsh : m <<< (52 + 2 + 52 - 52) = m * 18014398509481984 := by rw [Nat.shiftLeft_eq]
  rw [hsh]
  have hst : (m * 18014398509481984 % 8796093022208000 != 0).toNat = if m * 18014398509481984 % 8796093022208000 = 0 then 0 else 1 := by
    by_cases h : m * 18014398509481984 % 8796093022208000 = 0
    · rw [if_pos h, h]; rfl
    · rw [if_neg h, show (m * 18014398509481984 % 8796093022208000 != 0) = true by simpa using h]; rfl
  rw [hst, hq]
  have hq0 : q ≠ 0 := by
    intro h
    rw [h] at he
    have : Nat.log2 0 = 0 := by decide
    omega
  have hpl : ((l + 1023 : Nat) : Int) - 1075 - -43 - ((52 + 2 + 52 - 52 : Nat) : Int) - 1 = (l : Int) - 64 := by omega
  have hT : ((l : Int) - 64 + (e : Int) + 1022).toNat = l + e + 958 := by omega
  rw [Option.map_some, write_num, hpl, nearest_norm q e _ he hq0 he2 (by omega) (by rw [hT]; omega), hT]
end Fta

namespace Fta
open Go
theorem lor_one (a : Nat) : a ||| 1 = a + (1 - a % 2) := by
  rcases Nat.mod_two_eq_zero_or_one a with h | h
  · rw [h]
    exact nat_join 1 a 1 h (by decide)
  · rw [h]
    have e : a = (a - 1) ||| 1 := by
      rw [nat_join 1 (a - 1) 1 (by omega) (by decide)]; omega
    conv => lhs; rw [e]
    rw [Nat.or_assoc, Nat.or_self, ← e]; omega
theorem cut_cases (h s c : Nat) (hT : 4000 < 2 ^ s) (h1 : c * 2 ^ s ≤ h + 2000) (h2 : h ≤ c * 2 ^ s + 2000) :
    (h % 2 ^ s = 0 ∧ h / 2 ^ s = c) ∨ (h % 2 ^ s ≠ 0 ∧ h / 2 ^ s = c) ∨ (h % 2 ^ s ≠ 0 ∧ h / 2 ^ s + 1 = c) := by
  have hdm := Nat.div_add_mod h (2 ^ s)
  have hml := Nat.mod_lt h (show 0 < 2 ^ s by omega)
  generalize 2 ^ s = T at *
  generalize h / T = a at *
  generalize h % T = r at *
  rcases Nat.lt_trichotomy a c with g | g | g
  · have : T * (a + 1) ≤ T * c := Nat.mul_le_mul_left _ g
    rw [Nat.mul_add, Nat.mul_one, Nat.mul_comm T c] at this
    have e : a + 1 = c := by
      rcases Nat.lt_or_ge (a + 1) c with g2 | g2
      · have : T * (a + 2) ≤ T * c := Nat.mul_le_mul_left _ g2
        rw [Nat.mul_add, Nat.mul_comm T c] at this
        omega
      · omega
    right; right
    exact ⟨by omega, e⟩
  · subst g
    by_cases hr : r = 0
    · exact .inl ⟨hr, rfl⟩
    · exact .inr (.inl ⟨hr, rfl⟩)
  · have : T * (c + 1) ≤ T * a := Nat.mul_le_mul_left _ g
    rw [Nat.mul_add, Nat.mul_one, Nat.mul_comm T c] at this
    omega
/-- Three digits behind the point at once. -/
theorem round3 (h s n : Nat) (hT : 4000 < 2 ^ s) (h1 : 4 * n * 2 ^ s ≤ h + 2000) (h2 : h ≤ 4 * n * 2 ^ s + 2000) (hn : 1 ≤ n) : rndU (cutU h s) = n ∧ cutU h s ≤ 4 * n + 1 := by
  unfold rndU cutU
  rcases cut_cases h s (4 * n) hT h1 h2 with ⟨a, b⟩ | ⟨a, b⟩ | ⟨a, b⟩
  · rw [if_pos a, b]; omega
  · rw [if_neg a, b, lor_one]; omega
  · rw [if_neg a, lor_one]
    have e : h / 2 ^ s = 4 * n - 1 := by omega
    rw [e]; omega
theorem or_bits (a b c : Nat) (hb : b ≤ 1) (hc : c ≤ 1) : (a ||| b) ||| c = if b = 0 ∧ c = 0 then a else a + (1 - a % 2) := by
  rcases Nat.le_one_iff_eq_zero_or_eq_one.1 hb with rfl | rfl
  · rw [Nat.or_zero]
    rcases Nat.le_one_iff_eq_zero_or_eq_one.1 hc with rfl | rfl
    · simp
    · rw [if_neg (by simp), lor_one]
  · rw [if_neg (by simp)]
    rcases Nat.le_one_iff_eq_zero_or_eq_one.1 hc with rfl | rfl
    · rw [Nat.or_zero, lor_one]
    · rw [Nat.or_assoc, Nat.or_self, lor_one]
/-- Four digits, and one less. -/
theorem round4 (h s n : Nat) (hT : 4000 < 2 ^ s) (h1 : 40 * n * 2 ^ s ≤ h + 2000) (h2 : h ≤ 40 * n * 2 ^ s + 2000) (hn : 1 ≤ n) : rndU (divU (cutU h s)) = n ∧ cutU h s ≤ 40 * n + 1 := by
  have key : ∀ u, u = 40 * n ∨ u = 40 * n + 1 ∨ u = 40 * n - 1 → rndU (divU u) = n := fun u hu => by
    unfold rndU divU
    rw [or_bits _ _ _ (by omega) (by split <;> omega)]
    rcases hu with rfl | rfl | rfl
    · rw [if_pos (by refine ⟨by omega, by rw [if_pos (by omega)]⟩)]; omega
    · rw [if_neg (by omega)]; omega
    · rw [if_neg (by omega)]; omega
  unfold cutU
  rcases cut_cases h s (40 * n) hT h1 h2 with ⟨a, b⟩ | ⟨a, b⟩ | ⟨a, b⟩
  · rw [if_pos a, b]; exact ⟨key _ (.inl rfl), by omega⟩
  · rw [if_neg a, b, lor_one]
    have e : 40 * n + (1 - 40 * n % 2) = 40 * n + 1 := by omega
    rw [e]; exact ⟨key _ (.inr (.inl rfl)), by omega⟩
  · rw [if_neg a, lor_one]
    have e : h / 2 ^ s = 40 * n - 1 := by omega
    rw [e]
    have e2 : 40 * n - 1 + (1 - (40 * n - 1) % 2) = 40 * n - 1 := by omega
    rw [e2]; exact ⟨key _ (.inr (.inr rfl)), by omega⟩
/-- The digits of the float of n thousandths: its place, and how far it is off. -/
theorem thousand_digits (n : Nat) (hn : 1 ≤ n) (hn2 : n ≤ 999999999) : ∃ (E M : Nat), 4503599627370496 ≤ M ∧ M < 9007199254740992 ∧ floatBits .quo .f64 (floatOfInt .f64 n) 4652007308841189376 = some (E * 4503599627370496 + (M - 4503599627370496)) ∧
    1013 ≤ E ∧ E ≤ 1043 ∧ 4 * n * 2 ^ (1074 - E) ≤ 2000 * M + 2000 ∧ 2000 * M ≤ 4 * n * 2 ^ (1074 - E) + 2000 := by
  obtain ⟨l, hl⟩ : ∃ l, n.log2 = l := ⟨_, rfl⟩
  obtain ⟨h1, h2⟩ := (Nat.log2_eq_iff (by omega)).1 hl
  have hl29 : l ≤ 29 := by
    rcases Nat.lt_or_ge 29 l with h | h
    · have : 2 ^ 30 ≤ 2 ^ l := Nat.pow_le_pow_right (by decide) h
      have : (2 : Nat) ^ 30 = 1073741824 := rfl
      omega
    · exact h
  have hm1 : 4503599627370496 ≤ n * 2 ^ (52 - l) := by
    have : 2 ^ l * 2 ^ (52 - l) ≤ n * 2 ^ (52 - l) := Nat.mul_le_mul_right _ h1
    rw [← Nat.pow_add, show l + (52 - l) = 52 by omega] at this
    exact this
  have hm2 : n * 2 ^ (52 - l) < 9007199254740992 := by
    have : n * 2 ^ (52 - l) < 2 ^ (l + 1) * 2 ^ (52 - l) := Nat.mul_lt_mul_of_pos_right h2 (Nat.two_pow_pos _)
    rw [← Nat.pow_add, show l + 1 + (52 - l) = 53 by omega] at this
    exact this
  have h23 : ∃ t, 2 ^ (52 - l) = 8388608 * t := ⟨2 ^ (29 - l), by rw [show 52 - l = 23 + (29 - l) by omega, Nat.pow_add]⟩
  obtain ⟨t, ht⟩ := h23
  obtain ⟨m, hm⟩ : ∃ m, n * 2 ^ (52 - l) = m := ⟨_, rfl⟩
  have hmt : m = 8388608 * (n * t) := by rw [← hm, ht, ← Nat.mul_assoc, Nat.mul_comm n 8388608, Nat.mul_assoc]
  generalize n * t = u at hmt
  obtain ⟨q, hq⟩ : ∃ q, 2 * (m * 18014398509481984 / 8796093022208000) + (if m * 18014398509481984 % 8796093022208000 = 0 then 0 else 1) = q := ⟨_, rfl⟩
  have hD := div_thousandths n l h1 h2 (by omega) q
  rw [hm] at hD hm1 hm2
  have hqb : 2 * (m * 18014398509481984 / 8796093022208000) ≤ q ∧ q ≤ 2 * (m * 18014398509481984 / 8796093022208000) + 1 := by
    rw [← hq]; split <;> omega
  have hdm := Nat.div_add_mod (m * 18014398509481984) 8796093022208000
  have hml := Nat.mod_lt (m * 18014398509481984) (show 0 < 8796093022208000 by decide)
  have hD2 := fun e => hD e hq
  clear hD hq
  generalize m * 18014398509481984 / 8796093022208000 = a at *
  generalize m * 18014398509481984 % 8796093022208000 = r at *
  by_cases hc : m < 8796093022208000
  · have hq1 : 18014398509481984 ≤ q := by omega
    have hq2 : q + 100 < 36028797018963968 := by omega
    have hlog : q.log2 = 54 := (Nat.log2_eq_iff (by omega)).2 ⟨hq1, by omega⟩
    obtain ⟨M, hM⟩ : ∃ M, rneB q (54 - 52) = M := ⟨_, rfl⟩
    have hMq : 4 * M ≤ q + 2 ∧ q ≤ 4 * M + 2 := by
      rw [← hM]; unfold rneB
      have : (2 : Nat) ^ (54 - 52) = 4 := rfl
      rw [this]; split <;> omega
    have hD := hD2 54 hlog (by decide) (by decide)
    rw [hM] at hD
    have hnT : 4 * n * 2 ^ (1074 - (l + 1013)) = 2048 * m := by
      rw [← hm, show 1074 - (l + 1013) = 9 + (52 - l) by omega, Nat.pow_add]
      show 4 * n * (512 * 2 ^ (52 - l)) = _
      generalize 2 ^ (52 - l) = z
      rw [Nat.mul_assoc 4, ← Nat.mul_assoc n, Nat.mul_comm n 512, Nat.mul_assoc 512, ← Nat.mul_assoc 4]
    refine ⟨l + 1013, M, by omega, by omega, ?_, by omega, by omega, ?_, ?_⟩
    · rw [hD (by omega), show (l + 54 + 958) * 4503599627370496 + M = (l + 1013) * 4503599627370496 + (M - 4503599627370496) by omega]
    · rw [hnT]; omega
    · rw [hnT]; omega
  · have hq1 : 36028797018963968 ≤ q := by omega
    have hq2 : q < 72057594037927936 := by omega
    have hlog : q.log2 = 55 := (Nat.log2_eq_iff (by omega)).2 ⟨hq1, by omega⟩
    obtain ⟨M, hM⟩ : ∃ M, rneB q (55 - 52) = M := ⟨_, rfl⟩
    have hMq : 8 * M ≤ q + 4 ∧ q ≤ 8 * M + 4 := by
      rw [← hM]; unfold rneB
      have : (2 : Nat) ^ (55 - 52) = 8 := rfl
      rw [this]; split <;> omega
    have hD := hD2 55 hlog (by decide) (by decide)
    rw [hM] at hD
    have hnT : 4 * n * 2 ^ (1074 - (l + 1014)) = 1024 * m := by
      rw [← hm, show 1074 - (l + 1014) = 8 + (52 - l) by omega, Nat.pow_add]
      show 4 * n * (256 * 2 ^ (52 - l)) = _
      generalize 2 ^ (52 - l) = z
      rw [Nat.mul_assoc 4, ← Nat.mul_assoc n, Nat.mul_comm n 256, Nat.mul_assoc 256, ← Nat.mul_assoc 4]
    refine ⟨l + 1014, M, by omega, by omega, ?_, by omega, by omega, ?_, ?_⟩
    · rw [hD (by omega), show (l + 55 + 958) * 4503599627370496 + M = (l + 1014) * 4503599627370496 + (M - 4503599627370496) by omega]
    · rw [hnT]; omega
    · rw [hnT]; omega
end Fta

namespace Go.Proofs.YtmhgacgneckboaaGreatDoor
open Go Go.RowKit Fta Go.Sort

theorem good_up3 (E M n nd : Nat) (x q : Int) (neg : Bool) (w : World) (hE : EnvF w) (hx : (E : Int) + -1023 = x) (hx0 : 0 ≤ x) (hx1 : x ≤ 20) (hM1 : 4503599627370496 ≤ M) (hM2 : M < 9007199254740992) (hn : 1 ≤ n) (hn2 : n ≤ 999999999)
    (h1 : 4 * n * 2 ^ (1074 - E) ≤ 2000 * M + 2000) (h2 : 2000 * M ≤ 4 * n * 2 ^ (1074 - E) + 2000) (hnd : 1 + (1 + x) * 78913 / 262144 + 3 = (nd : Int)) (hq : x * 78913 / 262144 = q) (hp : (nd : Int) - 1 - q = 3) (hnd1 : 1 ≤ nd) (hnd2 : nd ≤ 18) (hsm : 4 * n + 1 < 10 ^ nd * 4 - 2) :
    FtoaGood ((if neg then 9223372036854775808 else 0) + (E * 4503599627370496 + (M - 4503599627370496))) n neg w := by
  intro w0 w1 v hb hD
  have hT : 4000 < 2 ^ (1074 - E) := by
    have : 2 ^ 20 ≤ 2 ^ (1074 - E) := Nat.pow_le_pow_right (by decide) (by omega)
    have : (2 : Nat) ^ 20 = 1048576 := rfl
    omega

  obtain ⟨hr, hcu⟩ := round3 (2000 * M) (1074 - E) n hT (by omega) (by omega) hn
  have hF := ftoa_up w0 w1 v neg E (M - 4503599627370496) nd n x (hE.below hb) hD hx (by omega) (by omega) (by omega) hnd1 hnd2 hnd (by omega) (fun W hW => by
    have := fixed3 ((4503599627370496 + (M - 4503599627370496)) * 2048) (2000 * M) (1074 - E) nd (x - 11 - 52) q W ((hE.below hb).below hW) (by omega) (by omega) (by omega) (by omega) (by omega)
      (by rw [show x - 11 - 52 + 63 = x by omega]; exact hq) hp hnd2 (by omega) (by omega) (by omega) (by omega)
    rw [hr] at this
    exact this)
  exact hF

theorem good_up4 (E M n nd : Nat) (x q : Int) (neg : Bool) (w : World) (hE : EnvF w) (hx : (E : Int) + -1023 = x) (hx0 : 0 ≤ x) (hx1 : x ≤ 20) (hM1 : 4503599627370496 ≤ M) (hM2 : M < 9007199254740992) (hn : 1 ≤ n) (hn2 : n ≤ 999999999)
    (h1 : 4 * n * 2 ^ (1074 - E) ≤ 2000 * M + 2000) (h2 : 2000 * M ≤ 4 * n * 2 ^ (1074 - E) + 2000) (hnd : 1 + (1 + x) * 78913 / 262144 + 3 = (nd : Int)) (hq : x * 78913 / 262144 = q) (hp : (nd : Int) - 1 - q = 4) (hnd1 : 1 ≤ nd) (hnd2 : nd ≤ 18) :
    FtoaGood ((if neg then 9223372036854775808 else 0) + (E * 4503599627370496 + (M - 4503599627370496))) n neg w := by
  intro w0 w1 v hb hD
  have hT : 4000 < 2 ^ (1070 - E) := by
    have : 2 ^ 20 ≤ 2 ^ (1070 - E) := Nat.pow_le_pow_right (by decide) (by omega)
    have : (2 : Nat) ^ 20 = 1048576 := rfl
    omega
  have hTT : 4 * n * 2 ^ (1074 - E) = 64 * n * 2 ^ (1070 - E) := by
    rw [show 1074 - E = 4 + (1070 - E) by omega, Nat.pow_add]
    show 4 * n * (16 * _) = _
    generalize 2 ^ (1070 - E) = z
    rw [show 64 * n = 4 * n * 16 by omega]; simp only [Nat.mul_assoc]
  rw [hTT] at h1 h2
  have hz : 64 * n * 2 ^ (1070 - E) = 64 * (n * 2 ^ (1070 - E)) := by rw [Nat.mul_assoc]
  have hz2 : 40 * n * 2 ^ (1070 - E) = 40 * (n * 2 ^ (1070 - E)) := by rw [Nat.mul_assoc]
  rw [hz] at h1 h2
  clear hTT
  obtain ⟨hr, hcu⟩ := round4 (1250 * M) (1070 - E) n hT (by omega) (by omega) hn
  have hF := ftoa_up w0 w1 v neg E (M - 4503599627370496) nd n x (hE.below hb) hD hx (by omega) (by omega) (by omega) hnd1 hnd2 hnd (by omega) (fun W hW => by
    have := fixed4 ((4503599627370496 + (M - 4503599627370496)) * 2048) (1250 * M) (1070 - E) nd (x - 11 - 52) q W ((hE.below hb).below hW) (by omega) (by omega) (by omega) (by omega) (by omega)
      (by rw [show x - 11 - 52 + 63 = x by omega]; exact hq) hp hnd2 (by omega) (by omega) (by omega)
    rw [hr] at this
    exact this)
  exact hF

theorem good_low4 (E M n nd : Nat) (x q : Int) (neg : Bool) (w : World) (hE : EnvF w) (hx : (E : Int) + -1023 = x) (hx0 : x < 0) (hx1 : -10 ≤ x) (hM1 : 4503599627370496 ≤ M) (hM2 : M < 9007199254740992) (hn : 1 ≤ n) (hn2 : n ≤ 999999999)
    (h1 : 4 * n * 2 ^ (1074 - E) ≤ 2000 * M + 2000) (h2 : 2000 * M ≤ 4 * n * 2 ^ (1074 - E) + 2000) (hnd : 4 - -x * 78913 / 262144 = (nd : Int)) (hq : x * 78913 / 262144 = q) (hp : (nd : Int) - 1 - q = 4) (hnd1 : 1 ≤ nd) (hnd2 : nd ≤ 18) :
    FtoaGood ((if neg then 9223372036854775808 else 0) + (E * 4503599627370496 + (M - 4503599627370496))) n neg w := by
  intro w0 w1 v hb hD
  have hT : 4000 < 2 ^ (1070 - E) := by
    have : 2 ^ 20 ≤ 2 ^ (1070 - E) := Nat.pow_le_pow_right (by decide) (by omega)
    have : (2 : Nat) ^ 20 = 1048576 := rfl
    omega
  have hTT : 4 * n * 2 ^ (1074 - E) = 64 * n * 2 ^ (1070 - E) := by
    rw [show 1074 - E = 4 + (1070 - E) by omega, Nat.pow_add]
    show 4 * n * (16 * _) = _
    generalize 2 ^ (1070 - E) = z
    rw [show 64 * n = 4 * n * 16 by omega]; simp only [Nat.mul_assoc]
  rw [hTT] at h1 h2
  have hz : 64 * n * 2 ^ (1070 - E) = 64 * (n * 2 ^ (1070 - E)) := by rw [Nat.mul_assoc]
  have hz2 : 40 * n * 2 ^ (1070 - E) = 40 * (n * 2 ^ (1070 - E)) := by rw [Nat.mul_assoc]
  rw [hz] at h1 h2
  clear hTT
  obtain ⟨hr, hcu⟩ := round4 (1250 * M) (1070 - E) n hT (by omega) (by omega) hn
  have hF := ftoa_low w0 w1 v neg E (M - 4503599627370496) nd n x (hE.below hb) hD hx (by omega) (by omega) (by omega) hnd1 hnd2 hnd (by omega) (fun W hW => by
    have := fixed4 ((4503599627370496 + (M - 4503599627370496)) * 2048) (1250 * M) (1070 - E) nd (x - 11 - 52) q W ((hE.below hb).below hW) (by omega) (by omega) (by omega) (by omega) (by omega)
      (by rw [show x - 11 - 52 + 63 = x by omega]; exact hq) hp hnd2 (by omega) (by omega) (by omega)
    rw [hr] at this
    exact this)
  exact hF

set_option maxHeartbeats 1000000 in
theorem good_thousand (n : Nat) (hn : 1 ≤ n) (hn2 : n ≤ 999999999) (w : World) (hE : EnvF w) : ∃ r, floatBits .quo .f64 (floatOfInt .f64 n) 4652007308841189376 = some r ∧ r < 9223372036854775808 ∧ ∀ neg, FtoaGood ((if neg then 9223372036854775808 else 0) + r) n neg w := by
  obtain ⟨E, M, hM1, hM2, hf, hE1, hE2, h1, h2⟩ := thousand_digits n hn hn2
  have hc : E = 1013 ∨ E = 1014 ∨ E = 1015 ∨ E = 1016 ∨ E = 1017 ∨ E = 1018 ∨ E = 1019 ∨ E = 1020 ∨ E = 1021 ∨ E = 1022 ∨ E = 1023 ∨ E = 1024 ∨ E = 1025 ∨ E = 1026 ∨ E = 1027 ∨ E = 1028 ∨ E = 1029 ∨ E = 1030 ∨ E = 1031 ∨ E = 1032 ∨ E = 1033 ∨ E = 1034 ∨ E = 1035 ∨ E = 1036 ∨ E = 1037 ∨ E = 1038 ∨ E = 1039 ∨ E = 1040 ∨ E = 1041 ∨ E = 1042 ∨ E = 1043 := by omega
  rcases hc with rfl | rfl | rfl | rfl | rfl | rfl | rfl | rfl | rfl | rfl | rfl | rfl | rfl | rfl | rfl | rfl | rfl | rfl | rfl | rfl | rfl | rfl | rfl | rfl | rfl | rfl | rfl | rfl | rfl | rfl | rfl
  · exact ⟨_, hf, by omega, fun neg => good_low4 1013 M n 1 (-10) (-4) neg w hE (by decide) (by decide) (by decide) hM1 hM2 hn hn2 h1 h2 (by decide) (by decide) (by decide) (by decide) (by decide)⟩
  · exact ⟨_, hf, by omega, fun neg => good_low4 1014 M n 2 (-9) (-3) neg w hE (by decide) (by decide) (by decide) hM1 hM2 hn hn2 h1 h2 (by decide) (by decide) (by decide) (by decide) (by decide)⟩
  · exact ⟨_, hf, by omega, fun neg => good_low4 1015 M n 2 (-8) (-3) neg w hE (by decide) (by decide) (by decide) hM1 hM2 hn hn2 h1 h2 (by decide) (by decide) (by decide) (by decide) (by decide)⟩
  · exact ⟨_, hf, by omega, fun neg => good_low4 1016 M n 2 (-7) (-3) neg w hE (by decide) (by decide) (by decide) hM1 hM2 hn hn2 h1 h2 (by decide) (by decide) (by decide) (by decide) (by decide)⟩
  · exact ⟨_, hf, by omega, fun neg => good_low4 1017 M n 3 (-6) (-2) neg w hE (by decide) (by decide) (by decide) hM1 hM2 hn hn2 h1 h2 (by decide) (by decide) (by decide) (by decide) (by decide)⟩
  · exact ⟨_, hf, by omega, fun neg => good_low4 1018 M n 3 (-5) (-2) neg w hE (by decide) (by decide) (by decide) hM1 hM2 hn hn2 h1 h2 (by decide) (by decide) (by decide) (by decide) (by decide)⟩
  · exact ⟨_, hf, by omega, fun neg => good_low4 1019 M n 3 (-4) (-2) neg w hE (by decide) (by decide) (by decide) hM1 hM2 hn hn2 h1 h2 (by decide) (by decide) (by decide) (by decide) (by decide)⟩
  · exact ⟨_, hf, by omega, fun neg => good_low4 1020 M n 4 (-3) (-1) neg w hE (by decide) (by decide) (by decide) hM1 hM2 hn hn2 h1 h2 (by decide) (by decide) (by decide) (by decide) (by decide)⟩
  · exact ⟨_, hf, by omega, fun neg => good_low4 1021 M n 4 (-2) (-1) neg w hE (by decide) (by decide) (by decide) hM1 hM2 hn hn2 h1 h2 (by decide) (by decide) (by decide) (by decide) (by decide)⟩
  · exact ⟨_, hf, by omega, fun neg => good_low4 1022 M n 4 (-1) (-1) neg w hE (by decide) (by decide) (by decide) hM1 hM2 hn hn2 h1 h2 (by decide) (by decide) (by decide) (by decide) (by decide)⟩
  · exact ⟨_, hf, by omega, fun neg => good_up3 1023 M n 4 (0) (0) neg w hE (by decide) (by decide) (by decide) hM1 hM2 hn hn2 h1 h2 (by decide) (by decide) (by decide) (by decide) (by decide) (by omega)⟩
  · exact ⟨_, hf, by omega, fun neg => good_up3 1024 M n 4 (1) (0) neg w hE (by decide) (by decide) (by decide) hM1 hM2 hn hn2 h1 h2 (by decide) (by decide) (by decide) (by decide) (by decide) (by omega)⟩
  · exact ⟨_, hf, by omega, fun neg => good_up3 1025 M n 4 (2) (0) neg w hE (by decide) (by decide) (by decide) hM1 hM2 hn hn2 h1 h2 (by decide) (by decide) (by decide) (by decide) (by decide) (by omega)⟩
  · exact ⟨_, hf, by omega, fun neg => good_up4 1026 M n 5 (3) (0) neg w hE (by decide) (by decide) (by decide) hM1 hM2 hn hn2 h1 h2 (by decide) (by decide) (by decide) (by decide) (by decide)⟩
  · exact ⟨_, hf, by omega, fun neg => good_up3 1027 M n 5 (4) (1) neg w hE (by decide) (by decide) (by decide) hM1 hM2 hn hn2 h1 h2 (by decide) (by decide) (by decide) (by decide) (by decide) (by omega)⟩
  · exact ⟨_, hf, by omega, fun neg => good_up3 1028 M n 5 (5) (1) neg w hE (by decide) (by decide) (by decide) hM1 hM2 hn hn2 h1 h2 (by decide) (by decide) (by decide) (by decide) (by decide) (by omega)⟩
  · exact ⟨_, hf, by omega, fun neg => good_up4 1029 M n 6 (6) (1) neg w hE (by decide) (by decide) (by decide) hM1 hM2 hn hn2 h1 h2 (by decide) (by decide) (by decide) (by decide) (by decide)⟩
  · exact ⟨_, hf, by omega, fun neg => good_up3 1030 M n 6 (7) (2) neg w hE (by decide) (by decide) (by decide) hM1 hM2 hn hn2 h1 h2 (by decide) (by decide) (by decide) (by decide) (by decide) (by omega)⟩
  · exact ⟨_, hf, by omega, fun neg => good_up3 1031 M n 6 (8) (2) neg w hE (by decide) (by decide) (by decide) hM1 hM2 hn hn2 h1 h2 (by decide) (by decide) (by decide) (by decide) (by decide) (by omega)⟩
  · exact ⟨_, hf, by omega, fun neg => good_up4 1032 M n 7 (9) (2) neg w hE (by decide) (by decide) (by decide) hM1 hM2 hn hn2 h1 h2 (by decide) (by decide) (by decide) (by decide) (by decide)⟩
  · exact ⟨_, hf, by omega, fun neg => good_up3 1033 M n 7 (10) (3) neg w hE (by decide) (by decide) (by decide) hM1 hM2 hn hn2 h1 h2 (by decide) (by decide) (by decide) (by decide) (by decide) (by omega)⟩
  · exact ⟨_, hf, by omega, fun neg => good_up3 1034 M n 7 (11) (3) neg w hE (by decide) (by decide) (by decide) hM1 hM2 hn hn2 h1 h2 (by decide) (by decide) (by decide) (by decide) (by decide) (by omega)⟩
  · exact ⟨_, hf, by omega, fun neg => good_up3 1035 M n 7 (12) (3) neg w hE (by decide) (by decide) (by decide) hM1 hM2 hn hn2 h1 h2 (by decide) (by decide) (by decide) (by decide) (by decide) (by omega)⟩
  · exact ⟨_, hf, by omega, fun neg => good_up4 1036 M n 8 (13) (3) neg w hE (by decide) (by decide) (by decide) hM1 hM2 hn hn2 h1 h2 (by decide) (by decide) (by decide) (by decide) (by decide)⟩
  · exact ⟨_, hf, by omega, fun neg => good_up3 1037 M n 8 (14) (4) neg w hE (by decide) (by decide) (by decide) hM1 hM2 hn hn2 h1 h2 (by decide) (by decide) (by decide) (by decide) (by decide) (by omega)⟩
  · exact ⟨_, hf, by omega, fun neg => good_up3 1038 M n 8 (15) (4) neg w hE (by decide) (by decide) (by decide) hM1 hM2 hn hn2 h1 h2 (by decide) (by decide) (by decide) (by decide) (by decide) (by omega)⟩
  · exact ⟨_, hf, by omega, fun neg => good_up4 1039 M n 9 (16) (4) neg w hE (by decide) (by decide) (by decide) hM1 hM2 hn hn2 h1 h2 (by decide) (by decide) (by decide) (by decide) (by decide)⟩
  · exact ⟨_, hf, by omega, fun neg => good_up3 1040 M n 9 (17) (5) neg w hE (by decide) (by decide) (by decide) hM1 hM2 hn hn2 h1 h2 (by decide) (by decide) (by decide) (by decide) (by decide) (by omega)⟩
  · exact ⟨_, hf, by omega, fun neg => good_up3 1041 M n 9 (18) (5) neg w hE (by decide) (by decide) (by decide) hM1 hM2 hn hn2 h1 h2 (by decide) (by decide) (by decide) (by decide) (by decide) (by omega)⟩
  · exact ⟨_, hf, by omega, fun neg => good_up4 1042 M n 10 (19) (5) neg w hE (by decide) (by decide) (by decide) hM1 hM2 hn hn2 h1 h2 (by decide) (by decide) (by decide) (by decide) (by decide)⟩
  · exact ⟨_, hf, by omega, fun neg => good_up3 1043 M n 10 (20) (6) neg w hE (by decide) (by decide) (by decide) hM1 hM2 hn hn2 h1 h2 (by decide) (by decide) (by decide) (by decide) (by decide) (by omega)⟩
end Go.Proofs.YtmhgacgneckboaaGreatDoor

namespace Mtr
open Go Go.Lib Adr Fta Ieee
/-- The float of n thousandths. -/
def thou (n : Nat) : Nat := (floatBits .quo .f64 (floatOfInt .f64 n) 4652007308841189376).getD 0
def edgeV (l : List UInt8) : Nat := if l = sNan then 9221120237041090561 else if l = sInf then 9218868437227405312 else if l = sNeg then 18442240474082181120 else 0
def readV (l : List UInt8) : Nat := if edgeOk l then edgeV l else match dec (trimPrefix l [45]) with | none => 0 | some n => (if hasPrefix l [45] then 9223372036854775808 else 0) + thou n
theorem dec_small {l : List UInt8} {n : Nat} (h : dec l = some n) : n ≤ 999999999 := by
  unfold dec at h
  split at h
  · split at h
    · rename_i hi
      have := val_small hi
      injection h with h; omega
    · cases h
  · split at h
    · rename_i hi
      rw [Bool.and_eq_true, Bool.and_eq_true] at hi
      have h1 := val_small hi.1
      have h2 := frac_small hi.2.2
      injection h with h; omega
    · cases h
theorem thou_zero : floatBits .quo .f64 (floatOfInt .f64 (0 : Nat)) 4652007308841189376 = some 0 := by
  show double.div (double.nearest (decide (((0 : Nat) : Int) < 0)) ((0 : Nat) : Int).natAbs 0) 4652007308841189376 = some 0
  have h1 : double.nearest (decide (((0 : Nat) : Int) < 0)) ((0 : Nat) : Int).natAbs 0 = 0 := by decide
  have h2 : Ieee.double.read 0 = .number false 0 (-1074) := by decide
  rw [h1]
  unfold Ieee.Format.div
  rw [h2, read_1000, quot_num _ _ _ _ _ (by decide), Option.map_some, write_num]
  simp only [Nat.zero_shiftLeft, Nat.zero_div, Nat.zero_mod]
  unfold Ieee.Format.nearest
  rw [if_pos (by decide)]
  rfl
theorem thou_run {n : Nat} (h : n ≤ 999999999) : thou n < 9223372036854775808 ∧ floatBits .quo .f64 (floatOfInt .f64 n) 4652007308841189376 = some (thou n) := by
  rcases Nat.eq_zero_or_pos n with rfl | h0
  · have e : thou 0 = 0 := by unfold thou; rw [thou_zero, Option.getD_some]
    rw [e]
    exact ⟨by decide, thou_zero⟩
  · obtain ⟨E, M, hM1, hM2, hf, hE1, hE2, -⟩ := thousand_digits n h0 h
    have e : thou n = E * 4503599627370496 + (M - 4503599627370496) := by unfold thou; rw [hf, Option.getD_some]
    rw [e]
    exact ⟨by omega, hf⟩
end Mtr
namespace Go.Proofs.YtmhgacgneckboaaGreatDoor
open Go Go.RowKit Mtr

set_option maxRecDepth 100000 in
theorem copysign_neg (x : Nat) (hx : x < 9223372036854775808) (w : World) : Calls Tryz.prog 31 #[.float .f64 x, .float .f64 13830554455654793216] w fun e w' => e = .returned (.float .f64 (9223372036854775808 + x)) ∧ w' = w := by
  have h1 := run_frombits
  have h2 := run_bits
  have e1 : bits BinOp.andNot IntKind.u64 (x : Int) 9223372036854775808 = (x : Int) := by
    have := u64_andNot_nat x 9223372036854775808 (by omega) (by decide)
    rw [show 18446744073709551615 - 9223372036854775808 = 2 ^ 63 - 1 by decide, Nat.and_two_pow_sub_one_eq_mod, Nat.mod_eq_of_lt hx] at this
    exact this
  have e2 : bits BinOp.and IntKind.u64 13830554455654793216 9223372036854775808 = 9223372036854775808 := by
    have := u64_and_nat 13830554455654793216 9223372036854775808 (by decide) (by decide)
    rw [show 13830554455654793216 &&& 9223372036854775808 = 9223372036854775808 by decide] at this
    exact this
  have e3 : bits BinOp.or IntKind.u64 (x : Int) 9223372036854775808 = ((9223372036854775808 + x : Nat) : Int) := by
    have := u64_or_nat x 9223372036854775808 (by omega) (by decide)
    rw [Nat.or_comm, nat_join 63 9223372036854775808 x (by decide) hx] at this
    exact this
  have e4 : (((9223372036854775808 + x : Nat) : Int)).toNat = 9223372036854775808 + x := Int.toNat_natCast _
  obtain ⟨z, hz⟩ : ∃ z, 9223372036854775808 + x = z := ⟨_, rfl⟩
  rw [hz] at e3 e4 ⊢
  clear hz
  go_enter Tryz.func31, Tryz.ntmps31
  go_wp2
  go_ret
  exact ⟨rfl, rfl⟩
def EdgeEndV (l : List UInt8) (w : World) (e : Ending) (w' : World) : Prop := e = .returned (.tuple #[.float .f64 (edgeV l), .bool (edgeOk l)]) ∧ w' = w
set_option maxRecDepth 100000 in
theorem edge_val (s : ByteArray) (w : World) : Calls Tryz.prog 28 #[.string s] w (EdgeEndV s.data.toList w) := by
  have HX : Hid (edgeOk s.data.toList = (decide (s.data.toList = sNan) || decide (s.data.toList = sInf) || decide (s.data.toList = sNeg))) := rfl
  have e1 := edge_eq s [110, 97, 110]
  have e2 := edge_eq s [105, 110, 102]
  have e3 := edge_eq s [45, 105, 110, 102]
  have HV : Hid (edgeV s.data.toList = if s.data.toList = sNan then 9221120237041090561 else if s.data.toList = sInf then 9218868437227405312 else if s.data.toList = sNeg then 18442240474082181120 else 0) := rfl
  have HN := Lib.hid nan_any
  have HI := Lib.hid inf_any
  by_cases h1 : s.data.toList = sNan
  · have q1 : (s.toList == [110, 97, 110]) = true := e1.trans (decide_eq_true h1)
    have q1' : s.toList = [110, 97, 110] := by simpa using q1
    have HK : Hid (edgeOk s.data.toList = true) := by show _ = _; rw [HX.out, decide_eq_true h1]; rfl
    have HW : Hid (edgeV s.data.toList = 9221120237041090561) := by show _ = _; rw [HV.out, if_pos h1]
    clear e1 e2 e3 h1 HX HV
    go_enter Tryz.func28, Tryz.ntmps28
    go_wp2_with fail
    refine (HN.out w).mono ?_
    rintro e w' ⟨rfl, rfl⟩
    go_wp2
    exact bodyPost_ret (results_tmp2 rfl _ _ _) rfl ⟨by rw [HK.out, HW.out]; rfl, rfl⟩
  · have q1 : (s.toList == [110, 97, 110]) = false := e1.trans (decide_eq_false h1)
    have q1' : ¬ s.toList = [110, 97, 110] := by simpa using q1
    by_cases h2 : s.data.toList = sInf
    · have q2 : (s.toList == [105, 110, 102]) = true := e2.trans (decide_eq_true h2)
      have q2' : s.toList = [105, 110, 102] := by simpa using q2
      have HK : Hid (edgeOk s.data.toList = true) := by show _ = _; rw [HX.out, decide_eq_true h2]; simp
      have HW : Hid (edgeV s.data.toList = 9218868437227405312) := by show _ = _; rw [HV.out, if_neg h1, if_pos h2]
      clear e1 e2 e3 h1 h2 HX HV
      go_enter Tryz.func28, Tryz.ntmps28
      go_wp2_with fail
      refine (HI.out 1 w).mono ?_
      rintro e w' ⟨rfl, rfl⟩
      go_wp2
      exact bodyPost_ret (results_tmp2 rfl _ _ _) rfl ⟨by rw [HK.out, HW.out]; rfl, rfl⟩
    · have q2 : (s.toList == [105, 110, 102]) = false := e2.trans (decide_eq_false h2)
      have q2' : ¬ s.toList = [105, 110, 102] := by simpa using q2
      by_cases h3 : s.data.toList = sNeg
      · have q3 : (s.toList == [45, 105, 110, 102]) = true := e3.trans (decide_eq_true h3)
        have q3' : s.toList = [45, 105, 110, 102] := by simpa using q3
        have HK : Hid (edgeOk s.data.toList = true) := by show _ = _; rw [HX.out, decide_eq_true h3]; simp
        have HW : Hid (edgeV s.data.toList = 18442240474082181120) := by show _ = _; rw [HV.out, if_neg h1, if_neg h2, if_pos h3]
        clear e1 e2 e3 h1 h2 h3 HX HV
        go_enter Tryz.func28, Tryz.ntmps28
        go_wp2_with fail
        refine (HI.out (-1) w).mono ?_
        rintro e w' ⟨rfl, rfl⟩
        go_wp2
        exact bodyPost_ret (results_tmp2 rfl _ _ _) rfl ⟨by rw [HK.out, HW.out]; rfl, rfl⟩
      · have q3 : (s.toList == [45, 105, 110, 102]) = false := e3.trans (decide_eq_false h3)
        have q3' : ¬ s.toList = [45, 105, 110, 102] := by simpa using q3
        have HK : Hid (edgeOk s.data.toList = false) := by show _ = _; rw [HX.out, decide_eq_false h1, decide_eq_false h2, decide_eq_false h3]; rfl
        have HW : Hid (edgeV s.data.toList = 0) := by show _ = _; rw [HV.out, if_neg h1, if_neg h2, if_neg h3]
        clear e1 e2 e3 h1 h2 h3 HX HV
        go_enter Tryz.func28, Tryz.ntmps28
        go_wp2
        exact bodyPost_ret (results_tmp2 rfl _ _ _) rfl ⟨by rw [HK.out, HW.out]; rfl, rfl⟩

def ReadEndV (l : List UInt8) (w : World) (e : Ending) (w' : World) : Prop := e = .returned (.tuple #[.float .f64 (readV l), .bool (readOk l)]) ∧ Below w.heap.size w w'
set_option maxRecDepth 100000 in
theorem read_val (s : ByteArray) (w : World) (hE : Env w) (hs : s.size ≤ 100000000) : Calls Tryz.prog 17 #[.string s] w (ReadEndV s.data.toList w) := by
  have HX : Hid (readOk s.data.toList = (edgeOk s.data.toList || (dec (Lib.trimPrefix s.data.toList [45])).isSome)) := rfl
  have HG := Lib.hid (edge_val s w)
  have HP := Lib.hid (Tryz.strings_CutPrefix s ⟨#[45]⟩ w)
  have hlen : (Lib.trimPrefix s.data.toList [45]).length ≤ 100000000 := by
    have := size_data s
    unfold Lib.trimPrefix
    split
    · rw [List.length_drop]; omega
    · omega
  have HD := Lib.hid (decimal_any ⟨(Lib.trimPrefix s.data.toList [45]).toArray⟩ w hE (by rw [size_mk]; exact hlen))
  rw [data_mk] at HD
  have HC := Lib.hid copysign_neg
  have HQ : Hid (∀ W w', Below w.heap.size w W → w' = W → Below w.heap.size w w') := fun W w' h e => by rw [e]; exact h
  have HV : Hid (readV s.data.toList = if edgeOk s.data.toList then edgeV s.data.toList else match dec (Lib.trimPrefix s.data.toList [45]) with | none => 0 | some n => (if Lib.hasPrefix s.data.toList [45] then 9223372036854775808 else 0) + thou n) := rfl
  have hRE : ∀ o, readOk s.data.toList = o → ∀ f, readV s.data.toList = f → ∀ W, Below w.heap.size w W → ReadEndV s.data.toList w (.returned (.tuple #[.float .f64 f, .bool o])) W := fun o ho f hf W hb => ⟨by rw [ho, hf], hb⟩
  have HRE := Lib.hid hRE
  clear hRE
  unfold EdgeEndV at HG
  have HP2 : Hid (Calls Tryz.prog 29 #[.string s, .string ⟨#[45]⟩] w fun e w' => e = .returned (.tuple #[.string ⟨(Lib.trimPrefix s.data.toList [45]).toArray⟩, .bool (Lib.hasPrefix s.data.toList [45])]) ∧ w' = w) := HP.out
  clear HP
  generalize Lib.trimPrefix s.data.toList [45] = t at *
  generalize Lib.hasPrefix s.data.toList [45] = sg at *
  cases heo : edgeOk s.data.toList with
  | true =>
    rw [heo] at HG HX HV
    have HK := Lib.hid (HRE.out true HX.out _ HV.out)
    clear HRE HX HV heo HD HP2
    go_enter Tryz.func17, Tryz.ntmps17
    go_wp2_with fail
    refine HG.out.mono ?_
    rintro e w' ⟨rfl, rfl⟩
    clear HG
    go_wp2
    refine bodyPost_ret (results_tmp2 rfl _ _ _) rfl ?_
    exact HK.out _ (Below.refl _ _)
  | false =>
    rw [heo, Bool.false_or] at HX
    rw [heo] at HG HV
    clear heo
    unfold decRet at HD
    cases hd : dec t with
    | none =>
      rw [hd] at HX HD HV
      have HK := Lib.hid (HRE.out false HX.out _ HV.out)
      clear HRE HX HV hd
      go_enter Tryz.func17, Tryz.ntmps17
      go_wp2_with fail
      refine HG.out.mono ?_
      rintro e w' ⟨rfl, rfl⟩
      clear HG
      go_wp2_with fail
      refine HP2.out.mono ?_
      rintro e w' ⟨rfl, rfl⟩
      clear HP2
      go_wp2_with fail
      refine HD.out.mono ?_
      rintro e w' ⟨rfl, hb⟩
      clear HD
      go_wp2
      refine bodyPost_ret (results_tmp2 rfl _ _ _) rfl ?_
      exact HK.out _ hb
    | some n =>
      rw [hd] at HX HD HV
      obtain ⟨htl, hq0⟩ := thou_run (dec_small hd)
      obtain ⟨fq, hfq⟩ : ∃ fq, thou n = fq := ⟨_, rfl⟩
      have hV2 : readV s.data.toList = (if sg then 9223372036854775808 else 0) + fq := by
        rw [HV.out, if_neg (by simp), ← hfq]
      rw [hfq] at htl hq0
      have HK := Lib.hid (HRE.out true HX.out _ hV2)
      have hq : ∀ w, (binOp .quo 22 (.float .f64 (floatOfInt .f64 (n : Int))) (.float .f64 4652007308841189376)).run Tryz.prog w = .ok (.float .f64 fq) w := fun w => run_float_arith w .quo _ .f64 _ _ _ hq0
      clear hV2 hfq hq0
      clear HRE HX HV hd
      cases sg with
      | false =>
        have HK := Lib.hid (show ∀ W, Below w.heap.size w W → ReadEndV s.data.toList w (.returned (.tuple #[.float .f64 fq, .bool true])) W from fun W h => by have := HK.out W h; simpa using this)
        go_enter Tryz.func17, Tryz.ntmps17
        go_wp2_with fail
        refine HG.out.mono ?_
        rintro e w' ⟨rfl, rfl⟩
        clear HG
        go_wp2_with fail
        refine HP2.out.mono ?_
        rintro e w' ⟨rfl, rfl⟩
        clear HP2
        go_wp2_with fail
        refine HD.out.mono ?_
        rintro e w' ⟨rfl, hb⟩
        clear HD
        go_wp2
        refine bodyPost_ret (results_tmp2 rfl _ _ _) rfl ?_
        exact HK.out _ hb
      | true =>
        have HK := Lib.hid (show ∀ W, Below w.heap.size w W → ReadEndV s.data.toList w (.returned (.tuple #[.float .f64 (9223372036854775808 + fq), .bool true])) W from fun W h => by have := HK.out W h; simpa using this)
        go_enter Tryz.func17, Tryz.ntmps17
        go_wp2_with fail
        refine HG.out.mono ?_
        rintro e w' ⟨rfl, rfl⟩
        clear HG
        go_wp2_with fail
        refine HP2.out.mono ?_
        rintro e w' ⟨rfl, rfl⟩
        clear HP2
        go_wp2_with fail
        refine HD.out.mono ?_
        rintro e w1 ⟨rfl, hb⟩
        clear HD
        go_wp2_with fail
        refine (HC.out _ htl _).mono ?_
        rintro e w2 ⟨rfl, rfl⟩
        go_wp2
        refine bodyPost_ret (results_tmp2 rfl _ _ _) rfl ?_
        exact HK.out _ hb
end Go.Proofs.YtmhgacgneckboaaGreatDoor
