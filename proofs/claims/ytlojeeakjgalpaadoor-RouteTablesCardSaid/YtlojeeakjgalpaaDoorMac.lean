/- Plain facts on hardware addresses. No program in sight. -/
import Derived.Test.YtlojeeakjgalpaaDoorLib
namespace Adr
open Go.Lib

/-- A digit of base 16, as it is written. -/
def hexd (k : Nat) : UInt8 := UInt8.ofNat (if k < 10 then 48 + k else 87 + k)
/-- The reference's value of a digit; -1: it is none. -/
def hv (c : UInt8) : Int := if 48 ≤ c.toNat ∧ c.toNat ≤ 57 then (c.toNat : Int) - 48 else if 97 ≤ c.toNat ∧ c.toNat ≤ 102 then (c.toNat : Int) - 97 + 10 else -1
def mac2 (k : Nat) : List UInt8 := [hexd (k / 16), hexd (k % 16)]
def macText (n : Nat) : List UInt8 := glue 58 [mac2 (n / 1099511627776 % 256), mac2 (n / 4294967296 % 256), mac2 (n / 16777216 % 256), mac2 (n / 65536 % 256), mac2 (n / 256 % 256), mac2 (n % 256)]
def mstep (n : Int) (w : List UInt8) : Int := match w with
  | [x, y] => if n < 0 ∨ hv x < 0 ∨ hv y < 0 then -1 else 256 * n + 16 * hv x + hv y
  | _ => -1
/-- The hardware address of a text; -1: there is none. -/
def mac (l : List UInt8) : Int := match parts 58 l with
  | [a, b, c, d, e, f] => mstep (mstep (mstep (mstep (mstep (mstep 0 a) b) c) d) e) f
  | _ => -1

theorem hexd_nat {k : Nat} (h : k < 16) : (hexd k).toNat = if k < 10 then 48 + k else 87 + k := by
  unfold hexd; split <;> simp <;> omega
theorem hv_hexd {k : Nat} (h : k < 16) : hv (hexd k) = k := by
  unfold hv
  rw [hexd_nat h]
  split
  · rw [if_pos (by omega)]; omega
  · rw [if_neg (by omega), if_pos (by omega)]; omega
theorem hexd_hv {c : UInt8} (h : 0 ≤ hv c) : hv c < 16 ∧ hexd (hv c).toNat = c := by
  unfold hv at h ⊢
  split
  · rename_i h1
    refine ⟨by omega, UInt8.toNat_inj.1 ?_⟩
    rw [hexd_nat (by omega), if_pos (by omega)]; omega
  · rename_i h1
    rw [if_neg h1] at h
    split
    · rename_i h2
      refine ⟨by omega, UInt8.toNat_inj.1 ?_⟩
      rw [hexd_nat (by omega), if_neg (by omega)]; omega
    · rename_i h2; rw [if_neg h2] at h; omega
theorem hexd_free {k : Nat} (h : k < 16) : (58 : UInt8) ≠ hexd k := by
  intro e
  have := congrArg UInt8.toNat e
  rw [hexd_nat h] at this
  simp at this
  split at this <;> omega
theorem mac2_free {k : Nat} (h : k < 256) : (58 : UInt8) ∉ mac2 k := by
  unfold mac2
  simp only [List.mem_cons, List.not_mem_nil, or_false, not_or]
  exact ⟨hexd_free (by omega), hexd_free (by omega)⟩
theorem mstep_mac2 (n k : Nat) (h : k < 256) : mstep n (mac2 k) = ((256 * n + k : Nat) : Int) := by
  unfold mac2 mstep
  simp only
  rw [hv_hexd (show k / 16 < 16 by omega), hv_hexd (show k % 16 < 16 by omega), if_neg (by omega)]
  omega
theorem macText_parts (n : Nat) : parts 58 (macText n) = [mac2 (n / 1099511627776 % 256), mac2 (n / 4294967296 % 256), mac2 (n / 16777216 % 256), mac2 (n / 65536 % 256), mac2 (n / 256 % 256), mac2 (n % 256)] := by
  have f : ∀ k, (58 : UInt8) ∉ mac2 (k % 256) := fun k => mac2_free (Nat.mod_lt _ (by decide))
  unfold macText
  rw [glue_more, glue_more, glue_more, glue_more, glue_more, glue_one, parts_append _ _ _ (f _), parts_append _ _ _ (f _), parts_append _ _ _ (f _), parts_append _ _ _ (f _), parts_append _ _ _ (f _), parts_free _ _ (f _)]
theorem mac_text (n : Nat) (h : n < 281474976710656) : mac (macText n) = n := by
  unfold mac
  rw [macText_parts]
  simp only
  rw [show (0 : Int) = ((0 : Nat) : Int) from rfl, mstep_mac2 _ _ (by omega), mstep_mac2 _ _ (by omega), mstep_mac2 _ _ (by omega), mstep_mac2 _ _ (by omega), mstep_mac2 _ _ (by omega), mstep_mac2 _ _ (by omega)]
  omega
theorem mstep_ok {n : Int} {w : List UInt8} (h : 0 ≤ mstep n w) : 0 ≤ n ∧ ∃ k : Nat, k < 256 ∧ w = mac2 k ∧ mstep n w = 256 * n + k := by
  unfold mstep at h ⊢
  split at h
  · rename_i x y
    split at h
    · omega
    · rename_i hn
      have hx := hexd_hv (c := x) (by omega)
      have hy := hexd_hv (c := y) (by omega)
      refine ⟨by omega, (16 * hv x + hv y).toNat, by omega, ?_, ?_⟩
      · unfold mac2
        rw [show (16 * hv x + hv y).toNat / 16 = (hv x).toNat by omega, show (16 * hv x + hv y).toNat % 16 = (hv y).toNat by omega, hx.2, hy.2]
      · rw [if_neg hn]; omega
  · omega
theorem mac_cases (l : List UInt8) : mac l = -1 ∨ ∃ a b c d e f, parts 58 l = [a, b, c, d, e, f] ∧ mac l = mstep (mstep (mstep (mstep (mstep (mstep 0 a) b) c) d) e) f := by
  unfold mac
  split
  · rename_i a b c d e f h; right; exact ⟨a, b, c, d, e, f, h, rfl⟩
  · left; rfl
theorem mac_fore (l : List UInt8) (h : 0 ≤ mac l) : mac l < 281474976710656 ∧ macText (mac l).toNat = l := by
  rcases mac_cases l with e | ⟨a, b, c, d, e', f, hp, e⟩
  · omega
  · rw [e] at h ⊢
    obtain ⟨h5, kf, f1, ef, gf⟩ := mstep_ok h
    obtain ⟨h4, ke, e1, ee, ge⟩ := mstep_ok h5
    obtain ⟨h3, kd, d1, ed, gd⟩ := mstep_ok h4
    obtain ⟨h2, kc, c1, ec, gc⟩ := mstep_ok h3
    obtain ⟨h1, kb, b1, eb, gb⟩ := mstep_ok h2
    obtain ⟨_, ka, a1, ea, ga⟩ := mstep_ok h1
    rw [gf, ge, gd, gc, gb, ga]
    refine ⟨by omega, ?_⟩
    unfold macText
    generalize hN : (256 * (256 * (256 * (256 * (256 * (256 * (0 : Int) + ka) + kb) + kc) + kd) + ke) + kf).toNat = N
    rw [show N / 1099511627776 % 256 = ka by omega, show N / 4294967296 % 256 = kb by omega, show N / 16777216 % 256 = kc by omega, show N / 65536 % 256 = kd by omega, show N / 256 % 256 = ke by omega, show N % 256 = kf by omega, ← ea, ← eb, ← ec, ← ed, ← ee, ← ef, ← hp]
    exact glue_parts 58 l
theorem mac_ge (l : List UInt8) : -1 ≤ mac l := by
  rcases mac_cases l with h | ⟨a, b, c, d, e, f, _, h⟩
  · omega
  · rw [h]
    generalize mstep (mstep (mstep (mstep (mstep 0 a) b) c) d) e = n
    unfold mstep
    split
    · split <;> omega
    · omega

/-! ### As the program reads it: all digits of base 16, without the colons -/
/-- The value of a digit of base 36, as strconv has it; 255: it is none. -/
def dig36 (c : UInt8) : Nat := if 48 ≤ c.toNat ∧ c.toNat ≤ 57 then c.toNat - 48 else if 97 ≤ (c ||| 32).toNat ∧ (c ||| 32).toNat ≤ 122 then (c ||| 32).toNat - 97 + 10 else 255
/-- ParseUint at base 16 and 48 bits, behind its test for the empty text: a number; 'some none': out of range; 'none': no numeral. -/
def parse16 (acc : Nat) : List UInt8 → Option (Option Nat)
  | [] => some (some acc)
  | c :: r => if 16 ≤ dig36 c then none else if 281474976710656 ≤ acc * 16 + dig36 c then some none else parse16 (acc * 16 + dig36 c) r
def parseMac (l : List UInt8) : Option (Option Nat) := if l = [] then none else parse16 0 l
/-- The hardware address, as the program says it. -/
def macP (l : List UInt8) : Int := match parseMac (replaceAll l [58] []) with
  | some (some n) => if macText n = l then (n : Int) else -1
  | _ => -1

theorem parse16_lt : ∀ (l : List UInt8) (acc u : Nat), acc < 281474976710656 → parse16 acc l = some (some u) → u < 281474976710656
  | [], acc, u, ha, h => by
    rw [parse16] at h
    injection h with h
    injection h with h
    omega
  | c :: r, acc, u, ha, h => by
    rw [parse16] at h
    by_cases h1 : 16 ≤ dig36 c
    · rw [if_pos h1] at h; cases h
    · rw [if_neg h1] at h
      by_cases h2 : 281474976710656 ≤ acc * 16 + dig36 c
      · rw [if_pos h2] at h; cases h
      · rw [if_neg h2] at h
        exact parse16_lt r _ u (by omega) h
theorem parseMac_lt {l : List UInt8} {u : Nat} (h : parseMac l = some (some u)) : u < 281474976710656 := by
  unfold parseMac at h
  split at h
  · cases h
  · exact parse16_lt l 0 u (by decide) h
theorem or32 : ∀ k : Fin 16, dig36 (hexd k.val) = k.val := by decide +kernel
theorem dig_hexd {k : Nat} (h : k < 16) : dig36 (hexd k) = k := or32 ⟨k, h⟩
theorem parse_two (acc k : Nat) (r : List UInt8) (hk : k < 256) (ha : acc * 256 + k < 281474976710656) : parse16 acc (mac2 k ++ r) = parse16 (acc * 256 + k) r := by
  unfold mac2
  rw [List.cons_append, List.cons_append, List.nil_append, parse16, dig_hexd (show k / 16 < 16 by omega), if_neg (by omega), if_neg (by omega), parse16, dig_hexd (show k % 16 < 16 by omega), if_neg (by omega), if_neg (by omega)]
  congr 1; omega
theorem mac2_filter {k : Nat} (h : k < 256) : (mac2 k).filter (· != 58) = mac2 k := filter_free 58 _ (mac2_free h)
theorem filter_glue (L : List (List UInt8)) (h : ∀ p ∈ L, (58 : UInt8) ∉ p) : (glue 58 L).filter (· != 58) = L.flatten := by
  induction L with
  | nil => rfl
  | cons a r ih =>
    cases r with
    | nil => rw [glue_one, filter_free 58 a (h a (by simp))]; simp
    | cons b r =>
      rw [glue_more, List.filter_append, filter_free 58 a (h a (by simp)), List.filter_cons_of_neg (by simp), ih (fun p hp => h p (by simp only [List.mem_cons] at hp ⊢; exact Or.inr hp))]
      simp
theorem parse_macText (n : Nat) (h : n < 281474976710656) : parseMac (replaceAll (macText n) [58] []) = some (some n) := by
  have f : ∀ k, (58 : UInt8) ∉ mac2 (k % 256) := fun k => mac2_free (Nat.mod_lt _ (by decide))
  rw [replace_filter]
  unfold macText
  rw [filter_glue _ (by
    intro p hp
    simp only [List.mem_cons, List.not_mem_nil, or_false] at hp
    rcases hp with rfl | rfl | rfl | rfl | rfl | rfl <;> exact f _)]
  simp only [List.flatten_cons, List.flatten_nil]
  unfold parseMac
  rw [if_neg (by simp [mac2]), parse_two _ _ _ (by omega) (by omega), parse_two _ _ _ (by omega) (by omega), parse_two _ _ _ (by omega) (by omega), parse_two _ _ _ (by omega) (by omega), parse_two _ _ _ (by omega) (by omega), parse_two _ _ _ (by omega) (by omega), parse16]
  congr 2; omega
theorem macP_eq (l : List UInt8) : macP l = mac l := by
  unfold macP
  by_cases h : 0 ≤ mac l
  · obtain ⟨h1, h2⟩ := mac_fore l h
    have := parse_macText (mac l).toNat (by omega)
    rw [h2] at this
    rw [this]
    simp only
    rw [if_pos h2]; omega
  · have hm : mac l = -1 := by have := mac_ge l; omega
    rw [hm]
    split
    · rename_i n hn
      by_cases e : macText n = l
      · exfalso
        have := mac_text n (parseMac_lt hn)
        rw [e] at this; omega
      · rw [if_neg e]
    · rfl
end Adr
