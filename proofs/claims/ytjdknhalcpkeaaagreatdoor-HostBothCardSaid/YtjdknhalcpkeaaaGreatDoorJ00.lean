/- Plain facts on decimal numerals: what strconv.Atoi and strconv.Itoa, held together, take for a number's text. No program in sight. Plain facts on texts of parts: an address' four numbers, a prefix' two words. No program in sight. Plain facts on addresses in prefixes. No program in sight. Plain facts on the bits of numbers from 0 on, as the walk spells them. Plain facts: what the library's Split, Cut, ReplaceAll and Join are at one byte. No program in sight. -/
import Derived.Lib.AtoiAll
import Derived.Lib.ItoaNum
import Derived.Laws.BitsAllLaws
import Derived.WalkKit
import Derived.Lib.ReplaceLaws
import Derived.Lib.Join
namespace Adr
open Go.Lib
def isDig (c : UInt8) : Bool := decide (48 ≤ c.toNat) && decide (c.toNat ≤ 57)
def valFrom (a : Nat) (l : List UInt8) : Nat := l.foldl (fun a c => 10 * a + (c.toNat - 48)) a
theorem valFrom_nil (a : Nat) : valFrom a [] = a := rfl
theorem valFrom_cons (a : Nat) (c : UInt8) (r : List UInt8) : valFrom a (c :: r) = valFrom (10 * a + (c.toNat - 48)) r := by unfold valFrom; rw [List.foldl_cons]
def val (l : List UInt8) : Nat := valFrom 0 l
def canon : List UInt8 → Bool
 | [] => false
 | c :: r => decide (r.length < 10) && !(c == 48 && !r.isEmpty) && (c :: r).all isDig
def num (l : List UInt8) : Int := if canon l then (val l : Int) else -1
theorem valFrom_append (a : Nat) (l m : List UInt8) : valFrom a (l ++ m) = valFrom (valFrom a l) m := by
 unfold valFrom; rw [List.foldl_append]
theorem isDig_iff (c : UInt8) : isDig c = true ↔ 48 ≤ c.toNat ∧ c.toNat ≤ 57 := by simp [isDig]
theorem valFrom_lt (l : List UInt8) (a : Nat) (h : l.all isDig = true) : valFrom a l < (a + 1) * 10 ^ l.length := by
 induction l generalizing a with
 | nil => simp [valFrom_nil]
 | cons c r ih =>
   simp only [List.all_cons, Bool.and_eq_true] at h
   have hc := (isDig_iff c).1 h.1
   have := ih (10 * a + (c.toNat - 48)) h.2
   simp only [valFrom_cons, List.length_cons, Nat.pow_succ]
   have h2 : (10 * a + (c.toNat - 48) + 1) * 10 ^ r.length ≤ (10 * (a + 1)) * 10 ^ r.length := Nat.mul_le_mul_right _ (by omega)
   have h3 : (10 * (a + 1)) * 10 ^ r.length = (a + 1) * (10 ^ r.length * 10) := by
    rw [Nat.mul_comm 10 (a + 1), Nat.mul_assoc, Nat.mul_comm 10]
   omega
theorem val_lt (l : List UInt8) (h : l.all isDig = true) : val l < 10 ^ l.length := by
 have := valFrom_lt l 0 h
 simpa [val] using this
theorem parse_digits (l : List UInt8) (a : Nat) (h : l.all isDig = true) (hb : (a + 1) * 10 ^ l.length ≤ 10000000000) : parseUint10 a l = .ok (valFrom a l) := by
 induction l generalizing a with
 | nil => rfl
 | cons c r ih =>
   simp only [List.all_cons, Bool.and_eq_true] at h
   have hc := (isDig_iff c).1 h.1
   have hp : 1 ≤ 10 ^ r.length := Nat.one_le_pow _ _ (by decide)
   simp only [List.length_cons, Nat.pow_succ] at hb
   have e3 : (a + 1) * (10 ^ r.length * 10) = (10 * (a + 1)) * 10 ^ r.length := by
    rw [Nat.mul_comm 10 (a + 1), Nat.mul_assoc, Nat.mul_comm 10]
   have e4 : 10 * (a + 1) ≤ (10 * (a + 1)) * 10 ^ r.length := Nat.le_mul_of_pos_right _ hp
   have e5 : (10 * a + (c.toNat - 48) + 1) * 10 ^ r.length ≤ (10 * (a + 1)) * 10 ^ r.length := Nat.mul_le_mul_right _ (by omega)
   rw [parseUint10, if_pos hc, if_neg (by omega), if_neg (by omega), Nat.mul_comm a 10]
   exact ih _ h.2 (by omega)
theorem dig_ofNat {u : Nat} (h : u < 10) : (UInt8.ofNat (48 + u)).toNat = 48 + u := by simp; omega
theorem dec_digits (n : Nat) : (decDigits n).all isDig = true := by
 induction n using Nat.strongRecOn with
 | _ n ih =>
   rw [decDigits]
   split
   · rename_i h
     simp only [List.all_cons, List.all_nil, Bool.and_true, isDig_iff]
     have := dig_ofNat h; omega
   · rename_i h
     rw [List.all_append, ih (n / 10) (by omega)]
     simp only [List.all_cons, List.all_nil, Bool.and_true, Bool.true_and, isDig_iff]
     have := dig_ofNat (show n % 10 < 10 by omega); omega
theorem val_dec (n : Nat) : val (decDigits n) = n := by
 induction n using Nat.strongRecOn with
 | _ n ih =>
   rw [decDigits]
   split
   · rename_i h
     have := dig_ofNat h
     simp only [val, valFrom_cons, valFrom_nil]; omega
   · rename_i h
     have e := ih (n / 10) (by omega)
     have := dig_ofNat (show n % 10 < 10 by omega)
     unfold val at e ⊢
     rw [valFrom_append, e]
     simp only [valFrom_cons, valFrom_nil]; omega
theorem dec_ne (n : Nat) : decDigits n ≠ [] := by
 rw [decDigits]; split <;> simp
theorem dec_head (n : Nat) (hn : n ≠ 0) : ∀ c, (decDigits n).head? = some c → c ≠ 48 := by
 induction n using Nat.strongRecOn with
 | _ n ih =>
   intro c hc e
   rw [decDigits] at hc
   split at hc
   · rename_i h
     have h1 := dig_ofNat h
     simp only [List.head?_cons, Option.some.injEq] at hc
     subst e
     rw [hc] at h1
     simp at h1; omega
   · rename_i h
     have hne := dec_ne (n / 10)
     cases hd : decDigits (n / 10) with
     | nil => exact hne hd
     | cons d r =>
       rw [hd] at hc
       simp only [List.cons_append, List.head?_cons, Option.some.injEq] at hc
       exact ih (n / 10) (by omega) (by omega) d (by rw [hd]; rfl) (hc.trans e)
theorem dec_val (l : List UInt8) (hne : l ≠ []) (hd : l.all isDig = true) (h0 : ∀ c, l.head? = some c → c = 48 → l.length = 1) : decDigits (val l) = l := by
 suffices h : ∀ (k : Nat) (l : List UInt8), l.length = k → l ≠ [] → l.all isDig = true → (∀ c, l.head? = some c → c = 48 → l.length = 1) → decDigits (val l) = l from h _ l rfl hne hd h0
 intro k
 induction k using Nat.strongRecOn with
 | _ k ih =>
   intro l hk hne hd h0
   obtain ⟨m, c, rfl⟩ : ∃ m c, l = m ++ [c] := ⟨l.dropLast, l.getLast hne, (List.dropLast_concat_getLast hne).symm⟩
   rw [List.all_append, Bool.and_eq_true] at hd
   obtain ⟨hm, hc⟩ := hd
   simp only [List.all_cons, List.all_nil, Bool.and_true, isDig_iff] at hc
   have ev : val (m ++ [c]) = 10 * val m + (c.toNat - 48) := by simp only [val, valFrom_append, valFrom_cons, valFrom_nil]
   by_cases hmn : m = []
   · subst hmn
     rw [ev]
     simp only [val, valFrom_nil, List.nil_append]
     rw [decDigits, dif_pos (by omega)]
     congr 1
     apply UInt8.toNat_inj.1
     rw [dig_ofNat (by omega)]; omega
   · have em : decDigits (val m) = m := ih m.length (by rw [← hk]; simp) m rfl hmn hm (by
      intro d hdh he
      have := h0 d (by rw [List.head?_append, hdh]; rfl) he
      simp at this
      exact absurd this hmn)
     have hpos : 1 ≤ val m := by
      rcases Nat.eq_zero_or_pos (val m) with hz | hz
      · exfalso
        rw [hz, decDigits, dif_pos (by omega)] at em
        have := h0 48 (by rw [← em]; rfl) rfl
        rw [← em] at this
        simp at this
      · exact hz
     rw [ev, decDigits, dif_neg (by omega), show (10 * val m + (c.toNat - 48)) / 10 = val m by omega, em]
     congr 2
     apply UInt8.toNat_inj.1
     rw [dig_ofNat (by omega)]; omega
theorem canon_iff (l : List UInt8) : canon l = true ↔ l ≠ [] ∧ l.length ≤ 10 ∧ l.all isDig = true ∧ ∀ c, l.head? = some c → c = 48 → l.length = 1 := by
 cases l with
 | nil => simp [canon]
 | cons c r =>
   simp only [canon, Bool.and_eq_true, decide_eq_true_eq, Bool.not_eq_true', Bool.and_eq_false_iff, List.length_cons, List.head?_cons, Option.some.injEq]
   constructor
   · rintro ⟨⟨h1, h2⟩, h3⟩
     refine ⟨by simp, by omega, h3, ?_⟩
     rintro d rfl rfl
     rcases h2 with h2 | h2
     · simp at h2
     · cases r with
       | nil => rfl
       | cons a b => simp at h2
   · rintro ⟨_, h1, h3, h2⟩
     refine ⟨⟨by omega, ?_⟩, h3⟩
     by_cases hc : c = 48
     · right
       have := h2 c rfl hc
       have hr : r = [] := List.length_eq_zero_iff.1 (by omega)
       subst hr; rfl
     · left; simp [hc]
theorem atoi_canon (l : List UInt8) (h : canon l = true) : atoiAll l = .ok (val l) := by
 obtain ⟨hne, hlen, hd, _⟩ := (canon_iff l).1 h
 cases l with
 | nil => exact absurd rfl hne
 | cons c r =>
   have hc := (isDig_iff c).1 (by simp only [List.all_cons, Bool.and_eq_true] at hd; exact hd.1)
   have hp : 10 ^ (c :: r).length ≤ 10 ^ 10 := Nat.pow_le_pow_right (by decide) hlen
   have hv := val_lt (c :: r) hd
   have e : parseUint10 0 (c :: r) = .ok (val (c :: r)) := parse_digits (c :: r) 0 hd (by simpa using hp)
   unfold atoiAll
   simp only
   rw [if_neg (by omega)]
   unfold parseMag
   rw [if_neg (by simp), e]
   simp only
   rw [if_neg (by omega), if_neg (by omega), if_neg (by omega)]
theorem canon_of_itoa (l : List UInt8) (n : Int) (h0 : 0 ≤ n) (hlen : l.length ≤ 10) (h : itoa n = l) : canon l = true ∧ n = val l := by
 unfold itoa at h
 rw [if_neg (by omega)] at h
 subst h
 refine ⟨?_, by rw [val_dec]; omega⟩
 rw [canon_iff]
 refine ⟨dec_ne _, hlen, dec_digits _, ?_⟩
 intro c hc h48
 by_cases hn : n.toNat = 0
 · rw [hn, decDigits]; rfl
 · exact absurd h48 (dec_head _ hn c hc)
theorem itoa_val (l : List UInt8) (h : canon l = true) : itoa (val l) = l := by
 obtain ⟨hne, _, hd, h0⟩ := (canon_iff l).1 h
 unfold itoa
 rw [if_neg (by omega)]
 exact dec_val l hne hd h0
theorem num_of_canon {l : List UInt8} (h : canon l = true) : num l = val l := by unfold num; rw [if_pos h]
theorem num_of_not {l : List UInt8} (h : canon l = false) : num l = -1 := by unfold num; simp [h]
theorem num_lt (l : List UInt8) : num l < 10000000000 := by
 unfold num
 split
 · rename_i h
   obtain ⟨_, hlen, hd, _⟩ := (canon_iff l).1 h
   have hv := val_lt l hd
   have hp : 10 ^ l.length ≤ 10 ^ 10 := Nat.pow_le_pow_right (by decide) hlen
   omega
 · omega
theorem num_ge (l : List UInt8) : -1 ≤ num l := by unfold num; split <;> omega
end Adr
namespace Adr
open Go.Lib
def ahead (p : List UInt8) : List (List UInt8) → List (List UInt8)
 | [] => [p]
 | h :: t => (p ++ h) :: t
def parts (at' : UInt8) : List UInt8 → List (List UInt8)
 | [] => [[]]
 | c :: r => if c = at' then [] :: parts at' r else ahead [c] (parts at' r)
theorem parts_nil (s : UInt8) : parts s [] = [[]] := rfl
theorem parts_at (s : UInt8) (r : List UInt8) : parts s (s :: r) = [] :: parts s r := by rw [parts, if_pos rfl]
theorem parts_other (s c : UInt8) (r : List UInt8) (h : c ≠ s) : parts s (c :: r) = ahead [c] (parts s r) := by rw [parts, if_neg h]
theorem parts_ne (s : UInt8) (l : List UInt8) : parts s l ≠ [] := by
 cases l with
 | nil => simp [parts_nil]
 | cons c r =>
   by_cases h : c = s
   · subst h; rw [parts_at]; simp
   · rw [parts_other s c r h]; cases parts s r <;> simp [ahead]
theorem ahead_length (p : List UInt8) (L : List (List UInt8)) (h : L ≠ []) : (ahead p L).length = L.length := by
 cases L with
 | nil => exact absurd rfl h
 | cons a b => rfl
theorem parts_free (s : UInt8) (a : List UInt8) (h : s ∉ a) : parts s a = [a] := by
 induction a with
 | nil => rfl
 | cons c r ih =>
   simp only [List.mem_cons, not_or] at h
   rw [parts_other s c r (fun e => h.1 e.symm), ih h.2]; rfl
theorem parts_append (s : UInt8) (a r : List UInt8) (h : s ∉ a) : parts s (a ++ s :: r) = a :: parts s r := by
 induction a with
 | nil => exact parts_at s r
 | cons c a ih =>
   simp only [List.mem_cons, not_or] at h
   rw [List.cons_append, parts_other s c _ (fun e => h.1 e.symm), ih h.2]; rfl
def glue (s : UInt8) : List (List UInt8) → List UInt8
 | [] => []
 | [a] => a
 | a :: b :: r => a ++ s :: glue s (b :: r)
theorem glue_one (s : UInt8) (a : List UInt8) : glue s [a] = a := rfl
theorem glue_more (s : UInt8) (a b : List UInt8) (r : List (List UInt8)) : glue s (a :: b :: r) = a ++ s :: glue s (b :: r) := rfl
theorem glue_cons (s : UInt8) (a : List UInt8) (L : List (List UInt8)) (h : L ≠ []) : glue s (a :: L) = a ++ s :: glue s L := by
 cases L with
 | nil => exact absurd rfl h
 | cons b r => rfl
theorem glue_ahead (s : UInt8) (p : List UInt8) (L : List (List UInt8)) (h : L ≠ []) : glue s (ahead p L) = p ++ glue s L := by
 cases L with
 | nil => exact absurd rfl h
 | cons a r =>
   cases r with
   | nil => rfl
   | cons b r => simp only [ahead, glue_more, List.append_assoc]
theorem glue_parts (s : UInt8) (l : List UInt8) : glue s (parts s l) = l := by
 induction l with
 | nil => rfl
 | cons c r ih =>
   by_cases h : c = s
   · subst h; rw [parts_at, glue_cons _ _ _ (parts_ne c r), ih]; rfl
   · rw [parts_other s c r h, glue_ahead _ _ _ (parts_ne s r), ih]; rfl
theorem parts_mem (s : UInt8) (l p : List UInt8) (h : p ∈ parts s l) : s ∉ p := by
 induction l generalizing p with
 | nil => simp only [parts_nil, List.mem_singleton] at h; subst h; simp
 | cons c r ih =>
   by_cases hc : c = s
   · subst hc
     rw [parts_at, List.mem_cons] at h
     rcases h with h | h
     · subst h; simp
     · exact ih p h
   · rw [parts_other s c r hc] at h
     cases hp : parts s r with
     | nil => exact absurd hp (parts_ne s r)
     | cons a b =>
       rw [hp] at h ih
       simp only [ahead, List.mem_cons] at h
       rcases h with h | h
       · subst h
         have := ih a (by simp)
         simp only [List.cons_append, List.nil_append, List.mem_cons, not_or]
         exact ⟨fun e => hc e.symm, this⟩
       · exact ih p (by simp [h])
def step (n : Int) (w : List UInt8) : Int := if n < 0 ∨ num w < 0 ∨ 255 < num w then -1 else 256 * n + num w
def ip (l : List UInt8) : Int := match parts 46 l with
 | [a, b, c, d] => step (step (step (step 0 a) b) c) d
 | _ => -1
def ipText (n : Nat) : List UInt8 := glue 46 [decDigits (n / 16777216), decDigits (n / 65536 % 256), decDigits (n / 256 % 256), decDigits (n % 256)]
theorem step_ok {n : Int} {w : List UInt8} (h : 0 ≤ step n w) : 0 ≤ n ∧ 0 ≤ num w ∧ num w ≤ 255 ∧ step n w = 256 * n + num w := by
 unfold step at h ⊢
 split at h
 · omega
 · rename_i hn; rw [if_neg hn]; omega
theorem num_canon {w : List UInt8} (h : 0 ≤ num w) : canon w = true ∧ decDigits (num w).toNat = w := by
 cases hc : canon w with
 | false => rw [num_of_not hc] at h; omega
 | true =>
   refine ⟨rfl, ?_⟩
   obtain ⟨hne, _, hd, h0⟩ := (canon_iff w).1 hc
   rw [num_of_canon hc, Int.toNat_natCast]
   exact dec_val w hne hd h0
theorem ip_cases (l : List UInt8) : ip l = -1 ∨ ∃ a b c d, parts 46 l = [a, b, c, d] ∧ ip l = step (step (step (step 0 a) b) c) d := by
 unfold ip
 split
 · rename_i a b c d h; right; exact ⟨a, b, c, d, h, rfl⟩
 · left; rfl
theorem step_ge (n : Int) (w : List UInt8) : -1 ≤ step n w := by unfold step; split <;> omega
theorem ip_ge (l : List UInt8) : -1 ≤ ip l := by
 rcases ip_cases l with h | ⟨a, b, c, d, _, h⟩
 · omega
 · rw [h]; exact step_ge _ _
theorem ip_fore (l : List UInt8) (h : 0 ≤ ip l) : ip l < 4294967296 ∧ ipText (ip l).toNat = l := by
 rcases ip_cases l with e | ⟨a, b, c, d, hp, e⟩
 · omega
 · rw [e] at h ⊢
   obtain ⟨h3, d0, d1, ed⟩ := step_ok h
   obtain ⟨h2, c0, c1, ec⟩ := step_ok h3
   obtain ⟨h1, b0, b1, eb⟩ := step_ok h2
   obtain ⟨_, a0, a1, ea⟩ := step_ok h1
   rw [ed, ec, eb, ea]
   have ka := (num_canon a0).2; have kb := (num_canon b0).2; have kc := (num_canon c0).2; have kd := (num_canon d0).2
   refine ⟨by omega, ?_⟩
   generalize num a = x at *; generalize num b = y at *; generalize num c = z at *; generalize num d = u at *
   unfold ipText
   rw [show (256 * (256 * (256 * (256 * (0 : Int) + x) + y) + z) + u).toNat / 16777216 = x.toNat by omega,
    show (256 * (256 * (256 * (256 * (0 : Int) + x) + y) + z) + u).toNat / 65536 % 256 = y.toNat by omega,
    show (256 * (256 * (256 * (256 * (0 : Int) + x) + y) + z) + u).toNat / 256 % 256 = z.toNat by omega,
    show (256 * (256 * (256 * (256 * (0 : Int) + x) + y) + z) + u).toNat % 256 = u.toNat by omega, ka, kb, kc, kd, ← hp]
   exact glue_parts 46 l
def right (n bits : Int) : Bool := decide (0 ≤ n) && decide (n < 4294967296) && decide (0 ≤ bits) && decide (bits ≤ 32) && decide (n.toNat % 2 ^ (32 - bits.toNat) = 0)
def good (n k : Int) : Bool := decide (0 ≤ n) && decide (0 ≤ k) && decide (k ≤ 32) && right n k
def pre (l : List UInt8) : Int × Int := match parts 47 l with
 | [a, b] => if good (ip a) (num b) then (ip a, num b) else (-1, 0)
 | _ => (-1, 0)
def preCut (a b : List UInt8) (ok : Bool) : Int × Int := if ok && good (ip a) (num b) then (ip a, num b) else (-1, 0)
theorem good_right {n k : Int} (h : right n k = true) : good n k = true := by
 unfold good
 simp only [h, Bool.and_true, Bool.and_eq_true, decide_eq_true_eq]
 unfold right at h
 simp only [Bool.and_eq_true, decide_eq_true_eq] at h
 omega
theorem num_free (b : List UInt8) (c : UInt8) (hc : isDig c = false) (h : c ∈ b) : num b = -1 := by
 refine num_of_not ?_
 cases hb : canon b with
 | false => rfl
 | true =>
   have := List.all_eq_true.1 ((canon_iff b).1 hb).2.2.1 c h
   rw [hc] at this; cases this
theorem good_bad (n : Int) : good n (-1) = false := by simp [good]
theorem pre_hit (a b : List UInt8) (h : (47 : UInt8) ∉ a) : pre (a ++ 47 :: b) = preCut a b true := by
 unfold pre preCut
 rw [parts_append _ _ _ h, Bool.true_and]
 by_cases hb : (47 : UInt8) ∈ b
 · rw [num_free b 47 (by decide) hb, good_bad]
   simp only [Bool.false_eq_true, if_false]
   cases hp : parts 47 b with
   | nil => rfl
   | cons x y =>
     cases y with
     | nil =>
       exfalso
       have := glue_parts 47 b
       rw [hp, glue_one] at this
       subst this
       exact parts_mem 47 x x (by rw [hp]; simp) hb
     | cons z t => rfl
 · rw [parts_free _ _ hb]
theorem pre_miss (l : List UInt8) (h : (47 : UInt8) ∉ l) : pre l = (-1, 0) := by unfold pre; rw [parts_free _ _ h]
end Adr
namespace Adr
def isIn (n bits ip : Int) : Bool := right n bits && decide (0 ≤ ip) && decide (ip < 4294967296) && decide (ip.toNat / 2 ^ (32 - bits.toNat) = n.toNat / 2 ^ (32 - bits.toNat))
end Adr
namespace Adr
open Go Go.RowKit
theorem ofInt_i64 (a : Nat) (ha : a < 18446744073709551616) : (BitVec.ofInt 64 (a : Int)).toNat = a := by
 rw [BitVec.ofInt_natCast, BitVec.toNat_ofNat]; exact Nat.mod_eq_of_lt (by omega)
theorem wrap_nat (a : Nat) (ha : a < 9223372036854775808) : IntKind.i64.wrap (a : Int) = a := IntWalk.i64_in _ (by omega)
theorem and_nat (a b : Nat) (ha : a < 9223372036854775808) (hb : b < 9223372036854775808) : bits .and .i64 (a : Int) (b : Int) = ((a &&& b : Nat) : Int) := by
 have hx : a &&& b ≤ a := Nat.and_le_left
 show IntKind.i64.wrap ((BitVec.ofInt 64 (a : Int) &&& BitVec.ofInt 64 (b : Int)).toNat : Int) = _
 rw [BitVec.toNat_and, ofInt_i64 a (by omega), ofInt_i64 b (by omega), wrap_nat _ (by omega)]
theorem andNot_nat (a b : Nat) (ha : a < 9223372036854775808) (hb : b < 9223372036854775808) : bits .andNot .i64 (a : Int) (b : Int) = ((a &&& (18446744073709551615 - b) : Nat) : Int) := by
 have hx : a &&& (18446744073709551615 - b) ≤ a := Nat.and_le_left
 show IntKind.i64.wrap ((BitVec.ofInt 64 (a : Int) &&& ~~~BitVec.ofInt 64 (b : Int)).toNat : Int) = _
 rw [BitVec.toNat_and, BitVec.toNat_not, ofInt_i64 a (by omega), ofInt_i64 b (by omega)]
 have e : 2 ^ 64 - 1 - b = 18446744073709551615 - b := by omega
 rw [e, wrap_nat _ (by omega)]
def restV (n : Int) : Int := ((2 ^ (32 - n.toNat) - 1 : Nat) : Int)
theorem pow_le (k : Nat) (h : k ≤ 32) : 1 ≤ 2 ^ k ∧ 2 ^ k ≤ 4294967296 := by
 refine ⟨Nat.one_le_pow _ _ (by decide), ?_⟩
 have := Nat.pow_le_pow_right (n := 2) (by decide) h
 simpa using this
theorem rest_val (n : Int) (h0 : 0 ≤ n) (h : n ≤ 32) : wrap64 (wrap64 (2 ^ (32 - n).toNat) - 1) = restV n := by
 obtain ⟨k, rfl⟩ := Int.eq_ofNat_of_zero_le h0
 have hp := pow_le (32 - k) (by omega)
 have e1 : (32 - (k : Int)).toNat = 32 - k := by omega
 have e2 : ((2 : Int) ^ (32 - k)) = ((2 ^ (32 - k) : Nat) : Int) := by simp
 rw [e1, e2]
 unfold restV
 rw [Int.toNat_natCast]
 generalize 2 ^ (32 - k) = m at *
 have e3 : wrap64 (m : Int) = m := IntWalk.wrap64_in _ (by omega)
 rw [e3, IntWalk.wrap64_in _ (by omega)]
 omega
theorem and_rest (n b : Int) (h0 : 0 ≤ n) (h1 : n < 4294967296) (hb0 : 0 ≤ b) (hb : b ≤ 32) : bits .and .i64 n (restV b) = ((n.toNat % 2 ^ (32 - b.toNat) : Nat) : Int) := by
 obtain ⟨a, rfl⟩ := Int.eq_ofNat_of_zero_le h0
 have hp := pow_le (32 - b.toNat) (by omega)
 unfold restV
 rw [and_nat a _ (by omega) (by omega), Nat.and_two_pow_sub_one_eq_mod, Int.toNat_natCast]
theorem andNot_rest (n b : Int) (h0 : 0 ≤ n) (h1 : n < 4294967296) (hb0 : 0 ≤ b) (hb : b ≤ 32) : bits .andNot .i64 n (restV b) = ((n.toNat / 2 ^ (32 - b.toNat) * 2 ^ (32 - b.toNat) : Nat) : Int) := by
 obtain ⟨a, rfl⟩ := Int.eq_ofNat_of_zero_le h0
 have hp := pow_le (32 - b.toNat) (by omega)
 have hk : 32 - b.toNat ≤ 64 := by omega
 unfold restV
 rw [andNot_nat a _ (by omega) (by omega), Int.toNat_natCast]
 have e : 18446744073709551615 - (2 ^ (32 - b.toNat) - 1) = 2 ^ 64 - 2 ^ (32 - b.toNat) := by omega
 rw [e, nat_midmask 64 _ a hk, Nat.mod_eq_of_lt (by omega)]
theorem right_bits (n b : Int) (h0 : 0 ≤ n) (h1 : n < 4294967296) (hb0 : 0 ≤ b) (hb : b ≤ 32) : (bits .and .i64 n (restV b) == 0) = right n b := by
 rw [and_rest n b h0 h1 hb0 hb, Bool.eq_iff_iff]
 unfold right
 simp only [beq_iff_eq, Bool.and_eq_true, decide_eq_true_eq]
 omega
theorem right_not {n b : Int} (h : ¬ (0 ≤ n ∧ n < 4294967296 ∧ 0 ≤ b ∧ b ≤ 32)) : right n b = false := by
 unfold right
 rw [Bool.eq_false_iff]
 simp only [ne_eq, Bool.and_eq_true, decide_eq_true_eq]
 omega
theorem right_bd {n b : Int} (h : right n b = true) : 0 ≤ n ∧ n < 4294967296 ∧ 0 ≤ b ∧ b ≤ 32 ∧ n.toNat % 2 ^ (32 - b.toNat) = 0 := by
 unfold right at h
 simp only [Bool.and_eq_true, decide_eq_true_eq] at h
 omega
theorem in_bits (n b ip : Int) (hr : right n b = true) (h0 : 0 ≤ ip) (h1 : ip < 4294967296) : (bits .andNot .i64 ip (restV b) == n) = isIn n b ip := by
 obtain ⟨n0, n1, b0, b1, hm⟩ := right_bd hr
 rw [andNot_rest ip b h0 h1 b0 b1, Bool.eq_iff_iff]
 unfold isIn
 rw [hr]
 simp only [beq_iff_eq, Bool.and_eq_true, decide_eq_true_eq, Bool.true_and]
 obtain ⟨a, rfl⟩ := Int.eq_ofNat_of_zero_le n0
 rw [Int.toNat_natCast] at hm ⊢
 have hp := pow_le (32 - b.toNat) (by omega)
 have hd := Nat.div_add_mod a (2 ^ (32 - b.toNat))
 generalize 2 ^ (32 - b.toNat) = m at *
 rw [hm, Nat.add_zero] at hd
 constructor
 · intro h
   refine ⟨⟨h0, h1⟩, ?_⟩
   have : ip.toNat / m * m = a := by omega
   rw [← this, Nat.mul_div_cancel _ (by omega)]
 · rintro ⟨_, h⟩
   rw [h, Nat.mul_comm]; omega
def pw (n : Int) : Int := ((2 ^ n.toNat : Nat) : Int)
theorem pw_bd (k : Nat) (h : k ≤ 32) : 1 ≤ pw k ∧ pw k ≤ 4294967296 := by
 have := pow_le k h
 unfold pw; rw [Int.toNat_natCast]; omega
theorem pw_bd' (k : Int) (h0 : 0 ≤ k) (h : k ≤ 32) : 1 ≤ pw k ∧ pw k ≤ 4294967296 := by
 obtain ⟨m, rfl⟩ := Int.eq_ofNat_of_zero_le h0
 exact pw_bd m (by omega)
theorem pw_succ (k : Nat) : pw ((k + 1 : Nat) : Int) = 2 * pw k := by
 unfold pw; rw [Int.toNat_natCast, Int.toNat_natCast, Nat.pow_succ]; omega
theorem pw_nat (b : Int) (hb0 : 0 ≤ b) (hb : b ≤ 32) : pw (32 - b) = ((2 ^ (32 - b.toNat) : Nat) : Int) := by
 unfold pw; rw [show (32 - b).toNat = 32 - b.toNat by omega]
theorem right_pw (n b : Int) (h0 : 0 ≤ n) (h1 : n < 4294967296) (hb0 : 0 ≤ b) (hb : b ≤ 32) : (n % pw (32 - b) == 0) = right n b := by
 obtain ⟨a, rfl⟩ := Int.eq_ofNat_of_zero_le h0
 rw [pw_nat b hb0 hb, Bool.eq_iff_iff]
 unfold right
 simp only [beq_iff_eq, Bool.and_eq_true, decide_eq_true_eq, Int.toNat_natCast]
 generalize 2 ^ (32 - b.toNat) = m
 rw [← Int.natCast_emod]
 omega
theorem isIn_not {n b ip : Int} (h : ¬ (right n b = true ∧ 0 ≤ ip ∧ ip < 4294967296)) : isIn n b ip = false := by
 unfold isIn
 rw [Bool.eq_false_iff]
 simp only [ne_eq, Bool.and_eq_true, decide_eq_true_eq]
 rintro ⟨⟨⟨a, c⟩, d⟩, _⟩
 exact h ⟨a, c, d⟩
end Adr
namespace Adr
open Go.Lib
theorem index_eq (c : UInt8) (l : List UInt8) : index (c :: l) [c] = 0 := by
 rw [index, if_pos (by simp)]
theorem index_other (b c : UInt8) (l : List UInt8) (h : b ≠ c) : index (b :: l) [c] = if index l [c] == -1 then -1 else index l [c] + 1 := by
 rw [index, if_neg]
 simp only [List.isPrefixOf_cons_cons, Bool.and_eq_true, beq_iff_eq, not_and]
 intro e; exact absurd e.symm h
theorem index_miss (c : UInt8) (l : List UInt8) (h : c ∉ l) : index l [c] = -1 := by
 induction l with
 | nil => rfl
 | cons b r ih =>
   simp only [List.mem_cons, not_or] at h
   rw [index_other b c r (fun e => h.1 e.symm), ih h.2]; rfl
theorem index_at (c : UInt8) (a r : List UInt8) (h : c ∉ a) : index (a ++ c :: r) [c] = a.length := by
 induction a with
 | nil => exact index_eq c r
 | cons b a ih =>
   simp only [List.mem_cons, not_or] at h
   rw [List.cons_append, index_other b c _ (fun e => h.1 e.symm), ih h.2, if_neg (by simp)]
   simp
theorem first_at (c : UInt8) (l : List UInt8) (h : c ∈ l) : ∃ a r, l = a ++ c :: r ∧ c ∉ a := by
 induction l with
 | nil => simp at h
 | cons b l ih =>
   by_cases e : b = c
   · subst e; exact ⟨[], l, rfl, by simp⟩
   · simp only [List.mem_cons] at h
     obtain ⟨a, r, hl, ha⟩ := ih (h.resolve_left fun x => e x.symm)
     refine ⟨b :: a, r, by rw [hl]; rfl, ?_⟩
     simp only [List.mem_cons, not_or]
     exact ⟨fun x => e x.symm, ha⟩
theorem take_at (c : UInt8) (a r : List UInt8) : (a ++ c :: r).take a.length = a := by simp
theorem drop_at (c : UInt8) (a r : List UInt8) : (a ++ c :: r).drop (a.length + 1) = r := by
 rw [← List.drop_drop]; simp
theorem cut_at (c : UInt8) (a r : List UInt8) (h : c ∉ a) : cut (a ++ c :: r) [c] = (a, r, true) := by
 unfold cut
 rw [index_at c a r h, if_pos (by omega), Int.toNat_natCast, take_at, show [c].length = 1 from rfl, drop_at]
theorem cut_miss (c : UInt8) (l : List UInt8) (h : c ∉ l) : cut l [c] = (l, [], false) := by
 unfold cut
 rw [index_miss c l h, if_neg (by omega)]
theorem count_free (c : UInt8) (l : List UInt8) (h : c ∉ l) : count l [c] = 0 := by
 rw [count_one]; exact List.count_eq_zero.2 h
theorem count_at (c : UInt8) (a r : List UInt8) (h : c ∉ a) : count (a ++ c :: r) [c] = count r [c] + 1 := by
 rw [count_one, count_one, List.count_append, List.count_eq_zero.2 h, List.count_cons_self]; omega
theorem splitK_at (c : UInt8) (k : Nat) (a r : List UInt8) (h : c ∉ a) : splitK [c] 0 (k + 1) (a ++ c :: r) = a :: splitK [c] 0 k r := by
 have e := index_at c a r h
 rw [splitK, e, if_neg (by simp), Int.toNat_natCast, Nat.add_zero, take_at, show [c].length = 1 from rfl, drop_at]
theorem split_parts (c : UInt8) (l : List UInt8) : split l [c] = parts c l := by
 suffices h : ∀ (k : Nat) (l : List UInt8), l.length ≤ k → splitK [c] 0 (count l [c]) l = parts c l from h _ l (Nat.le_refl _)
 intro k
 induction k with
 | zero =>
   intro l hl
   have : l = [] := List.length_eq_zero_iff.1 (by omega)
   subst this
   rw [count_free c [] (by simp)]; rfl
 | succ k ih =>
   intro l hl
   by_cases hc : c ∈ l
   · obtain ⟨a, r, rfl, ha⟩ := first_at c l hc
     rw [count_at c a r ha, splitK_at c _ a r ha, parts_append c a r ha, ih r (by simp at hl; omega)]
   · rw [count_free c l hc, parts_free c l hc]; rfl
theorem replaceK_at (c : UInt8) (k : Nat) (a r : List UInt8) (h : c ∉ a) : replaceK [c] [] (k + 1) (a ++ c :: r) = a ++ replaceK [c] [] k r := by
 have e := index_at c a r h
 rw [replaceK, e, if_neg (by simp), Int.toNat_natCast, take_at, show [c].length = 1 from rfl, drop_at, List.append_nil]
theorem filter_free (c : UInt8) (a : List UInt8) (h : c ∉ a) : a.filter (· != c) = a := by
 rw [List.filter_eq_self]
 intro b hb
 simp only [bne_iff_ne, ne_eq]
 rintro rfl; exact h hb
theorem replace_filter (c : UInt8) (l : List UInt8) : replaceAll l [c] [] = l.filter (· != c) := by
 suffices h : ∀ (k : Nat) (l : List UInt8), l.length ≤ k → replaceK [c] [] (count l [c]) l = l.filter (· != c) by
  unfold replaceAll replace
  rw [if_neg (by simp)]
  unfold replaceNum
  rw [if_pos (Or.inl (by decide))]
  exact h _ l (Nat.le_refl _)
 intro k
 induction k with
 | zero =>
   intro l hl
   have : l = [] := List.length_eq_zero_iff.1 (by omega)
   subst this
   rw [count_free c [] (by simp)]; rfl
 | succ k ih =>
   intro l hl
   by_cases hc : c ∈ l
   · obtain ⟨a, r, rfl, ha⟩ := first_at c l hc
     rw [count_at c a r ha, replaceK_at c _ a r ha, ih r (by simp at hl; omega), List.filter_append, filter_free c a ha]
     simp
   · rw [count_free c l hc, filter_free c l hc]; rfl
theorem join_glue (c : UInt8) (L : List (List UInt8)) : join L [c] = glue c L := by
 unfold join
 induction L with
 | nil => rfl
 | cons a r ih =>
   cases r with
   | nil => simp [glue, List.intercalate]
   | cons b r =>
     rw [glue_more, ← ih]
     simp [List.intercalate, List.intersperse]
end Adr
