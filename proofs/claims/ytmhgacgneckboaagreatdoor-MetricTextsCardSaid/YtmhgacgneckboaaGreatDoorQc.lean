/- A walk: the reference's Num. A walk: addr.Num, by the shelf's contracts of strconv.Atoi and strconv.Itoa. Plain facts: the thousandths of a metric's text. No program in sight. -/
import Derived.Test.YtmhgacgneckboaaGreatDoorProg
import Derived.WalkKit
import Derived.WalkSpells
import Derived.WalkLawsBesides
import Derived.Lib.Hide
import Derived.Test.YtmhgacgneckboaaGreatDoorShelf
import Derived.Lib.AtoiAllCases
import Derived.Lib.Repeat
import Derived.Lib.Strings
import Derived.Lib.SlTrimSet
import Derived.Test.YtmhgacgneckboaaGreatDoorQa
namespace Adr
open Go
/-- The value of a text's first k digits. -/
def valN (s : ByteArray) (k : Nat) : Int := (val (s.data.toList.take k) : Int)
def digs (s : ByteArray) (k : Nat) : Bool := (s.data.toList.take k).all isDig
theorem take_snoc (s : ByteArray) (k : Nat) (h : k < s.size) : s.data.toList.take (k + 1) = s.data.toList.take k ++ [s[k]] := by
  rw [List.take_succ_eq_append_getElem (by simpa using h)]; rfl
theorem valN_zero (s : ByteArray) : valN s 0 = 0 := by unfold valN; rw [List.take_zero]; rfl
theorem digs_zero (s : ByteArray) : digs s 0 = true := by unfold digs; rw [List.take_zero]; rfl
theorem valN_succ (s : ByteArray) (k : Nat) (h : k < s.size) (h48 : 48 ≤ s[k].toNat) : valN s (k + 1) = 10 * valN s k + ((s[k].toNat : Int) - 48) := by
  unfold valN val
  rw [take_snoc s k h, valFrom_append, valFrom_cons, valFrom_nil]; omega
theorem digs_succ (s : ByteArray) (k : Nat) (h : k < s.size) : digs s (k + 1) = (digs s k && isDig s[k]) := by
  unfold digs
  rw [take_snoc s k h, List.all_append]; simp
theorem valN_bd (s : ByteArray) (k : Nat) (hk : k ≤ 10) (hd : digs s k = true) : 0 ≤ valN s k ∧ valN s k < 10000000000 := by
  have h1 := val_lt _ hd
  have h2 : (s.data.toList.take k).length ≤ 10 := by rw [List.length_take]; omega
  have h3 : 10 ^ (s.data.toList.take k).length ≤ 10 ^ 10 := Nat.pow_le_pow_right (by decide) h2
  unfold valN; omega
theorem list_size (s : ByteArray) : s.data.toList.length = s.size := by simp
theorem num_empty (s : ByteArray) (h : s.size < 1) : num s.data.toList = -1 := by
  refine num_of_not ?_
  have : s.data.toList = [] := List.length_eq_zero_iff.1 (by rw [list_size]; omega)
  rw [this]; rfl
theorem num_long (s : ByteArray) (h : 10 < s.size) : num s.data.toList = -1 := by
  refine num_of_not ?_
  rw [Bool.eq_false_iff]
  intro hc
  have := ((canon_iff _).1 hc).2.1
  rw [list_size] at this; omega
theorem head_get (s : ByteArray) (h : 0 < s.size) : s.data.toList.head? = some s[0] := by
  have : s.data.toList = s[0] :: s.data.toList.drop 1 := by
    have h1 := take_snoc s 0 h
    rw [List.take_zero, List.nil_append] at h1
    have h2 := List.take_append_drop 1 s.data.toList
    rw [h1] at h2; exact h2.symm
  rw [this]; rfl
theorem num_zeros (s : ByteArray) (h : 1 < s.size) (h0 : s[0].toNat = 48) : num s.data.toList = -1 := by
  refine num_of_not ?_
  rw [Bool.eq_false_iff]
  intro hc
  have := ((canon_iff _).1 hc).2.2.2 s[0] (head_get s (by omega)) (UInt8.toNat_inj.1 (by rw [h0]; rfl))
  rw [list_size] at this; omega
theorem num_other (s : ByteArray) (k : Nat) (h : k < s.size) (hd : isDig s[k] = false) : num s.data.toList = -1 := by
  refine num_of_not ?_
  rw [Bool.eq_false_iff]
  intro hc
  have := List.all_eq_true.1 ((canon_iff _).1 hc).2.2.1 s[k] (List.getElem_mem (by simpa using h))
  rw [hd] at this; cases this
theorem num_all (s : ByteArray) (h1 : 1 ≤ s.size) (h2 : s.size ≤ 10) (h3 : ¬ (s[0].toNat = 48 ∧ 1 < s.size)) (hd : digs s s.size = true) : num s.data.toList = valN s s.size := by
  unfold digs at hd
  unfold valN
  rw [List.take_of_length_le (by rw [list_size]; omega)] at hd ⊢
  refine num_of_canon ?_
  rw [canon_iff]
  refine ⟨?_, by rw [list_size]; omega, hd, ?_⟩
  · intro e
    have := congrArg List.length e
    rw [list_size] at this; simp only [List.length_nil] at this; omega
  · intro c hc h48
    rw [head_get s (by omega)] at hc
    rw [list_size]
    have : s[0].toNat = 48 := by
      have := Option.some.inj hc
      rw [this, h48]; rfl
    omega
end Adr
namespace Go.Proofs.YtmhgacgneckboaaGreatDoor
open Go.RowKit

end Go.Proofs.YtmhgacgneckboaaGreatDoor

namespace Adr
open Go Go.Lib
def numIn (l : List UInt8) (least most : Int) : Bool := decide (0 ≤ num l) && decide (least ≤ num l) && decide (num l ≤ most)
theorem numIn_iff (l : List UInt8) (least most : Int) : numIn l least most = true ↔ 0 ≤ num l ∧ least ≤ num l ∧ num l ≤ most := by
  unfold numIn; simp only [Bool.and_eq_true, decide_eq_true_eq]; omega
theorem numIn_not {l : List UInt8} {least most : Int} (h : ¬ (0 ≤ num l ∧ least ≤ num l ∧ num l ≤ most)) : numIn l least most = false := by
  rw [Bool.eq_false_iff]; exact fun e => h ((numIn_iff _ _ _).1 e)
theorem num_bad (l : List UInt8) (h : ∀ v, atoiAll l ≠ .ok v) : num l = -1 := by
  refine num_of_not ?_
  rw [Bool.eq_false_iff]
  exact fun e => h _ (atoi_canon l e)
/-- What Atoi gives, where the text is a number's. -/
theorem num_ok (l : List UInt8) (v : Int) (h : atoiAll l = .ok v) : (num l = v ∧ l.length ≤ 10 ∧ 0 ≤ v ∧ itoa v = l) ∨ (num l = -1 ∧ (10 < l.length ∨ v < 0 ∨ itoa v ≠ l)) := by
  cases hc : canon l with
  | true =>
    left
    have h1 := atoi_canon l hc
    rw [h] at h1
    injection h1 with h1
    subst h1
    exact ⟨num_of_canon hc, ((canon_iff l).1 hc).2.1, by omega, itoa_val l hc⟩
  | false =>
    right
    refine ⟨num_of_not hc, ?_⟩
    by_cases h1 : 10 < l.length
    · exact .inl h1
    · by_cases h2 : v < 0
      · exact .inr (.inl h2)
      · refine .inr (.inr fun e => ?_)
        rw [(canon_of_itoa l v (by omega) (by omega) e).1] at hc
        cases hc
end Adr
namespace Go.Proofs.YtmhgacgneckboaaGreatDoor
open Go.RowKit

/-- What addr.Num gives. -/
def numRet (s : ByteArray) (least most : Int) : Value := .tuple #[.int .i64 (if Adr.numIn s.data.toList least most then Adr.num s.data.toList else 0), .bool (Adr.numIn s.data.toList least most)]
theorem numRet_yes {s : ByteArray} {least most : Int} (h : Adr.numIn s.data.toList least most = true) : numRet s least most = .tuple #[.int .i64 (Adr.num s.data.toList), .bool true] := by
  unfold numRet; rw [h]; rfl
theorem numRet_no {s : ByteArray} {least most : Int} (h : Adr.numIn s.data.toList least most = false) : numRet s least most = .tuple #[.int .i64 0, .bool false] := by
  unfold numRet; rw [h]; rfl

theorem atoi_bad (s : ByteArray) (w : World) (hE : Env w) (hs : s.size ≤ 281474976710656) (h : ∀ v, Lib.atoiAll s.data.toList ≠ .ok v) :
    Calls Tryz.prog 40 #[.string s] w fun e w' => ∃ v p, e = .returned (.tuple #[.int .i64 v, .iface 92 p]) ∧ Below w.heap.size w w' := by
  rcases hA : Lib.atoiAll s.data.toList with v | _ | _
  · exact absurd hA (h v)
  · obtain ⟨tp, p, hv⟩ := hE.es
    exact (Any.strconv_Atoi_syntax Tryz.laysC172 s hs hA _ w hv (.inr ⟨tp, p, rfl⟩)).mono fun _ _ ⟨N, he, _, _, hb⟩ => ⟨_, _, he, hb⟩
  · obtain ⟨tp, p, hv⟩ := hE.er
    exact (Any.strconv_Atoi_range Tryz.laysC172 s hs hA _ w hv (.inr ⟨tp, p, rfl⟩)).mono fun _ _ ⟨N, he, _, _, hb⟩ => ⟨_, _, he, hb⟩
theorem atoi_ok (s : ByteArray) (w : World) (v : Int) (hs : s.size ≤ 281474976710656) (h : Lib.atoiAll s.data.toList = .ok v) :
    Calls Tryz.prog 40 #[.string s] w fun e w' => e = .returned (.tuple #[.int .i64 v, .nilIface]) ∧ Below w.heap.size w w' :=
  (Tryz.strconv_Atoi_ok s (by omega) v h w).mono fun _ _ ⟨he, hw⟩ => ⟨he, by
    rcases hw with rfl | ⟨t, rfl⟩
    · exact Below.refl _ _
    · exact Lib.bytesWorld_below _ _ _⟩
theorem itoa_any (n : Int) (w : World) (hE : Env w) (h0 : -9223372036854775808 ≤ n) (h1 : n ≤ 9223372036854775807) :
    Calls Tryz.prog 41 #[.int .i64 n] w fun e w' => e = .returned (.string ⟨(Lib.itoa n).toArray⟩) ∧ Below w.heap.size w w' :=
  (Tryz.strconv_Itoa n h0 h1 w hE.tb).mono fun _ _ ⟨he, k, os, hw⟩ => ⟨he, by rw [hw]; exact Lib.below_grow _ _ (Nat.le_refl _) _ _⟩

theorem str_ne {l : List UInt8} {s : ByteArray} (h : l ≠ s.data.toList) : (l == s.toList) = false := by
  rw [beq_eq_false_iff_ne, Lib.toList_data]; exact h

end Go.Proofs.YtmhgacgneckboaaGreatDoor

namespace Mtr
open Go Go.Lib Adr
def fracOk (b : List UInt8) : Bool := decide (1 ≤ b.length) && decide (b.length ≤ 3) && b.all isDig && !(hasSuffix b [48])
def intOk (a : List UInt8) : Bool := canon a && decide (a.length ≤ 6)
def frac (b : List UInt8) : Nat := val b * 10 ^ (3 - b.length)
/-- The thousandths of a text without a sign. -/
def dec (t : List UInt8) : Option Nat :=
  match t.dropWhile isDig with
  | [] => if intOk (t.takeWhile isDig) then some (1000 * val (t.takeWhile isDig)) else none
  | c :: b => if intOk (t.takeWhile isDig) && (c == 46 && fracOk b) then some (1000 * val (t.takeWhile isDig) + frac b) else none
theorem all_take {p : UInt8 → Bool} : ∀ {l : List UInt8}, l.all p = true → l.takeWhile p = l ∧ l.dropWhile p = []
  | [], _ => ⟨rfl, rfl⟩
  | c :: r, h => by
    simp only [List.all_cons, Bool.and_eq_true] at h
    rw [List.takeWhile_cons, List.dropWhile_cons, h.1]
    have := all_take h.2
    exact ⟨by simp [this.1], by simp [this.2]⟩
theorem all_take_app {p : UInt8 → Bool} {c : UInt8} {b : List UInt8} (hc : p c = false) : ∀ {l : List UInt8}, l.all p = true → (l ++ c :: b).takeWhile p = l ∧ (l ++ c :: b).dropWhile p = c :: b
  | [], _ => by simp [hc]
  | d :: r, h => by
    simp only [List.all_cons, Bool.and_eq_true] at h
    have := all_take_app (b := b) hc h.2
    simp [h.1, this.1, this.2]
theorem take_drop_split {p : UInt8 → Bool} : ∀ (l : List UInt8), l = l.takeWhile p ++ l.dropWhile p := fun _l => List.takeWhile_append_dropWhile.symm
theorem int_digits {a : List UInt8} (h : intOk a = true) : a.all isDig = true := by
  unfold intOk at h; simp only [Bool.and_eq_true] at h; exact ((canon_iff a).1 h.1).2.2.1
theorem dig_46 : isDig 46 = false := by decide
/-- Without a point. -/
theorem dec_whole (t : List UInt8) (h : (46 : UInt8) ∉ t) : dec t = if intOk t then some (1000 * val t) else none := by
  unfold dec
  split
  · rename_i hd
    have ht : t.takeWhile isDig = t := by have := take_drop_split (p := isDig) t; rw [hd, List.append_nil] at this; exact this.symm
    rw [ht]
  · rename_i c b hd
    have hc : (c == 46) = false := by
      rw [beq_eq_false_iff_ne]; rintro rfl
      refine h ?_
      rw [take_drop_split (p := isDig) t, hd]; simp
    have hn : intOk t = false := by
      rw [Bool.eq_false_iff]; intro ht
      have := (all_take (int_digits ht)).2
      rw [this] at hd; cases hd
    rw [hc, hn]; simp
theorem drop_head (b : List UInt8) : ∀ a : List UInt8, (46 : UInt8) ∉ a → a.all isDig = false → ∃ c r, (a ++ 46 :: b).dropWhile isDig = c :: r ∧ c ≠ 46
  | [], _, h => by simp at h
  | d :: a, hn, h => by
    rw [List.mem_cons, not_or] at hn
    by_cases hd : isDig d = true
    · rw [List.all_cons, hd, Bool.true_and] at h
      obtain ⟨c, r, e, hc⟩ := drop_head b a hn.2 h
      exact ⟨c, r, by rw [List.cons_append, List.dropWhile_cons, hd]; exact e, hc⟩
    · exact ⟨d, a ++ 46 :: b, by rw [List.cons_append, List.dropWhile_cons, if_neg hd], fun e => hn.1 e.symm⟩
/-- With a point. -/
theorem dec_point (a b : List UInt8) (h : (46 : UInt8) ∉ a) : dec (a ++ 46 :: b) = if intOk a && fracOk b then some (1000 * val a + frac b) else none := by
  by_cases ha : a.all isDig = true
  · have := all_take_app (b := b) dig_46 ha
    unfold dec
    rw [this.2, this.1]
    simp
  · have hn : intOk a = false := by
      rw [Bool.eq_false_iff]; exact fun e => ha (int_digits e)
    rw [hn, Bool.false_and, if_neg (by decide)]
    obtain ⟨c, r, hd, hc⟩ := drop_head b a h (by simpa using ha)
    unfold dec
    rw [hd]
    show (if intOk _ && (c == 46 && fracOk r) then _ else none) = none
    rw [beq_eq_false_iff_ne.2 hc]; simp
theorem atoi_digits (l : List UInt8) (hne : l ≠ []) (hlen : l.length ≤ 10) (hd : l.all isDig = true) : atoiAll l = .ok (val l) := by
  cases l with
  | nil => exact absurd rfl hne
  | cons c r =>
    have hc := (isDig_iff c).1 (by simp only [List.all_cons, Bool.and_eq_true] at hd; exact hd.1)
    have hp : 10 ^ (c :: r).length ≤ 10 ^ 10 := Nat.pow_le_pow_right (by decide) hlen
    have hv := val_lt (c :: r) hd
    have e : parseUint10 0 (c :: r) = .ok (val (c :: r)) := parse_digits (c :: r) 0 hd (by simpa using hp)
    unfold atoiAll
    simp only
    rw [if_neg (by omega)]
    unfold parseMag
    rw [if_neg (by simp), e]
    simp only
    rw [if_neg (by omega), if_neg (by omega), if_neg (by omega)]
theorem repeat_all (n : Nat) : (repeatL [48] n).all isDig = true ∧ (repeatL [48] n).length = n := by
  induction n with
  | zero => exact ⟨rfl, rfl⟩
  | succ n ih => unfold repeatL; simp [ih.1, ih.2, isDig]
theorem valFrom_repeat (a n : Nat) : valFrom a (repeatL [48] n) = a * 10 ^ n := by
  induction n generalizing a with
  | zero => simp [repeatL, valFrom_nil]
  | succ n ih =>
    unfold repeatL
    rw [List.singleton_append, valFrom_cons, ih]
    show (10 * a + (48 - 48)) * 10 ^ n = _
    rw [Nat.pow_succ, Nat.sub_self, Nat.add_zero, Nat.mul_comm 10 a, Nat.mul_assoc, Nat.mul_comm 10]
theorem val_pad (b : List UInt8) (n : Nat) : val (b ++ repeatL [48] n) = val b * 10 ^ n := by
  unfold val; rw [valFrom_append, valFrom_repeat]
theorem frac_atoi {b : List UInt8} (h1 : 1 ≤ b.length) (h3 : b.length ≤ 3) (hd : b.all isDig = true) : atoiAll (b ++ repeatL [48] (3 - b.length)) = .ok (frac b) := by
  have hr := repeat_all (3 - b.length)
  rw [atoi_digits _ (by intro e; have := congrArg List.length e; rw [List.length_append, hr.2, List.length_nil] at this; omega) (by rw [List.length_append, hr.2]; omega) (by rw [List.all_append, hd, hr.1]; rfl), val_pad]
  rfl
def digits : List UInt8 := [48, 49, 50, 51, 52, 53, 54, 55, 56, 57]
theorem digits_has (c : UInt8) : digits.contains c = isDig c := by
  have : ∀ n : Fin 256, digits.contains (UInt8.ofNat n) = isDig (UInt8.ofNat n) := by decide +kernel
  have h := this ⟨c.toNat, c.toNat_lt⟩
  simpa using h
theorem dropWhile_nil {p : UInt8 → Bool} (l : List UInt8) : l.dropWhile p = [] ↔ l.all p = true := by
  induction l with
  | nil => simp
  | cons c r ih =>
    rw [List.dropWhile_cons, List.all_cons]
    by_cases h : p c = true
    · rw [if_pos h, ih, h, Bool.true_and]
    · rw [if_neg h]; simp [h]
theorem trim_nil (cs l : List UInt8) : trimS l cs = [] ↔ l.all (cs.contains ·) = true := by
  unfold trimS trimLeftS
  rw [dropWhile_nil]
  unfold trimRightS
  rw [List.all_reverse]
  constructor
  · intro h
    have h2 : (l.reverse.dropWhile (cs.contains ·)).all (cs.contains ·) = true := h
    have e := take_drop_split (p := (cs.contains ·)) l.reverse
    have : l.reverse.all (cs.contains ·) = true := by
      rw [e, List.all_append, h2, Bool.and_true]
      exact List.all_takeWhile
    simpa using this
  · intro h
    have : l.reverse.dropWhile (cs.contains ·) = [] := by rw [dropWhile_nil]; simpa using h
    rw [this]; rfl
theorem trim_digits (l : List UInt8) : trimS l digits = [] ↔ l.all isDig = true := by
  rw [trim_nil]
  rw [show (fun x => digits.contains x) = isDig from funext digits_has]
end Mtr
