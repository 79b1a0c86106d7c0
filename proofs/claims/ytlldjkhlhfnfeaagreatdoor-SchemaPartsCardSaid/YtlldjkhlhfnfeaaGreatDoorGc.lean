/- A walk: the reference's Num. A walk: addr.Num, by the shelf's contracts of strconv.Atoi and strconv.Itoa. Plain facts: the thousandths of a metric's text. No program in sight. A walk: tree.Find. Walks: the reference's Under, End, Equal, Small, Short, Kids (layer 3). Walks: the reference's Path and Find (layer 3). -/
import Derived.Test.YtlldjkhlhfnfeaaGreatDoorProg
import Derived.WalkKit
import Derived.WalkSpells
import Derived.WalkLawsBesides
import Derived.Lib.Hide
import Derived.Test.YtlldjkhlhfnfeaaGreatDoorShelf
import Derived.Lib.AtoiAllCases
import Derived.Lib.Repeat
import Derived.Lib.Strings
import Derived.Lib.SlTrimSet
import Derived.Laws.AppendOwnNone
import Derived.Test.YtlldjkhlhfnfeaaGreatDoorGa
import Derived.Test.YtlldjkhlhfnfeaaGreatDoorGb
namespace Adr
open Go
/-- The value of a text's first k digits. -/
def valN (s : ByteArray) (k : Nat) : Int := (val (s.data.toList.take k) : Int)
def digs (s : ByteArray) (k : Nat) : Bool := (s.data.toList.take k).all isDig
theorem take_snoc (s : ByteArray) (k : Nat) (h : k < s.size) : s.data.toList.take (k + 1) = s.data.toList.take k ++ [s[k]] := by
  rw [List.take_succ_eq_append_getElem (by simpa using h)]; rfl
theorem valN_zero (s : ByteArray) : valN s 0 = 0 := by unfold valN; rw [List.take_zero]; rfl
theorem digs_zero (s : ByteArray) : digs s 0 = true := by unfold digs; rw [List.take_zero]; rfl
theorem valN_succ (s : ByteArray) (k : Nat) (h : k < s.size) (h48 : 48 ≤ s[k].toNat) : valN s (k + 1) = 10 * valN s k + ((s[k].toNat : Int) - 48) := by
  unfold valN val
  rw [take_snoc s k h, valFrom_append, valFrom_cons, valFrom_nil]; omega
theorem digs_succ (s : ByteArray) (k : Nat) (h : k < s.size) : digs s (k + 1) = (digs s k && isDig s[k]) := by
  unfold digs
  rw [take_snoc s k h, List.all_append]; simp
theorem valN_bd (s : ByteArray) (k : Nat) (hk : k ≤ 10) (hd : digs s k = true) : 0 ≤ valN s k ∧ valN s k < 10000000000 := by
  have h1 := val_lt _ hd
  have h2 : (s.data.toList.take k).length ≤ 10 := by rw [List.length_take]; omega
  have h3 : 10 ^ (s.data.toList.take k).length ≤ 10 ^ 10 := Nat.pow_le_pow_right (by decide) h2
  unfold valN; omega
theorem list_size (s : ByteArray) : s.data.toList.length = s.size := by simp
theorem num_empty (s : ByteArray) (h : s.size < 1) : num s.data.toList = -1 := by
  refine num_of_not ?_
  have : s.data.toList = [] := List.length_eq_zero_iff.1 (by rw [list_size]; omega)
  rw [this]; rfl
theorem num_long (s : ByteArray) (h : 10 < s.size) : num s.data.toList = -1 := by
  refine num_of_not ?_
  rw [Bool.eq_false_iff]
  intro hc
  have := ((canon_iff _).1 hc).2.1
  rw [list_size] at this; omega
theorem head_get (s : ByteArray) (h : 0 < s.size) : s.data.toList.head? = some s[0] := by
  have : s.data.toList = s[0] :: s.data.toList.drop 1 := by
    have h1 := take_snoc s 0 h
    rw [List.take_zero, List.nil_append] at h1
    have h2 := List.take_append_drop 1 s.data.toList
    rw [h1] at h2; exact h2.symm
  rw [this]; rfl
theorem num_zeros (s : ByteArray) (h : 1 < s.size) (h0 : s[0].toNat = 48) : num s.data.toList = -1 := by
  refine num_of_not ?_
  rw [Bool.eq_false_iff]
  intro hc
  have := ((canon_iff _).1 hc).2.2.2 s[0] (head_get s (by omega)) (UInt8.toNat_inj.1 (by rw [h0]; rfl))
  rw [list_size] at this; omega
theorem num_other (s : ByteArray) (k : Nat) (h : k < s.size) (hd : isDig s[k] = false) : num s.data.toList = -1 := by
  refine num_of_not ?_
  rw [Bool.eq_false_iff]
  intro hc
  have := List.all_eq_true.1 ((canon_iff _).1 hc).2.2.1 s[k] (List.getElem_mem (by simpa using h))
  rw [hd] at this; cases this
theorem num_all (s : ByteArray) (h1 : 1 ≤ s.size) (h2 : s.size ≤ 10) (h3 : ¬ (s[0].toNat = 48 ∧ 1 < s.size)) (hd : digs s s.size = true) : num s.data.toList = valN s s.size := by
  unfold digs at hd
  unfold valN
  rw [List.take_of_length_le (by rw [list_size]; omega)] at hd ⊢
  refine num_of_canon ?_
  rw [canon_iff]
  refine ⟨?_, by rw [list_size]; omega, hd, ?_⟩
  · intro e
    have := congrArg List.length e
    rw [list_size] at this; simp only [List.length_nil] at this; omega
  · intro c hc h48
    rw [head_get s (by omega)] at hc
    rw [list_size]
    have : s[0].toNat = 48 := by
      have := Option.some.inj hc
      rw [this, h48]; rfl
    omega
end Adr
namespace Go.Proofs.YtlldjkhlhfnfeaaGreatDoor
open Go.RowKit

end Go.Proofs.YtlldjkhlhfnfeaaGreatDoor

namespace Adr
open Go Go.Lib
def numIn (l : List UInt8) (least most : Int) : Bool := decide (0 ≤ num l) && decide (least ≤ num l) && decide (num l ≤ most)
theorem numIn_iff (l : List UInt8) (least most : Int) : numIn l least most = true ↔ 0 ≤ num l ∧ least ≤ num l ∧ num l ≤ most := by
  unfold numIn; simp only [Bool.and_eq_true, decide_eq_true_eq]; omega
theorem numIn_not {l : List UInt8} {least most : Int} (h : ¬ (0 ≤ num l ∧ least ≤ num l ∧ num l ≤ most)) : numIn l least most = false := by
  rw [Bool.eq_false_iff]; exact fun e => h ((numIn_iff _ _ _).1 e)
theorem num_bad (l : List UInt8) (h : ∀ v, atoiAll l ≠ .ok v) : num l = -1 := by
  refine num_of_not ?_
  rw [Bool.eq_false_iff]
  exact fun e => h _ (atoi_canon l e)
/-- What Atoi gives, where the text is a number's. -/
theorem num_ok (l : List UInt8) (v : Int) (h : atoiAll l = .ok v) : (num l = v ∧ l.length ≤ 10 ∧ 0 ≤ v ∧ itoa v = l) ∨ (num l = -1 ∧ (10 < l.length ∨ v < 0 ∨ itoa v ≠ l)) := by
  cases hc : canon l with
  | true =>
    left
    have h1 := atoi_canon l hc
    rw [h] at h1
    injection h1 with h1
    subst h1
    exact ⟨num_of_canon hc, ((canon_iff l).1 hc).2.1, by omega, itoa_val l hc⟩
  | false =>
    right
    refine ⟨num_of_not hc, ?_⟩
    by_cases h1 : 10 < l.length
    · exact .inl h1
    · by_cases h2 : v < 0
      · exact .inr (.inl h2)
      · refine .inr (.inr fun e => ?_)
        rw [(canon_of_itoa l v (by omega) (by omega) e).1] at hc
        cases hc
end Adr
namespace Go.Proofs.YtlldjkhlhfnfeaaGreatDoor
open Go.RowKit

/-- What addr.Num gives. -/
def numRet (s : ByteArray) (least most : Int) : Value := .tuple #[.int .i64 (if Adr.numIn s.data.toList least most then Adr.num s.data.toList else 0), .bool (Adr.numIn s.data.toList least most)]
theorem numRet_yes {s : ByteArray} {least most : Int} (h : Adr.numIn s.data.toList least most = true) : numRet s least most = .tuple #[.int .i64 (Adr.num s.data.toList), .bool true] := by
  unfold numRet; rw [h]; rfl
theorem numRet_no {s : ByteArray} {least most : Int} (h : Adr.numIn s.data.toList least most = false) : numRet s least most = .tuple #[.int .i64 0, .bool false] := by
  unfold numRet; rw [h]; rfl

theorem atoi_bad (s : ByteArray) (w : World) (hE : Env w) (hs : s.size ≤ 281474976710656) (h : ∀ v, Lib.atoiAll s.data.toList ≠ .ok v) :
    Calls Tryz.prog 92 #[.string s] w fun e w' => ∃ v p, e = .returned (.tuple #[.int .i64 v, .iface 161 p]) ∧ Below w.heap.size w w' := by
  rcases hA : Lib.atoiAll s.data.toList with v | _ | _
  · exact absurd hA (h v)
  · obtain ⟨tp, p, hv⟩ := hE.es
    exact (Any.strconv_Atoi_syntax Tryz.laysC172 s hs hA _ w hv (.inr ⟨tp, p, rfl⟩)).mono fun _ _ ⟨N, he, _, _, hb⟩ => ⟨_, _, he, hb⟩
  · obtain ⟨tp, p, hv⟩ := hE.er
    exact (Any.strconv_Atoi_range Tryz.laysC172 s hs hA _ w hv (.inr ⟨tp, p, rfl⟩)).mono fun _ _ ⟨N, he, _, _, hb⟩ => ⟨_, _, he, hb⟩
theorem atoi_ok (s : ByteArray) (w : World) (v : Int) (hs : s.size ≤ 281474976710656) (h : Lib.atoiAll s.data.toList = .ok v) :
    Calls Tryz.prog 92 #[.string s] w fun e w' => e = .returned (.tuple #[.int .i64 v, .nilIface]) ∧ Below w.heap.size w w' :=
  (Tryz.strconv_Atoi_ok s (by omega) v h w).mono fun _ _ ⟨he, hw⟩ => ⟨he, by
    rcases hw with rfl | ⟨t, rfl⟩
    · exact Below.refl _ _
    · exact Lib.bytesWorld_below _ _ _⟩
theorem itoa_any (n : Int) (w : World) (hE : Env w) (h0 : -9223372036854775808 ≤ n) (h1 : n ≤ 9223372036854775807) :
    Calls Tryz.prog 93 #[.int .i64 n] w fun e w' => e = .returned (.string ⟨(Lib.itoa n).toArray⟩) ∧ Below w.heap.size w w' :=
  (Tryz.strconv_Itoa n h0 h1 w hE.tb).mono fun _ _ ⟨he, k, os, hw⟩ => ⟨he, by rw [hw]; exact Lib.below_grow _ _ (Nat.le_refl _) _ _⟩

theorem str_ne {l : List UInt8} {s : ByteArray} (h : l ≠ s.data.toList) : (l == s.toList) = false := by
  rw [beq_eq_false_iff_ne, Lib.toList_data]; exact h

set_option maxHeartbeats 1000000 in
theorem num_any (s : ByteArray) (least most : Int) (w : World) (hE : Env w) (hs : s.size ≤ 281474976710656) :
    Calls Tryz.prog 74 #[.string s, .int .i64 least, .int .i64 most] w fun e w' => e = .returned (numRet s least most) ∧ Below w.heap.size w w' := by
  by_cases hok : ∃ v, Lib.atoiAll s.data.toList = .ok v
  · obtain ⟨v, hA⟩ := hok
    obtain ⟨hb0, hb1⟩ := Lib.atoiAll_bounds hA
    have hsz := size_data s
    rcases Adr.num_ok _ _ hA with ⟨hn, hl, hv0, hi⟩ | ⟨hn, hbad⟩
    · have HA := Lib.hid hA; clear hA
      have Hi := Lib.hid hi; clear hi
      rw [hsz] at hl; clear hsz
      by_cases hin : least ≤ v ∧ v ≤ most
      · obtain ⟨hi1, hi2⟩ := hin
        have HR := Lib.hid (numRet_yes ((Adr.numIn_iff s.data.toList least most).2 (by rw [hn]; omega)))
        have Hn := Lib.hid hn; clear hn
        rcases Int.lt_or_le least 0 with hneg | hneg
        all_goals
          go_enter Tryz.func74, Tryz.ntmps74
          go_wp2_with fail
          refine (atoi_ok s _ v hs HA.out).mono ?_
          rintro e w1 ⟨rfl, hb1'⟩
          go_wp2_with fail
          refine (itoa_any v _ (hE.below hb1') hb0 hb1).mono ?_
          rintro e w2 ⟨rfl, hb2'⟩
          rw [Hi.out, mk_data]
          go_wp2_with fail
          go_ret2
          exact ⟨by rw [HR.out, Hn.out]; rfl, below_step hb1' hb2'⟩
      · have HR := Lib.hid (numRet_no (Adr.numIn_not (l := s.data.toList) (least := least) (most := most) (by rw [hn]; omega)))
        have Hn := Lib.hid hn; clear hn
        by_cases hi1 : least ≤ v
        · have hi2 : most < v := by omega
          clear hin
          rcases Int.lt_or_le least 0 with hneg | hneg
          all_goals
            go_enter Tryz.func74, Tryz.ntmps74
            go_wp2_with fail
            refine (atoi_ok s _ v hs HA.out).mono ?_
            rintro e w1 ⟨rfl, hb1'⟩
            go_wp2_with fail
            go_ret2
            exact ⟨by rw [HR.out]; rfl, hb1'⟩
        · have hi2 : v < least := by omega
          have hneg : 0 ≤ least := by omega
          clear hin hi1
          go_enter Tryz.func74, Tryz.ntmps74
          go_wp2_with fail
          refine (atoi_ok s _ v hs HA.out).mono ?_
          rintro e w1 ⟨rfl, hb1'⟩
          go_wp2_with fail
          go_ret2
          exact ⟨by rw [HR.out]; rfl, hb1'⟩
    · have HA := Lib.hid hA; clear hA
      have HR := Lib.hid (numRet_no (Adr.numIn_not (l := s.data.toList) (least := least) (most := most) (by rw [hn]; omega)))
      clear hn
      rw [hsz] at hbad; clear hsz
      by_cases hl : 10 < s.size
      · clear hbad
        go_enter Tryz.func74, Tryz.ntmps74
        go_wp2_with fail
        refine (atoi_ok s _ v hs HA.out).mono ?_
        rintro e w1 ⟨rfl, hb1'⟩
        go_wp2_with fail
        go_ret2
        exact ⟨by rw [HR.out]; rfl, hb1'⟩
      · have hl' : s.size ≤ 10 := by omega
        by_cases hv : v < 0
        · clear hbad hl
          rcases Int.lt_or_le least 0 with hneg | hneg
          all_goals
            go_enter Tryz.func74, Tryz.ntmps74
            go_wp2_with fail
            refine (atoi_ok s _ v hs HA.out).mono ?_
            rintro e w1 ⟨rfl, hb1'⟩
            go_wp2_with fail
            go_ret2
            exact ⟨by rw [HR.out]; rfl, hb1'⟩
        · have hv' : 0 ≤ v := by omega
          have hne := Lib.hid (str_ne (hbad.resolve_left hl |>.resolve_left hv))
          clear hbad hl hv
          rcases Int.lt_or_le v least with h1 | h1
          · have hneg : 0 ≤ least := by omega
            go_enter Tryz.func74, Tryz.ntmps74
            go_wp2_with fail
            refine (atoi_ok s _ v hs HA.out).mono ?_
            rintro e w1 ⟨rfl, hb1'⟩
            go_wp2_with fail
            go_ret2
            exact ⟨by rw [HR.out]; rfl, hb1'⟩
          · rcases Int.lt_or_le most v with h2 | h2
            · rcases Int.lt_or_le least 0 with hneg | hneg
              all_goals
                go_enter Tryz.func74, Tryz.ntmps74
                go_wp2_with fail
                refine (atoi_ok s _ v hs HA.out).mono ?_
                rintro e w1 ⟨rfl, hb1'⟩
                go_wp2_with fail
                go_ret2
                exact ⟨by rw [HR.out]; rfl, hb1'⟩
            · rcases Int.lt_or_le least 0 with hneg | hneg
              all_goals
                go_enter Tryz.func74, Tryz.ntmps74
                go_wp2_with fail
                refine (atoi_ok s _ v hs HA.out).mono ?_
                rintro e w1 ⟨rfl, hb1'⟩
                go_wp2_with fail
                refine (itoa_any v _ (hE.below hb1') hb0 hb1).mono ?_
                rintro e w2 ⟨rfl, hb2'⟩
                have hne' := hne.out
                go_wp2_with fail
                go_ret2
                exact ⟨by rw [HR.out]; rfl, below_step hb1' hb2'⟩
  · have HR := Lib.hid (numRet_no (Adr.numIn_not (l := s.data.toList) (least := least) (most := most) (by rw [Adr.num_bad _ (fun v e => hok ⟨v, e⟩)]; omega)))
    go_enter Tryz.func74, Tryz.ntmps74
    go_wp2_with fail
    refine (atoi_bad s _ hE hs (fun v e => hok ⟨v, e⟩)).mono ?_
    rintro e w1 ⟨v, p, rfl, hb1'⟩
    clear hok
    go_wp2_with fail
    go_ret2
    exact ⟨by rw [HR.out]; rfl, hb1'⟩
end Go.Proofs.YtlldjkhlhfnfeaaGreatDoor

namespace Mtr
open Go Go.Lib Adr
def fracOk (b : List UInt8) : Bool := decide (1 ≤ b.length) && decide (b.length ≤ 3) && b.all isDig && !(hasSuffix b [48])
def intOk (a : List UInt8) : Bool := canon a && decide (a.length ≤ 6)
def frac (b : List UInt8) : Nat := val b * 10 ^ (3 - b.length)
/-- The thousandths of a text without a sign. -/
def dec (t : List UInt8) : Option Nat :=
  match t.dropWhile isDig with
  | [] => if intOk (t.takeWhile isDig) then some (1000 * val (t.takeWhile isDig)) else none
  | c :: b => if intOk (t.takeWhile isDig) && (c == 46 && fracOk b) then some (1000 * val (t.takeWhile isDig) + frac b) else none
theorem all_take {p : UInt8 → Bool} : ∀ {l : List UInt8}, l.all p = true → l.takeWhile p = l ∧ l.dropWhile p = []
  | [], _ => ⟨rfl, rfl⟩
  | c :: r, h => by
    simp only [List.all_cons, Bool.and_eq_true] at h
    rw [List.takeWhile_cons, List.dropWhile_cons, h.1]
    have := all_take h.2
    exact ⟨by simp [this.1], by simp [this.2]⟩
theorem all_take_app {p : UInt8 → Bool} {c : UInt8} {b : List UInt8} (hc : p c = false) : ∀ {l : List UInt8}, l.all p = true → (l ++ c :: b).takeWhile p = l ∧ (l ++ c :: b).dropWhile p = c :: b
  | [], _ => by simp [hc]
  | d :: r, h => by
    simp only [List.all_cons, Bool.and_eq_true] at h
    have := all_take_app (b := b) hc h.2
    simp [h.1, this.1, this.2]
theorem take_drop_split {p : UInt8 → Bool} : ∀ (l : List UInt8), l = l.takeWhile p ++ l.dropWhile p := fun _l => List.takeWhile_append_dropWhile.symm
theorem int_digits {a : List UInt8} (h : intOk a = true) : a.all isDig = true := by
  unfold intOk at h; simp only [Bool.and_eq_true] at h; exact ((canon_iff a).1 h.1).2.2.1
theorem dig_46 : isDig 46 = false := by decide
/-- Without a point. -/
theorem dec_whole (t : List UInt8) (h : (46 : UInt8) ∉ t) : dec t = if intOk t then some (1000 * val t) else none := by
  unfold dec
  split
  · rename_i hd
    have ht : t.takeWhile isDig = t := by have := take_drop_split (p := isDig) t; rw [hd, List.append_nil] at this; exact this.symm
    rw [ht]
  · rename_i c b hd
    have hc : (c == 46) = false := by
      rw [beq_eq_false_iff_ne]; rintro rfl
      refine h ?_
      rw [take_drop_split (p := isDig) t, hd]; simp
    have hn : intOk t = false := by
      rw [Bool.eq_false_iff]; intro ht
      have := (all_take (int_digits ht)).2
      rw [this] at hd; cases hd
    rw [hc, hn]; simp
theorem drop_head (b : List UInt8) : ∀ a : List UInt8, (46 : UInt8) ∉ a → a.all isDig = false → ∃ c r, (a ++ 46 :: b).dropWhile isDig = c :: r ∧ c ≠ 46
  | [], _, h => by simp at h
  | d :: a, hn, h => by
    rw [List.mem_cons, not_or] at hn
    by_cases hd : isDig d = true
    · rw [List.all_cons, hd, Bool.true_and] at h
      obtain ⟨c, r, e, hc⟩ := drop_head b a hn.2 h
      exact ⟨c, r, by rw [List.cons_append, List.dropWhile_cons, hd]; exact e, hc⟩
    · exact ⟨d, a ++ 46 :: b, by rw [List.cons_append, List.dropWhile_cons, if_neg hd], fun e => hn.1 e.symm⟩
/-- With a point. -/
theorem dec_point (a b : List UInt8) (h : (46 : UInt8) ∉ a) : dec (a ++ 46 :: b) = if intOk a && fracOk b then some (1000 * val a + frac b) else none := by
  by_cases ha : a.all isDig = true
  · have := all_take_app (b := b) dig_46 ha
    unfold dec
    rw [this.2, this.1]
    simp
  · have hn : intOk a = false := by
      rw [Bool.eq_false_iff]; exact fun e => ha (int_digits e)
    rw [hn, Bool.false_and, if_neg (by decide)]
    obtain ⟨c, r, hd, hc⟩ := drop_head b a h (by simpa using ha)
    unfold dec
    rw [hd]
    show (if intOk _ && (c == 46 && fracOk r) then _ else none) = none
    rw [beq_eq_false_iff_ne.2 hc]; simp
theorem atoi_digits (l : List UInt8) (hne : l ≠ []) (hlen : l.length ≤ 10) (hd : l.all isDig = true) : atoiAll l = .ok (val l) := by
  cases l with
  | nil => exact absurd rfl hne
  | cons c r =>
    have hc := (isDig_iff c).1 (by simp only [List.all_cons, Bool.and_eq_true] at hd; exact hd.1)
    have hp : 10 ^ (c :: r).length ≤ 10 ^ 10 := Nat.pow_le_pow_right (by decide) hlen
    have hv := val_lt (c :: r) hd
    have e : parseUint10 0 (c :: r) = .ok (val (c :: r)) := parse_digits (c :: r) 0 hd (by simpa using hp)
    unfold atoiAll
    simp only
    rw [if_neg (by omega)]
    unfold parseMag
    rw [if_neg (by simp), e]
    simp only
    rw [if_neg (by omega), if_neg (by omega), if_neg (by omega)]
theorem repeat_all (n : Nat) : (repeatL [48] n).all isDig = true ∧ (repeatL [48] n).length = n := by
  induction n with
  | zero => exact ⟨rfl, rfl⟩
  | succ n ih => unfold repeatL; simp [ih.1, ih.2, isDig]
theorem valFrom_repeat (a n : Nat) : valFrom a (repeatL [48] n) = a * 10 ^ n := by
  induction n generalizing a with
  | zero => simp [repeatL, valFrom_nil]
  | succ n ih =>
    unfold repeatL
    rw [List.singleton_append, valFrom_cons, ih]
    show (10 * a + (48 - 48)) * 10 ^ n = _
    rw [Nat.pow_succ, Nat.sub_self, Nat.add_zero, Nat.mul_comm 10 a, Nat.mul_assoc, Nat.mul_comm 10]
theorem val_pad (b : List UInt8) (n : Nat) : val (b ++ repeatL [48] n) = val b * 10 ^ n := by
  unfold val; rw [valFrom_append, valFrom_repeat]
theorem frac_atoi {b : List UInt8} (h1 : 1 ≤ b.length) (h3 : b.length ≤ 3) (hd : b.all isDig = true) : atoiAll (b ++ repeatL [48] (3 - b.length)) = .ok (frac b) := by
  have hr := repeat_all (3 - b.length)
  rw [atoi_digits _ (by intro e; have := congrArg List.length e; rw [List.length_append, hr.2, List.length_nil] at this; omega) (by rw [List.length_append, hr.2]; omega) (by rw [List.all_append, hd, hr.1]; rfl), val_pad]
  rfl
def digits : List UInt8 := [48, 49, 50, 51, 52, 53, 54, 55, 56, 57]
theorem digits_has (c : UInt8) : digits.contains c = isDig c := by
  have : ∀ n : Fin 256, digits.contains (UInt8.ofNat n) = isDig (UInt8.ofNat n) := by decide +kernel
  have h := this ⟨c.toNat, c.toNat_lt⟩
  simpa using h
theorem dropWhile_nil {p : UInt8 → Bool} (l : List UInt8) : l.dropWhile p = [] ↔ l.all p = true := by
  induction l with
  | nil => simp
  | cons c r ih =>
    rw [List.dropWhile_cons, List.all_cons]
    by_cases h : p c = true
    · rw [if_pos h, ih, h, Bool.true_and]
    · rw [if_neg h]; simp [h]
theorem trim_nil (cs l : List UInt8) : trimS l cs = [] ↔ l.all (cs.contains ·) = true := by
  unfold trimS trimLeftS
  rw [dropWhile_nil]
  unfold trimRightS
  rw [List.all_reverse]
  constructor
  · intro h
    have h2 : (l.reverse.dropWhile (cs.contains ·)).all (cs.contains ·) = true := h
    have e := take_drop_split (p := (cs.contains ·)) l.reverse
    have : l.reverse.all (cs.contains ·) = true := by
      rw [e, List.all_append, h2, Bool.and_true]
      exact List.all_takeWhile
    simpa using this
  · intro h
    have : l.reverse.dropWhile (cs.contains ·) = [] := by rw [dropWhile_nil]; simpa using h
    rw [this]; rfl
theorem trim_digits (l : List UInt8) : trimS l digits = [] ↔ l.all isDig = true := by
  rw [trim_nil]
  rw [show (fun x => digits.contains x) = isDig from funext digits_has]
end Mtr

namespace Tre
open Go
def findGo (P : List ByteArray) : Nat → Nat → List Line → Option Nat
  | _, _, [] => none
  | p, i, l :: r =>
    if l.depth < (p : Int) then none
    else if (p : Int) < l.depth then findGo P p (i + 1) r
    else if (l.word.toList == (P.getD p ⟨#[]⟩).toList) = false then findGo P p (i + 1) r
    else if p + 1 = P.length then some i else findGo P (p + 1) (i + 1) r
def findB (L : List Line) (P : List ByteArray) : Option Nat := if P.length = 0 ∨ 16 < P.length then none else findGo P 0 0 L
def foundI (o : Option Nat) : Int := match o with | some i => (i : Int) | none => 0
theorem findGo_lt {P : List ByteArray} : ∀ {L : List Line} {p i j : Nat}, findGo P p i L = some j → i ≤ j ∧ j < i + L.length
  | [], _, _, _, h => by cases h
  | l :: r, p, i, j, h => by
    unfold findGo at h
    split at h
    · cases h
    split at h
    · have := findGo_lt h; simp; omega
    split at h
    · have := findGo_lt h; simp; omega
    split at h
    · cases h; simp
    · have := findGo_lt h; simp; omega
theorem findB_lt {P : List ByteArray} {L : List Line} {j : Nat} (h : findB L P = some j) : j < L.length := by
  unfold findB at h
  split at h
  · cases h
  · have := findGo_lt h; omega
end Tre
namespace Go.Proofs.YtlldjkhlhfnfeaaGreatDoor
open Go Go.RowKit Go.Sort Tre

set_option maxHeartbeats 2000000 in
set_option maxRecDepth 100000 in
theorem find_lines (A : Option Addr) (cap : Nat) (L : List Line) (Ap : Option Addr) (cp : Nat) (P : List ByteArray) (w : World) (hR : Rd w 3 A L.length (lines L)) (hcap : L.length ≤ cap) (hc : cap ≤ maxLen) (hr : rightB L = true) (hP : Rd w 1 Ap P.length (sv P)) (hcp : P.length ≤ cp) (_hc2 : cp ≤ maxLen) :
    Calls Tryz.prog 22 #[.slice A L.length cap, .slice Ap P.length cp] w fun e w' => e = .returned (.tuple #[.int .i64 (foundI (findB L P)), .bool (findB L P).isSome]) ∧ Below w.heap.size w w' := by
  have HC := Lib.hid (right_lines A cap L w hR hcap hc)
  have h200 := right_len hr
  have HR := Lib.hid hR
  have HP := Lib.hid hP
  have hRt : Hid (rightB L = true) := hr
  have HF0 : Hid (findB L P = if P.length = 0 ∨ 16 < P.length then none else findGo P 0 0 L) := rfl
  unfold maxLen at hc _hc2
  clear hR hr hP
  go_enter Tryz.func22, Tryz.ntmps22
  go_wp2_with fail
  refine HC.out.mono ?_
  rintro e w1 ⟨rfl, hb1⟩
  clear HC
  rw [hRt.out]
  by_cases h0 : P.length = 0
  · have HF : Hid (findB L P = none) := by show _ = _; rw [HF0.out, if_pos (.inl h0)]
    clear HF0
    have hP0 : P = [] := List.length_eq_zero_iff.1 h0
    subst hP0
    go_wp2
    exact bodyPost_ret (v := .tuple #[.int .i64 0, .bool false]) (by simp [results, Tryz.results22, go_sem]) rfl ⟨by rw [HF.out]; rfl, hb1⟩
  · by_cases h16 : 16 < P.length
    · have HF : Hid (findB L P = none) := by show _ = _; rw [HF0.out, if_pos (.inr h16)]
      clear HF0
      go_wp2
      exact bodyPost_ret (v := .tuple #[.int .i64 0, .bool false]) (by simp [results, Tryz.results22, go_sem]) rfl ⟨by rw [HF.out]; rfl, hb1⟩
    · have HF : Hid (findB L P = findGo P 0 0 L) := by show _ = _; rw [HF0.out, if_neg (by omega)]
      have hz : ¬ (16 : Int) < (P.length : Int) := by omega
      have hz0 : ((P.length : Int) == 0) = false := by rw [beq_eq_false_iff_ne]; omega
      clear HF0
      go_wp2
      go_loopw [6, 24] (fun vp vi wr => ∃ k p : Nat, vi = .int .i64 k ∧ vp = .int .i64 p ∧ k ≤ L.length ∧ p < P.length ∧ Hid (findB L P = findGo P p k (L.drop k)) ∧ Below w.heap.size w wr) (fun _ vi _ => L.length - (intOf vi).toNat)
      case atStart => exact ⟨0, 0, rfl, rfl, by omega, by omega, HF, hb1⟩
      case round =>
        clear hb1 HF
        obtain ⟨k, p, rfl, rfl, hk, hp, HQ, hb⟩ := hrel
        by_cases hlt : k < L.length
        · obtain ⟨B, O, rfl, hab, hadd, x0, x1, x2⟩ := (HR.out.below hb).line hlt
          obtain ⟨Bp, Op', rfl, hpb, hpadd, y0⟩ := (HP.out.below hb).strAt hp
          have hbx := line_box (w := wr) (T := 64) L[k] (Below.refl _ _)
          have hyx : (wr.alloc (.cells #[.int .i64 L[k].depth, .string L[k].word, .int .i64 L[k].mark] 64)).cell? ⟨Bp, Op' + p, none⟩ = some (.string P[p]) := by
            rw [World.cell?_alloc_lt _ _ _ hpb]; exact y0
          have hst : Hid (findB L P = if L[k].depth < (p : Int) then none else if (p : Int) < L[k].depth then findGo P p (k + 1) (L.drop (k + 1)) else if (L[k].word.toList == P[p].toList) = false then findGo P p (k + 1) (L.drop (k + 1)) else if p + 1 = P.length then some k else findGo P (p + 1) (k + 1) (L.drop (k + 1))) := by
            show _ = _
            rw [HQ.out, List.drop_eq_getElem_cons hlt, show P[p] = P.getD p ⟨#[]⟩ by simp [hp]]; rfl
          have hbb : Below w.heap.size w (wr.alloc (.cells #[.int .i64 L[k].depth, .string L[k].word, .int .i64 L[k].mark] 64)) := below_step hb ((Below.refl _ _).alloc (Nat.le_refl _) _)
          obtain ⟨b0, b1, b2⟩ := hbx
          have HB := Lib.hid hbb
          clear hb hbb HQ b2
          generalize L[k] = x at *
          obtain ⟨y, hy⟩ : ∃ y, P[p] = y := ⟨_, rfl⟩
          rw [hy] at hst hyx
          clear y0 hy
          by_cases hc1 : x.depth < (p : Int)
          · have HF : Hid (findB L P = none) := by show _ = _; rw [hst.out, if_pos hc1]
            clear hst
            go_wp2
            exact bodyPost_ret (v := .tuple #[.int .i64 0, .bool false]) (by simp [results, Tryz.results22, go_sem]) rfl ⟨by rw [HF.out]; rfl, HB.out⟩
          · by_cases hc2' : (p : Int) < x.depth
            · have HQ2 : Hid (findB L P = findGo P p (k + 1) (L.drop (k + 1))) := by show _ = _; rw [hst.out, if_neg hc1, if_pos hc2']
              have g1 : decide ((p : Int) < x.depth) = true := decide_eq_true hc2'
              clear hst
              go_wp2_with fail
              go_quiet (fail)
              go_wp2
              go_roundw
              case rel => exact ⟨k + 1, p, by go_num, rfl, by omega, hp, HQ2, below_drewN HB.out _⟩
              case measure => simp [intOf]; omega
            · have g1 : decide ((p : Int) < x.depth) = false := decide_eq_false hc2'
              cases g2 : x.word.toList == y.toList with
              | false =>
                have HQ2 : Hid (findB L P = findGo P p (k + 1) (L.drop (k + 1))) := by show _ = _; rw [hst.out, if_neg hc1, if_neg hc2', if_pos g2]
                clear hst
                go_wp2_with fail
                go_quiet (fail)
                go_wp2
                go_roundw
                case rel => exact ⟨k + 1, p, by go_num, rfl, by omega, hp, HQ2, below_drewN HB.out _⟩
                case measure => simp [intOf]; omega
              | true =>
                have g3 : ¬ (x.word.toList == y.toList) = false := by rw [g2]; decide
                by_cases hl : p + 1 = P.length
                · have HF : Hid (findB L P = some k) := by show _ = _; rw [hst.out, if_neg hc1, if_neg hc2', if_neg g3, if_pos hl]
                  have hlb : ((p : Int) == (P.length : Int) - 1) = true := by rw [beq_iff_eq]; omega
                  clear hst g3
                  go_wp2_with fail
                  go_quiet (fail)
                  go_wp2
                  exact bodyPost_ret (v := .tuple #[.int .i64 k, .bool true]) (by simp [results, Tryz.results22, go_sem]) rfl ⟨by rw [HF.out]; rfl, below_drewN HB.out _⟩
                · have HQ2 : Hid (findB L P = findGo P (p + 1) (k + 1) (L.drop (k + 1))) := by show _ = _; rw [hst.out, if_neg hc1, if_neg hc2', if_neg g3, if_neg hl]
                  have hlb : ((p : Int) == (P.length : Int) - 1) = false := by rw [beq_eq_false_iff_ne]; omega
                  clear hst g3
                  go_wp2_with fail
                  go_quiet (fail)
                  go_wp2
                  go_roundw
                  case rel => exact ⟨k + 1, p + 1, by go_num, by go_num, by omega, by omega, HQ2, below_drewN HB.out _⟩
                  case measure => simp [intOf]; omega
        · obtain rfl : k = L.length := by omega
          have HF : Hid (findB L P = none) := by show _ = _; rw [HQ.out, List.drop_length]; rfl
          clear HQ
          go_wp2
          exact bodyPost_ret (v := .tuple #[.int .i64 0, .bool false]) (by simp [results, Tryz.results22, go_sem]) rfl ⟨by rw [HF.out]; rfl, hb⟩
end Go.Proofs.YtlldjkhlhfnfeaaGreatDoor

namespace Tre
open Go
def smallB (L : List Line) : Bool := decide (L.length ≤ 220) && L.all fun l => decide (l.word.size ≤ 100)
def shortB (P : List ByteArray) : Bool := decide (P.length ≤ 40) && P.all fun l => decide (l.size ≤ 100)
/-- The places under z, by the reference. -/
def refKidsTo (L : List Line) (z : Int) (k : Nat) : List Nat := (List.range k).filter fun i => decide (underB L i = z)
def refKids (L : List Line) (z : Int) : List Nat := refKidsTo L z L.length
theorem refKidsTo_succ (L : List Line) (z : Int) (k : Nat) : refKidsTo L z (k + 1) = if underB L k = z then refKidsTo L z k ++ [k] else refKidsTo L z k := by
  unfold refKidsTo
  rw [List.range_succ, List.filter_append]
  by_cases hk : underB L k = z
  · rw [if_pos hk]; congr 1; simp [hk]
  · rw [if_neg hk]; simp [hk]
theorem refKidsTo_len (L : List Line) (z : Int) (k : Nat) : (refKidsTo L z k).length ≤ k := by
  unfold refKidsTo; exact Nat.le_trans (List.length_filter_le _ _) (by simp)
theorem mem_refKids {L : List Line} {z : Int} {i : Nat} : i ∈ refKids L z ↔ i < L.length ∧ underB L i = z := by
  unfold refKids refKidsTo; simp [List.mem_filter]
end Tre
namespace Go.Proofs.YtlldjkhlhfnfeaaGreatDoor
open Go Go.RowKit Go.Sort Tre

theorem bytes_same {a b : ByteArray} (h : a.toList = b.toList) : a = b := ByteArray.ext (Array.toList_inj.1 (by rwa [Lib.toList_data, Lib.toList_data] at h))
set_option maxHeartbeats 1000000 in
set_option maxRecDepth 100000 in
theorem refUnder_lines (A : Option Addr) (cap : Nat) (L : List Line) (n : Nat) (w : World) (hR : Rd w 3 A L.length (lines L)) (hcap : L.length ≤ cap) (hc : cap ≤ maxLen) (hn : n < L.length) :
    Calls Tryz.prog 68 #[.slice A L.length cap, .int .i64 n] w fun e w' => e = .returned (.int .i64 (underB L n)) ∧ Below w.heap.size w w' := by
  have hlen : L.length ≤ maxLen := by omega
  have HR := Lib.hid hR
  unfold maxLen at hc hlen
  have HU : Hid (∀ D, depthAt L n = D → underB L n = underFrom L D n) := fun D h => by rw [← h]; rfl
  obtain ⟨B, O, rfl, hab, hadd, x0, -, -⟩ := hR.line hn
  have hDn : Hid (depthAt L n = L[n].depth) := depthAt_lt hn
  obtain ⟨D, hD⟩ : ∃ D, L[n].depth = D := ⟨_, rfl⟩
  rw [hD] at x0
  have HF : Hid (underB L n = underFrom L D n) := HU.out D (hDn.out.trans hD)
  clear hR hD hDn HU
  go_enter Tryz.func68, Tryz.ntmps68
  go_wp2
  go_loopw [5, 6] (fun vo vk wr => ∃ (k : Nat) (z : Int), vo = .int .i64 z ∧ vk = .int .i64 k ∧ k ≤ n ∧ Hid (underFrom L D k = z) ∧ ∃ q, wr = w.drewN q) (fun _ vk _ => n - (intOf vk).toNat)
  case atStart => exact ⟨0, -1, rfl, rfl, by omega, rfl, 0, rfl⟩
  case round =>
    obtain ⟨k, z, rfl, rfl, hk, HQ, q, rfl⟩ := hrel
    by_cases hlt : k < n
    · have hpl : k < L.length := by omega
      obtain ⟨B', O', hA', -, hadd', y0, -, -⟩ := HR.out.line hpl
      injection hA' with hA'
      injection hA' with hBB hOO
      subst hBB hOO
      have hst : Hid (underFrom L D (k + 1) = if D ≤ L[k].depth then z else (k : Int)) := by
        show _ = _
        rw [← depthAt_lt hpl, ← HQ.out]; rfl
      generalize L[k].depth = E at *
      by_cases hDE : D ≤ E
      · have HQ2 : Hid (underFrom L D (k + 1) = z) := by show _ = _; rw [hst.out, if_pos hDE]
        have hdd : decide (E < D) = false := decide_eq_false (by omega)
        clear HQ hst
        go_wp2_with fail
        go_quiet (fail)
        go_wp2
        go_roundw
        case rel => exact ⟨k + 1, z, rfl, by go_num, by omega, HQ2, _, rfl⟩
        case measure => simp [intOf]; omega
      · have HQ2 : Hid (underFrom L D (k + 1) = (k : Int)) := by show _ = _; rw [hst.out, if_neg hDE]
        have hdd : decide (E < D) = true := decide_eq_true (by omega)
        clear HQ hst
        go_wp2_with fail
        go_quiet (fail)
        go_wp2
        go_roundw
        case rel => exact ⟨k + 1, k, rfl, by go_num, by omega, HQ2, _, rfl⟩
        case measure => simp [intOf]; omega
    · obtain rfl : k = n := by omega
      have HE : Hid (underB L k = z) := by show _ = _; rw [HF.out, HQ.out]
      clear HF HQ
      go_wp2
      go_ret
      exact ⟨ret_int HE.out.symm, below_drewN (Below.refl _ _) _⟩

set_option maxHeartbeats 1000000 in
set_option maxRecDepth 100000 in
theorem refEnd_lines (A : Option Addr) (cap : Nat) (L : List Line) (n : Nat) (w : World) (hR : Rd w 3 A L.length (lines L)) (hcap : L.length ≤ cap) (hc : cap ≤ maxLen) (hn : n < L.length) :
    Calls Tryz.prog 44 #[.slice A L.length cap, .int .i64 n] w fun e w' => e = .returned (.int .i64 (endB L n : Nat)) ∧ Below w.heap.size w w' := by
  have hlen : L.length ≤ maxLen := by omega
  have HR := Lib.hid hR
  unfold maxLen at hc hlen
  obtain ⟨B, O, rfl, hab, hadd, x0, -, -⟩ := hR.line hn
  have hDn : Hid (depthAt L n = L[n].depth) := depthAt_lt hn
  obtain ⟨D, hD⟩ : ∃ D, L[n].depth = D := ⟨_, rfl⟩
  rw [hD] at x0
  have hDD : Hid (endB L n = endFrom L D (n + 1)) := by show _ = _; unfold endB; rw [hDn.out, hD]
  clear hR hD hDn
  go_enter Tryz.func44, Tryz.ntmps44
  go_wp2
  go_loopw [5] (fun vk wr => ∃ k : Nat, vk = .int .i64 k ∧ n < k ∧ k ≤ L.length ∧ Hid (endFrom L D (n + 1) = endFrom L D k) ∧ ∃ q, wr = w.drewN q) (fun vk _ => L.length - (intOf vk).toNat)
  case atStart => exact ⟨n + 1, by go_num, by omega, by omega, rfl, 0, rfl⟩
  case round =>
    obtain ⟨k, rfl, hnk, hk, HQ, q, rfl⟩ := hrel
    by_cases hlt : k < L.length
    · obtain ⟨B', O', hA', -, hadd', y0, -, -⟩ := HR.out.line hlt
      injection hA' with hA'
      injection hA' with hBB hOO
      subst hBB hOO
      have hgo : Hid (D < L[k].depth → endFrom L D (n + 1) = endFrom L D (k + 1)) := fun hd => HQ.out.trans (endFrom_step hlt hd)
      have hno : Hid (¬ D < L[k].depth → endB L n = k) := fun hd => hDD.out.trans (HQ.out.trans (endFrom_stop hlt hd))
      generalize L[k].depth = E at *
      by_cases hDE : D < E
      · have HQ2 := Lib.hid (hgo.out hDE)
        have hdd : decide (E ≤ D) = false := decide_eq_false (by omega)
        clear HQ hgo hno hDD
        go_wp2_with fail
        go_quiet (fail)
        go_wp2
        go_roundw
        case rel => exact ⟨k + 1, by go_num, by omega, by omega, HQ2, _, rfl⟩
        case measure => simp [intOf]; omega
      · have HF := Lib.hid (hno.out hDE)
        have hdd : decide (E ≤ D) = true := decide_eq_true (by omega)
        clear HQ hgo hno hDD
        go_wp2_with fail
        go_quiet (fail)
        go_wp2
        go_ret
        exact ⟨ret_int (by simp [HF.out]), below_drewN (below_drewN (Below.refl _ _) _) _⟩
    · obtain rfl : k = L.length := by omega
      have HF : Hid (endB L n = L.length) := hDD.out.trans (HQ.out.trans endFrom_end)
      clear HQ hDD
      go_wp2
      go_ret
      exact ⟨ret_int (by simp [HF.out]), below_drewN (Below.refl _ _) _⟩

set_option maxHeartbeats 1000000 in
set_option maxRecDepth 100000 in
theorem refEqual_any (A : Option Addr) (cap : Nat) (P : List ByteArray) (A2 : Option Addr) (cap2 : Nat) (Q : List ByteArray) (w : World) (hP : Rd w 1 A P.length (sv P)) (hQ : Rd w 1 A2 Q.length (sv Q)) (hp : P.length ≤ maxLen) (_hq : Q.length ≤ maxLen) :
    Calls Tryz.prog 21 #[.slice A P.length cap, .slice A2 Q.length cap2] w fun e w' => e = .returned (.bool (decide (P = Q))) ∧ Below w.heap.size w w' := by
  have HP := Lib.hid hP
  have HQ := Lib.hid hQ
  clear hP hQ
  unfold maxLen at hp _hq
  go_enter Tryz.func21, Tryz.ntmps21
  by_cases hl : P.length = Q.length
  · have hl2 : ((P.length : Int) == (Q.length : Int)) = true := by rw [beq_iff_eq, hl]
    go_wp2
    go_loopw [5] (fun vk wr => ∃ k : Nat, vk = .int .i64 k ∧ k ≤ P.length ∧ Hid (P.take k = Q.take k) ∧ ∃ q, wr = w.drewN q) (fun vk _ => P.length - (intOf vk).toNat)
    case atStart => exact ⟨0, rfl, by omega, (show P.take 0 = Q.take 0 by simp), 0, rfl⟩
    case round =>
      obtain ⟨k, rfl, hk, HT, q, rfl⟩ := hrel
      by_cases hlt : k < P.length
      · obtain ⟨B, O, rfl, hab, hadd, x0⟩ := HP.out.strAt hlt
        have hlt2 : k < Q.length := by omega
        obtain ⟨B', O', rfl, hab', hadd', y0⟩ := HQ.out.strAt hlt2
        cases he : P[k].toList == Q[k].toList with
        | true =>
          have hpq : P[k] = Q[k] := by
            exact bytes_same (beq_iff_eq.1 he)
          have HT2 : Hid (P.take (k + 1) = Q.take (k + 1)) := by
            show _ = _
            rw [List.take_add_one, List.take_add_one, HT.out, List.getElem?_eq_getElem hlt, List.getElem?_eq_getElem hlt2, hpq]
          clear HT hpq
          go_wp2_with fail
          go_quiet (fail)
          go_wp2
          go_roundw
          case rel => exact ⟨k + 1, by go_num, by omega, HT2, _, rfl⟩
          case measure => simp [intOf]; omega
        | false =>
          have hne : Hid (decide (P = Q) = false) := decide_eq_false (fun e => by
            have h1 : P[k] = Q[k] := by simp [e]
            rw [h1] at he
            simp at he)
          clear HT
          go_wp2_with fail
          go_quiet (fail)
          go_wp2
          go_ret
          exact ⟨ret_bool (by rw [hne.out]), below_drewN (below_drewN (Below.refl _ _) _) _⟩
      · have HE : Hid (decide (P = Q) = true) := decide_eq_true (by
          have := HT.out
          rwa [List.take_of_length_le (by omega), List.take_of_length_le (by omega)] at this)
        go_wp2
        go_ret
        exact ⟨ret_bool (by rw [HE.out]), below_drewN (Below.refl _ _) _⟩
  · have hl2 : ((P.length : Int) == (Q.length : Int)) = false := by rw [beq_eq_false_iff_ne]; omega
    have hne : Hid (decide (P = Q) = false) := decide_eq_false (fun e => hl (by rw [e]))
    go_wp2
    go_ret
    exact ⟨ret_bool (by rw [hne.out]), Below.refl _ _⟩

set_option maxHeartbeats 1000000 in
set_option maxRecDepth 100000 in
theorem small_lines (A : Option Addr) (cap : Nat) (L : List Line) (w : World) (hR : Rd w 3 A L.length (lines L)) (_hcap : L.length ≤ cap) (_hc : cap ≤ maxLen) :
    Calls Tryz.prog 40 #[.slice A L.length cap] w fun e w' => e = .returned (.bool (smallB L)) ∧ Below w.heap.size w w' := by
  have HR := Lib.hid hR
  have HX : Hid (smallB L = (decide (L.length ≤ 220) && L.all fun l => decide (l.word.size ≤ 100))) := rfl
  clear hR
  unfold maxLen at _hc
  go_enter Tryz.func40, Tryz.ntmps40
  by_cases h1 : 220 < L.length
  · have hz : (220 : Int) < (L.length : Int) := by omega
    have HF : Hid (smallB L = false) := by show _ = _; rw [HX.out, decide_eq_false (by omega)]; rfl
    go_wp2
    go_ret
    exact ⟨ret_bool (by rw [HF.out]), Below.refl _ _⟩
  · have hz : ¬ (220 : Int) < (L.length : Int) := by omega
    have HX2 : Hid (smallB L = L.all fun l => decide (l.word.size ≤ 100)) := by show _ = _; rw [HX.out, decide_eq_true (by omega), Bool.true_and]
    clear HX
    go_wp2
    go_loopw [3] (fun vk wr => ∃ k : Nat, vk = .int .i64 k ∧ k ≤ L.length ∧ Hid (smallB L = (L.drop k).all fun l => decide (l.word.size ≤ 100)) ∧ wr = w) (fun vk _ => L.length - (intOf vk).toNat)
    case atStart => exact ⟨0, rfl, by omega, HX2, rfl⟩
    case round =>
      clear HX2
      obtain ⟨k, rfl, hk, HQ, rfl⟩ := hrel
      by_cases hlt : k < L.length
      · obtain ⟨B, O, rfl, hab, hadd, -, x1, -⟩ := HR.out.line hlt
        have hst : Hid (smallB L = (decide (L[k].word.size ≤ 100) && (L.drop (k + 1)).all fun l => decide (l.word.size ≤ 100))) := by
          show _ = _
          rw [HQ.out, List.drop_eq_getElem_cons hlt, List.all_cons]
        clear HQ
        generalize L[k].word = x at *
        by_cases hx : 100 < x.size
        · have hz2 : (100 : Int) < (x.size : Int) := by omega
          have HF : Hid (smallB L = false) := by show _ = _; rw [hst.out, decide_eq_false (by omega)]; rfl
          clear hst
          go_wp2
          go_ret
          exact ⟨ret_bool (by rw [HF.out]), Below.refl _ _⟩
        · have hz2 : ¬ (100 : Int) < (x.size : Int) := by omega
          have HQ2 : Hid (smallB L = (L.drop (k + 1)).all fun l => decide (l.word.size ≤ 100)) := by show _ = _; rw [hst.out, decide_eq_true (by omega), Bool.true_and]
          clear hst
          go_wp2_with fail
          go_roundw
          case rel => exact ⟨k + 1, by go_num, by omega, HQ2, by first | rfl | trivial⟩
          case measure => simp [intOf]; omega
      · have HF : Hid (smallB L = true) := by show _ = _; rw [HQ.out, List.drop_eq_nil_of_le (by omega)]; rfl
        clear HQ
        go_wp2
        go_ret
        exact ⟨ret_bool (by rw [HF.out]), Below.refl _ _⟩

set_option maxHeartbeats 1000000 in
set_option maxRecDepth 100000 in
theorem refKids_lines (A : Option Addr) (cap : Nat) (L : List Line) (z : Int) (w : World) (hR : Rd w 3 A L.length (lines L)) (hcap : L.length ≤ cap) (hc : cap ≤ maxLen) (h300 : L.length ≤ 300) :
    Calls Tryz.prog 45 #[.slice A L.length cap, .int .i64 z] w (KidsEnd w (refKids L z)) := by
  obtain ⟨i0, hi, hz0, hz1, hz2⟩ := info_parts info_i64
  have HU : Hid (∀ (k : Nat) W, Below w.heap.size w W → k < L.length → Calls Tryz.prog 68 #[.slice A L.length cap, .int .i64 k] W fun e w' => e = .returned (.int .i64 (underB L k)) ∧ Below W.heap.size W w') := fun k W hb hk => refUnder_lines A cap L k W (hR.below hb) hcap hc hk
  have HK : Hid (refKids L z = refKidsTo L z L.length) := rfl
  unfold maxLen at hc
  clear hR
  go_enter Tryz.func45, Tryz.ntmps45
  go_wp2
  go_loopw [5, 6] (fun v vk wr => ∃ k : Nat, vk = .int .i64 k ∧ k ≤ L.length ∧ wr.ownsRow w.heap.size 3 1 v (refKidsTo L z k).length (iv (refKidsTo L z k)) ∧ Below w.heap.size w wr) (fun _ vk _ => L.length - (intOf vk).toNat)
  case atStart => exact ⟨0, rfl, by omega, World.ownsRow_nil _ _ _ _, Below.refl _ _⟩
  case round =>
    obtain ⟨k, rfl, hk, hown, hb⟩ := hrel
    by_cases hlt : k < L.length
    · have hst : Hid (refKidsTo L z (k + 1) = if underB L k = z then refKidsTo L z k ++ [k] else refKidsTo L z k) := refKidsTo_succ L z k
      have hlen := refKidsTo_len L z k
      have HUk := Lib.hid (HU.out k wr hb hlt)
      generalize underB L k = x at *
      generalize refKidsTo L z k = sp at *
      go_wp2_with fail
      refine HUk.out.mono ?_
      rintro e w3 ⟨rfl, hb3⟩
      have hown3 := own_below hown hb3
      have hb4 := below_step hb hb3
      clear hown hb hb3 HUk
      by_cases hxD : x = z
      · have HT : Hid (refKidsTo L z (k + 1) = sp ++ [k]) := by show _ = _; rw [hst.out, if_pos hxD]
        have hxb : (x == z) = true := by rw [beq_iff_eq]; exact hxD
        clear hst hxD
        go_wp2_with (at_builtin; refine app_new rfl _ _ 39 rfl w w3 3 i0 _ 1 8 Tryz.underlying39 hi hz0 hz1 hz2 rfl (by decide) (by decide) hown3 hb4 rfl 1 1 [.int .i64 (k : Int)] rfl rfl (by simp; rfl) (by omega) ?_; intro v' w' hown' hb')
        go_roundw
        case rel =>
          refine ⟨k + 1, by go_num, by omega, ?_⟩
          rw [HT.out]
          first | exact ⟨own_push_iv hown', hb'⟩ | exact own_push_iv hown'
        case measure => simp [intOf]; omega
      · have HT : Hid (refKidsTo L z (k + 1) = sp) := by show _ = _; rw [hst.out, if_neg hxD]
        have hxb : (x == z) = false := by rw [beq_eq_false_iff_ne]; exact hxD
        clear hst
        go_wp2_with fail
        go_roundw
        case rel =>
          refine ⟨k + 1, by go_num, by omega, ?_⟩
          rw [HT.out]
          first | exact ⟨hown3, hb4⟩ | exact hown3
        case measure => simp [intOf]; omega
    · obtain rfl : k = L.length := by omega
      have hlen := refKidsTo_len L z L.length
      obtain ⟨A', c, rfl, hc1, hc2, hRd⟩ := rd_own hown
      have K : Hid (KidsEnd w (refKids L z) (.returned (.slice A' (refKidsTo L z L.length).length c)) wr) := by
        rw [HK.out]; exact ⟨A', c, rfl, hc1, hc2, hRd, hb⟩
      clear hown hRd hb HK
      go_wp2
      go_ret
      exact K.out
end Go.Proofs.YtlldjkhlhfnfeaaGreatDoor

namespace Tre
open Go
def refHit (L : List Line) (P : List ByteArray) (k : Nat) : Bool := decide (depthAt L k = (P.length : Int) - 1) && decide (pathB L k = P)
/-- The first place from k on that hits, n places. -/
def refFindFrom (L : List Line) (P : List ByteArray) (k : Nat) : Nat → Int
  | 0 => -1
  | n + 1 => if refHit L P k then (k : Int) else refFindFrom L P (k + 1) n
def refFind (L : List Line) (P : List ByteArray) : Int := refFindFrom L P 0 L.length
end Tre
namespace Go.Proofs.YtlldjkhlhfnfeaaGreatDoor
open Go Go.RowKit Go.Sort Tre

theorem own_lit (w : World) (base : Nat) (T : TypeId) (size : Nat) (hb : base ≤ w.heap.size) : (w.alloc (.cells #[] T)).ownsRow base T size (.slice (some ⟨w.heap.size, 0, none⟩) 0 0) 0 [] := by
  have := World.ownsRow_lit (e := T) (size := size) (base := base) w #[] 0 hb (by unfold maxLen; omega) (by simp)
  simpa using this
theorem app_src {P : Program} {ops : Array Oper} {rest : List Oper} {o : Oper} {a : Act} {Q : Exit → Act → World → Prop} (hgd : o.guard = none) (s x : Operand) (t : TypeId)
    (ho : o.op = .call { callee := .builtin .append, args := #[s, x], argTypes := #[t, t] })
    (w0 wr : World) (e : TypeId) (i : TypeInfo) (z : Value) (size bytes : Nat) (ht : P.underlying t = some (.slice e)) (hi : P.info? e = some i) (hz : i.zero = some z)
    (hsize : i.size = size) (hby : i.bytes = bytes) (hzs : z.cells.size = size) (hsz : 0 < size) (hb64 : bytes ≤ 64)
    {v : Value} {n : Nat} {xs : List Value} (hown : wr.ownsRow w0.heap.size e size v n xs) (hb : Below w0.heap.size w0 wr) (hs : a.eval s = v)
    (A : Option Addr) (m c : Nat) (news : List Value) (hx : a.eval x = .slice A m c) (hR : Rd wr size A m news) (hnil : A = none → c = 0) (h1 : ∀ u ∈ news, u.oneCell' = true)
    (hN : n + m ≤ 1000000000)
    (h : ∀ v' w', w'.ownsRow w0.heap.size e size v' (n + m) (xs ++ news) → Below w0.heap.size w0 w' → wpList P ops Q rest (a.put o.dst v') w') :
    wpList P ops Q (o :: rest) a wr := by
  have hbytes : (n + m) * bytes ≤ 140737488355328 := Nat.le_trans (Nat.mul_le_mul hN hb64) (by decide)
  rcases A with _ | ad
  · have hm : m = 0 := by
      rcases Nat.eq_zero_or_pos m with h0 | h0
      · exact h0
      · obtain ⟨ad, h, -⟩ := hR.2 h0
        cases h
    subst hm
    have hn : news = [] := List.eq_nil_of_length_eq_zero (by simpa using hR.1)
    subst hn
    obtain rfl := hnil rfl
    exact wpList_append_own_none hgd s x t ho w0.heap.size e i size ht hi v n xs hs hown hx (h v wr (by simpa using hown) hb)
  · refine wpList_append_own _ hgd s x t ho w0.heap.size e i z size bytes ht hi hz hsize hby hzs hsz v n xs hs hown ad m c news hx hR.1 ?_ h1 (by unfold maxLen; omega) hbytes hb.size ?_
    · intro j u hu
      obtain ⟨ad', e', -, hc⟩ := hR.cell hu
      injection e' with e'
      subst e'
      exact hc
    · intro v' w' hown' hg _
      exact h v' w' hown' (hb.grown hg hb.size fun q hq => (hown.lt q hq).1)
theorem own_rd_nil {w : World} {base : Nat} {e : TypeId} {k : Nat} {v : Value} {n : Nat} {xs : List Value} (h : w.ownsRow base e k v n xs) : ∃ A c, v = .slice A n c ∧ n ≤ c ∧ c ≤ maxLen ∧ Rd w k A n xs ∧ ((A = none → c = 0) ∧ Zd A) := by
  rcases h.2 with ⟨rfl, rfl⟩ | ⟨g, cap, cur, rfl, hg, hh, hnc, hcm, hsz, ht⟩
  · exact ⟨none, 0, rfl, Nat.le_refl _, by unfold maxLen; omega, Rd.of_own (base := base) (e := e) (c := 0) h, fun _ => rfl, zd_none⟩
  · exact ⟨some ⟨g, 0, none⟩, cap, rfl, hnc, hcm, Rd.of_own h, (fun h => by cases h), zd_some g⟩

theorem own_base {w : World} {base b2 : Nat} {e : TypeId} {k : Nat} {v : Value} {n : Nat} {xs : List Value} (h : w.ownsRow base e k v n xs) (hb : b2 ≤ base) : w.ownsRow b2 e k v n xs :=
  ⟨h.1, h.2.imp id fun ⟨g, cap, cur, h1, h2, h3⟩ => ⟨g, cap, cur, h1, Nat.le_trans hb h2, h3⟩⟩

def StrsEnd (w : World) (P : List ByteArray) (e : Ending) (w' : World) : Prop :=
  ∃ A c, e = .returned (.slice A P.length c) ∧ P.length ≤ c ∧ c ≤ maxLen ∧ Rd w' 1 A P.length (sv P) ∧ ((A = none → c = 0) ∧ Zd A) ∧ Below w.heap.size w w'

set_option maxHeartbeats 2000000 in
set_option maxRecDepth 100000 in
theorem refPath_lines (A : Option Addr) (cap : Nat) (L : List Line) (n : Nat) (w : World) (hR : Rd w 3 A L.length (lines L)) (hcap : L.length ≤ cap) (hc : cap ≤ maxLen) (h300 : L.length ≤ 300) (hn : n < L.length) :
    Calls Tryz.prog 41 #[.slice A L.length cap, .int .i64 n] w (StrsEnd w (pathB L n)) := by
  obtain ⟨i0, hi, hz0, hz1, hz2⟩ := info_parts info_string
  have HU : Hid (∀ (k : Nat) W, Below w.heap.size w W → k < L.length → Calls Tryz.prog 68 #[.slice A L.length cap, .int .i64 k] W fun e w' => e = .returned (.int .i64 (underB L k)) ∧ Below W.heap.size W w') := fun k W hb hk => refUnder_lines A cap L k W (hR.below hb) hcap hc hk
  have HP0 : Hid (pathB L n = (ups L (n + 1)).reverse ++ []) := by show _ = _; rw [List.append_nil]; rfl
  have HR := Lib.hid hR
  unfold maxLen at hc
  clear hR
  go_enter Tryz.func41, Tryz.ntmps41
  go_wp2
  go_loopw [1, 5] (fun vk v wr => ∃ (k : Nat) (z : Int) (O : List ByteArray), vk = .int .i64 z ∧ z + 1 = (k : Int) ∧ k ≤ n + 1 ∧ Hid (pathB L n = (ups L k).reverse ++ O) ∧ O.length + k ≤ n + 1 ∧ wr.ownsRow w.heap.size 9 1 v O.length (sv O) ∧ Below w.heap.size w wr) (fun vk _ _ => (intOf vk + 1).toNat)
  case atStart => exact ⟨n + 1, n, [], rfl, by omega, by omega, HP0, by simp, World.ownsRow_nil _ _ _ _, Below.refl _ _⟩
  case round =>
    clear HP0
    obtain ⟨k, z, O, rfl, hzk, hk, HQ, hO, hown, hb⟩ := hrel
    obtain ⟨A', c, rfl, hc1, hc2, hRd, hnz⟩ := own_rd_nil hown
    have hnil := hnz.1
    by_cases hk0 : k = 0
    · have hz : z = -1 := by omega
      subst hz
      have HF : Hid (O = pathB L n) := by
        show _ = _
        rw [HQ.out, hk0, ups_zero]; rfl
      have K : Hid (StrsEnd w (pathB L n) (.returned (.slice A' O.length c)) wr) := by
        rw [← HF.out]
        exact ⟨A', c, rfl, hc1, hc2, hRd, hnz, hb⟩
      clear HQ hzk HU HR HF hown hRd hb hc1 hc2 hnil hnz
      go_wp2
      go_ret
      exact K.out
    · obtain ⟨p, rfl⟩ : ∃ p, k = p + 1 := ⟨k - 1, by omega⟩
      obtain rfl : z = (p : Int) := by omega
      have hpl : p < L.length := by omega
      obtain ⟨B, Of, rfl, hab, hadd, -, x1, -⟩ := (HR.out.below hb).line hpl
      have hst : Hid (ups L (p + 1) = L[p].word :: ups L (underB L p + 1).toNat) := by
        show _ = _
        rw [ups_succ, wordAt_lt hpl]
      have hul := underB_lt L p
      have HUp := Lib.hid (fun W hb => HU.out p W hb hpl)
      generalize L[p].word = x at *
      generalize underB L p = u at *
      have HQ2 : Hid (pathB L n = (ups L (u + 1).toNat).reverse ++ ([x] ++ O)) := by
        show _ = _
        rw [HQ.out, hst.out, List.reverse_cons, List.append_assoc]
      have hbA : ∀ W, Below wr.heap.size wr W → Rd W 1 A' O.length (sv O) := fun W h => hRd.below h
      clear HQ hst HU hown hnz
      go_wp2_with (at_builtin; first | (refine app_src rfl _ _ 26 rfl wr w1 9 i0 _ 1 16 Tryz.underlying26 hi hz0 hz1 hz2 rfl (by decide) (by decide) hown1 hb1 rfl A' O.length c (sv O) rfl (hbA _ hb1) hnil (sv_one O) (by omega) ?_; intro v2 w2 hown2 hb2) | (refine app_new rfl _ _ 26 rfl wr wr 9 i0 _ 1 16 Tryz.underlying26 hi hz0 hz1 hz2 rfl (by decide) (by decide) (World.ownsRow_nil _ _ _ _) (Below.refl _ _) rfl 1 1 [.string x] rfl rfl (by simp; rfl) (by omega) ?_; intro v1 w1 hown1 hb1))
      have hb3 := below_step hb hb2
      refine (HUp.out _ hb3).mono ?_
      rintro e w3 ⟨rfl, hb4⟩
      have hown3 : w3.ownsRow w.heap.size 9 1 v2 ([x] ++ O).length (sv ([x] ++ O)) := by
        have h := own_below (own_base hown2 hb.size) hb4
        rw [show 0 + 1 + O.length = ([x] ++ O).length by simp; omega] at h
        exact h
      have hb5 := below_step hb3 hb4
      clear hb hbA hown1 hb1 hown2 hb2 hb3 hb4 HUp x1 hadd hab hRd hnil hc1 hc2
      go_wp2_with fail
      go_roundw
      case rel =>
        refine ⟨(u + 1).toNat, u, [x] ++ O, rfl, by omega, by omega, HQ2, by simp; omega, ?_⟩
        first | exact ⟨hown3, hb5⟩ | exact hown3
      case measure => simp [intOf]; omega

set_option maxHeartbeats 2000000 in
set_option maxRecDepth 100000 in
theorem refFind_lines (A : Option Addr) (cap : Nat) (L : List Line) (Ap : Option Addr) (cp : Nat) (P : List ByteArray) (w : World) (hR : Rd w 3 A L.length (lines L)) (hcap : L.length ≤ cap) (hc : cap ≤ maxLen) (h300 : L.length ≤ 300) (hP : Rd w 1 Ap P.length (sv P)) (hcp : P.length ≤ maxLen) :
    Calls Tryz.prog 17 #[.slice A L.length cap, .slice Ap P.length cp] w fun e w' => e = .returned (.int .i64 (refFind L P)) ∧ Below w.heap.size w w' := by
  have HPa : Hid (∀ (k : Nat) W, Below w.heap.size w W → k < L.length → Calls Tryz.prog 41 #[.slice A L.length cap, .int .i64 k] W (StrsEnd W (pathB L k))) := fun k W hb hk => refPath_lines A cap L k W (hR.below hb) hcap hc h300 hk
  have HEq : Hid (∀ (A2 : Option Addr) (c2 : Nat) (Q : List ByteArray) W, Below w.heap.size w W → Q.length ≤ maxLen → Rd W 1 A2 Q.length (sv Q) → Calls Tryz.prog 21 #[.slice A2 Q.length c2, .slice Ap P.length cp] W fun e w' => e = .returned (.bool (decide (Q = P))) ∧ Below W.heap.size W w') := fun A2 c2 Q W hb hq hQ => refEqual_any A2 c2 Q Ap cp P W hQ (hP.below hb) hq hcp
  have HR := Lib.hid hR
  have HX : Hid (refFind L P = refFindFrom L P 0 (L.length - 0)) := rfl
  unfold maxLen at hc hcp
  clear hR hP
  go_enter Tryz.func17, Tryz.ntmps17
  go_wp2
  go_loopw [5] (fun vk wr => ∃ k : Nat, vk = .int .i64 k ∧ k ≤ L.length ∧ Hid (refFind L P = refFindFrom L P k (L.length - k)) ∧ Below w.heap.size w wr) (fun vk _ => L.length - (intOf vk).toNat)
  case atStart => exact ⟨0, rfl, by omega, HX, Below.refl _ _⟩
  case round =>
    clear HX
    obtain ⟨k, rfl, hk, HQ, hb⟩ := hrel
    by_cases hlt : k < L.length
    · obtain ⟨B, Of, rfl, hab, hadd, x0, -, -⟩ := (HR.out.below hb).line hlt
      have hst : Hid (refFind L P = if refHit L P k then (k : Int) else refFindFrom L P (k + 1) (L.length - (k + 1))) := by
        show _ = _
        rw [HQ.out, show L.length - k = (L.length - (k + 1)) + 1 by omega]; rfl
      have HH : Hid (refHit L P k = (decide (L[k].depth = (P.length : Int) - 1) && decide (pathB L k = P))) := by show _ = _; rw [← depthAt_lt hlt]; rfl
      have HPk := Lib.hid (fun W hb => HPa.out k W hb hlt)
      have hpl := pathB_len L k
      generalize L[k].depth = x at *
      by_cases hx : x = (P.length : Int) - 1
      · have hxb : (x == (P.length : Int) - 1) = true := by rw [beq_iff_eq]; exact hx
        have HH2 : Hid (refHit L P k = decide (pathB L k = P)) := by show _ = _; rw [HH.out, decide_eq_true hx]; rfl
        have hst2 : Hid (refFind L P = if decide (pathB L k = P) then (k : Int) else refFindFrom L P (k + 1) (L.length - (k + 1))) := by show _ = _; rw [hst.out, HH2.out]
        have HB := Lib.hid hb
        clear hx HH HQ HH2 hst HPa hb
        generalize pathB L k = pk at *
        go_wp2_with fail
        refine (HPk.out _ HB.out).mono ?_
        rintro e w2 ⟨A2, c2, rfl, hc1, hc2, hRd, -, hb2⟩
        have hb3 := below_step HB.out hb2
        have hEq := Lib.hid (HEq.out A2 c2 pk w2 hb3 (by omega) hRd)
        have HB3 := Lib.hid hb3
        clear HPk HB hb2 hRd hb3 x0
        go_wp2_with fail
        refine hEq.out.mono ?_
        rintro e w3 ⟨rfl, hb4⟩
        have hb5 := below_step HB3.out hb4
        have HB5 := Lib.hid hb5
        clear hEq HB3 hb4 hb5
        cases hd : decide (pk = P) with
        | true =>
          have HF : Hid (refFind L P = (k : Int)) := by show _ = _; rw [hst2.out, hd]; rfl
          clear hst2 hd
          go_wp2
          go_ret
          exact ⟨ret_int HF.out.symm, HB5.out⟩
        | false =>
          have HF : Hid (refFind L P = refFindFrom L P (k + 1) (L.length - (k + 1))) := by show _ = _; rw [hst2.out, hd]; rfl
          clear hst2 hd
          go_wp2_with fail
          go_roundw
          case rel => exact ⟨k + 1, by go_num, by omega, HF, HB5.out⟩
          case measure => simp [intOf]; omega
      · have hxb : (x == (P.length : Int) - 1) = false := by rw [beq_eq_false_iff_ne]; exact hx
        have HF : Hid (refFind L P = refFindFrom L P (k + 1) (L.length - (k + 1))) := by show _ = _; rw [hst.out, HH.out, decide_eq_false hx]; rfl
        have HB := Lib.hid hb
        clear hx HH HQ hst HPa hb HPk HEq
        go_wp2_with fail
        go_roundw
        case rel => exact ⟨k + 1, by go_num, by omega, HF, HB.out⟩
        case measure => simp [intOf]; omega
    · obtain rfl : k = L.length := by omega
      have HF : Hid (refFind L P = -1) := by show _ = _; rw [HQ.out, Nat.sub_self]; rfl
      clear HQ
      go_wp2
      go_ret
      exact ⟨ret_int HF.out.symm, hb⟩
end Go.Proofs.YtlldjkhlhfnfeaaGreatDoor
