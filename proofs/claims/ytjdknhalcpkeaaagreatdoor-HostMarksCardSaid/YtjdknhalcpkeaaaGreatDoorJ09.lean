/- A walk: addr.Num, by the shelf's contracts of strconv.Atoi and strconv.Itoa. Plain facts: the thousandths of a metric's text. No program in sight. strconv.ParseUint at base 16 and 48 bits, over any program that holds its text: what Adr.parseMac says; of what was there nothing turns. -/
import Derived.Lib.AtoiAllCases
import Derived.Lib.Repeat
import Derived.Lib.Strings
import Derived.Lib.SlTrimSet
import Derived.Shelf.Pu.Lays
import Derived.Shelf.Pu.Lower
import Derived.Shelf.Pu.ParseUintEmpty
import Derived.Shelf.Pu.ToError
import Derived.Shelf.Pu.ToErrorRange
import Derived.Lib.Walk
import Derived.Lib.ConvBytes
import Derived.Lib.AtoiErrMem
import Derived.Lib.AtoiAllMem
import Derived.Lib.ParseIntBMem
import Derived.Lib.Hide
import Derived.Laws.Strings3
import Derived.Laws.Closers25
import Derived.Laws.Closers25b
import Derived.WalkKit
import Derived.BigCall
import Derived.BigGuard
import Derived.Test.YtjdknhalcpkeaaaGreatDoorJ03
import Derived.Test.YtjdknhalcpkeaaaGreatDoorJ01
import Derived.Test.YtjdknhalcpkeaaaGreatDoorJ08
import Derived.Test.YtjdknhalcpkeaaaGreatDoorJ00
namespace Adr
open Go Go.Lib
def numIn (l : List UInt8) (least most : Int) : Bool := decide (0 ≤ num l) && decide (least ≤ num l) && decide (num l ≤ most)
theorem numIn_iff (l : List UInt8) (least most : Int) : numIn l least most = true ↔ 0 ≤ num l ∧ least ≤ num l ∧ num l ≤ most := by
 unfold numIn; simp only [Bool.and_eq_true, decide_eq_true_eq]; omega
theorem numIn_not {l : List UInt8} {least most : Int} (h : ¬ (0 ≤ num l ∧ least ≤ num l ∧ num l ≤ most)) : numIn l least most = false := by
 rw [Bool.eq_false_iff]; exact fun e => h ((numIn_iff _ _ _).1 e)
theorem num_bad (l : List UInt8) (h : ∀ v, atoiAll l ≠ .ok v) : num l = -1 := by
 refine num_of_not ?_
 rw [Bool.eq_false_iff]
 exact fun e => h _ (atoi_canon l e)
theorem num_ok (l : List UInt8) (v : Int) (h : atoiAll l = .ok v) : (num l = v ∧ l.length ≤ 10 ∧ 0 ≤ v ∧ itoa v = l) ∨ (num l = -1 ∧ (10 < l.length ∨ v < 0 ∨ itoa v ≠ l)) := by
 cases hc : canon l with
 | true =>
   left
   have h1 := atoi_canon l hc
   rw [h] at h1
   injection h1 with h1
   subst h1
   exact ⟨num_of_canon hc, ((canon_iff l).1 hc).2.1, by omega, itoa_val l hc⟩
 | false =>
   right
   refine ⟨num_of_not hc, ?_⟩
   by_cases h1 : 10 < l.length
   · exact .inl h1
   · by_cases h2 : v < 0
     · exact .inr (.inl h2)
     · refine .inr (.inr fun e => ?_)
       rw [(canon_of_itoa l v (by omega) (by omega) e).1] at hc
       cases hc
end Adr
namespace Go.Proofs.YtjdknhalcpkeaaaGreatDoor
open Go.RowKit
def numRet (s : ByteArray) (least most : Int) : Value := .tuple #[.int .i64 (if Adr.numIn s.data.toList least most then Adr.num s.data.toList else 0), .bool (Adr.numIn s.data.toList least most)]
theorem numRet_yes {s : ByteArray} {least most : Int} (h : Adr.numIn s.data.toList least most = true) : numRet s least most = .tuple #[.int .i64 (Adr.num s.data.toList), .bool true] := by
 unfold numRet; rw [h]; rfl
theorem numRet_no {s : ByteArray} {least most : Int} (h : Adr.numIn s.data.toList least most = false) : numRet s least most = .tuple #[.int .i64 0, .bool false] := by
 unfold numRet; rw [h]; rfl
theorem atoi_bad (s : ByteArray) (w : World) (hE : Env w) (hs : s.size ≤ 281474976710656) (h : ∀ v, Lib.atoiAll s.data.toList ≠ .ok v) :
 Calls Tryz.prog 210 #[.string s] w fun e w' => ∃ v p, e = .returned (.tuple #[.int .i64 v, .iface 243 p]) ∧ Below w.heap.size w w' := by
 rcases hA : Lib.atoiAll s.data.toList with v | _ | _
 · exact absurd hA (h v)
 · obtain ⟨tp, p, hv⟩ := hE.es
   exact (Any.strconv_Atoi_syntax Tryz.laysC172 s hs hA _ w hv (.inr ⟨tp, p, rfl⟩)).mono fun _ _ ⟨N, he, _, _, hb⟩ => ⟨_, _, he, hb⟩
 · obtain ⟨tp, p, hv⟩ := hE.er
   exact (Any.strconv_Atoi_range Tryz.laysC172 s hs hA _ w hv (.inr ⟨tp, p, rfl⟩)).mono fun _ _ ⟨N, he, _, _, hb⟩ => ⟨_, _, he, hb⟩
theorem atoi_ok (s : ByteArray) (w : World) (v : Int) (hs : s.size ≤ 281474976710656) (h : Lib.atoiAll s.data.toList = .ok v) :
 Calls Tryz.prog 210 #[.string s] w fun e w' => e = .returned (.tuple #[.int .i64 v, .nilIface]) ∧ Below w.heap.size w w' :=
 (Tryz.strconv_Atoi_ok s (by omega) v h w).mono fun _ _ ⟨he, hw⟩ => ⟨he, by
  rcases hw with rfl | ⟨t, rfl⟩
  · exact Below.refl _ _
  · exact Lib.bytesWorld_below _ _ _⟩
theorem itoa_any (n : Int) (w : World) (hE : Env w) (h0 : -9223372036854775808 ≤ n) (h1 : n ≤ 9223372036854775807) :
 Calls Tryz.prog 211 #[.int .i64 n] w fun e w' => e = .returned (.string ⟨(Lib.itoa n).toArray⟩) ∧ Below w.heap.size w w' :=
 (Tryz.strconv_Itoa n h0 h1 w hE.tb).mono fun _ _ ⟨he, k, os, hw⟩ => ⟨he, by rw [hw]; exact Lib.below_grow _ _ (Nat.le_refl _) _ _⟩
theorem str_ne {l : List UInt8} {s : ByteArray} (h : l ≠ s.data.toList) : (l == s.toList) = false := by
 rw [beq_eq_false_iff_ne, Lib.toList_data]; exact h
set_option maxHeartbeats 1000000 in
theorem num_any (s : ByteArray) (least most : Int) (w : World) (hE : Env w) (hs : s.size ≤ 281474976710656) :
 Calls Tryz.prog 194 #[.string s, .int .i64 least, .int .i64 most] w fun e w' => e = .returned (numRet s least most) ∧ Below w.heap.size w w' := by
 by_cases hok : ∃ v, Lib.atoiAll s.data.toList = .ok v
 · obtain ⟨v, hA⟩ := hok
   obtain ⟨hb0, hb1⟩ := Lib.atoiAll_bounds hA
   have hsz := size_data s
   rcases Adr.num_ok _ _ hA with ⟨hn, hl, hv0, hi⟩ | ⟨hn, hbad⟩
   · have HA := Lib.hid hA; clear hA
     have Hi := Lib.hid hi; clear hi
     rw [hsz] at hl; clear hsz
     by_cases hin : least ≤ v ∧ v ≤ most
     · obtain ⟨hi1, hi2⟩ := hin
       have HR := Lib.hid (numRet_yes ((Adr.numIn_iff s.data.toList least most).2 (by rw [hn]; omega)))
       have Hn := Lib.hid hn; clear hn
       rcases Int.lt_or_le least 0 with hneg | hneg
       all_goals
        go_enter Tryz.func194, Tryz.ntmps194
        go_wp2_with fail
        refine (atoi_ok s _ v hs HA.out).mono ?_
        rintro e w1 ⟨rfl, hb1'⟩
        go_wp2_with fail
        refine (itoa_any v _ (hE.below hb1') hb0 hb1).mono ?_
        rintro e w2 ⟨rfl, hb2'⟩
        rw [Hi.out, mk_data]
        go_wp2_with fail
        go_ret2
        exact ⟨by rw [HR.out, Hn.out]; rfl, below_step hb1' hb2'⟩
     · have HR := Lib.hid (numRet_no (Adr.numIn_not (l := s.data.toList) (least := least) (most := most) (by rw [hn]; omega)))
       have Hn := Lib.hid hn; clear hn
       by_cases hi1 : least ≤ v
       · have hi2 : most < v := by omega
         clear hin
         rcases Int.lt_or_le least 0 with hneg | hneg
         all_goals
          go_enter Tryz.func194, Tryz.ntmps194
          go_wp2_with fail
          refine (atoi_ok s _ v hs HA.out).mono ?_
          rintro e w1 ⟨rfl, hb1'⟩
          go_wp2_with fail
          go_ret2
          exact ⟨by rw [HR.out]; rfl, hb1'⟩
       · have hi2 : v < least := by omega
         have hneg : 0 ≤ least := by omega
         clear hin hi1
         go_enter Tryz.func194, Tryz.ntmps194
         go_wp2_with fail
         refine (atoi_ok s _ v hs HA.out).mono ?_
         rintro e w1 ⟨rfl, hb1'⟩
         go_wp2_with fail
         go_ret2
         exact ⟨by rw [HR.out]; rfl, hb1'⟩
   · have HA := Lib.hid hA; clear hA
     have HR := Lib.hid (numRet_no (Adr.numIn_not (l := s.data.toList) (least := least) (most := most) (by rw [hn]; omega)))
     clear hn
     rw [hsz] at hbad; clear hsz
     by_cases hl : 10 < s.size
     · clear hbad
       go_enter Tryz.func194, Tryz.ntmps194
       go_wp2_with fail
       refine (atoi_ok s _ v hs HA.out).mono ?_
       rintro e w1 ⟨rfl, hb1'⟩
       go_wp2_with fail
       go_ret2
       exact ⟨by rw [HR.out]; rfl, hb1'⟩
     · have hl' : s.size ≤ 10 := by omega
       by_cases hv : v < 0
       · clear hbad hl
         rcases Int.lt_or_le least 0 with hneg | hneg
         all_goals
          go_enter Tryz.func194, Tryz.ntmps194
          go_wp2_with fail
          refine (atoi_ok s _ v hs HA.out).mono ?_
          rintro e w1 ⟨rfl, hb1'⟩
          go_wp2_with fail
          go_ret2
          exact ⟨by rw [HR.out]; rfl, hb1'⟩
       · have hv' : 0 ≤ v := by omega
         have hne := Lib.hid (str_ne (hbad.resolve_left hl |>.resolve_left hv))
         clear hbad hl hv
         rcases Int.lt_or_le v least with h1 | h1
         · have hneg : 0 ≤ least := by omega
           go_enter Tryz.func194, Tryz.ntmps194
           go_wp2_with fail
           refine (atoi_ok s _ v hs HA.out).mono ?_
           rintro e w1 ⟨rfl, hb1'⟩
           go_wp2_with fail
           go_ret2
           exact ⟨by rw [HR.out]; rfl, hb1'⟩
         · rcases Int.lt_or_le most v with h2 | h2
           · rcases Int.lt_or_le least 0 with hneg | hneg
             all_goals
              go_enter Tryz.func194, Tryz.ntmps194
              go_wp2_with fail
              refine (atoi_ok s _ v hs HA.out).mono ?_
              rintro e w1 ⟨rfl, hb1'⟩
              go_wp2_with fail
              go_ret2
              exact ⟨by rw [HR.out]; rfl, hb1'⟩
           · rcases Int.lt_or_le least 0 with hneg | hneg
             all_goals
              go_enter Tryz.func194, Tryz.ntmps194
              go_wp2_with fail
              refine (atoi_ok s _ v hs HA.out).mono ?_
              rintro e w1 ⟨rfl, hb1'⟩
              go_wp2_with fail
              refine (itoa_any v _ (hE.below hb1') hb0 hb1).mono ?_
              rintro e w2 ⟨rfl, hb2'⟩
              have hne' := hne.out
              go_wp2_with fail
              go_ret2
              exact ⟨by rw [HR.out]; rfl, below_step hb1' hb2'⟩
 · have HR := Lib.hid (numRet_no (Adr.numIn_not (l := s.data.toList) (least := least) (most := most) (by rw [Adr.num_bad _ (fun v e => hok ⟨v, e⟩)]; omega)))
   go_enter Tryz.func194, Tryz.ntmps194
   go_wp2_with fail
   refine (atoi_bad s _ hE hs (fun v e => hok ⟨v, e⟩)).mono ?_
   rintro e w1 ⟨v, p, rfl, hb1'⟩
   clear hok
   go_wp2_with fail
   go_ret2
   exact ⟨by rw [HR.out]; rfl, hb1'⟩
end Go.Proofs.YtjdknhalcpkeaaaGreatDoor
namespace Mtr
open Go Go.Lib Adr
def fracOk (b : List UInt8) : Bool := decide (1 ≤ b.length) && decide (b.length ≤ 3) && b.all isDig && !(hasSuffix b [48])
def intOk (a : List UInt8) : Bool := canon a && decide (a.length ≤ 6)
def frac (b : List UInt8) : Nat := val b * 10 ^ (3 - b.length)
def dec (t : List UInt8) : Option Nat :=
 match t.dropWhile isDig with
 | [] => if intOk (t.takeWhile isDig) then some (1000 * val (t.takeWhile isDig)) else none
 | c :: b => if intOk (t.takeWhile isDig) && (c == 46 && fracOk b) then some (1000 * val (t.takeWhile isDig) + frac b) else none
theorem all_take {p : UInt8 → Bool} : ∀ {l : List UInt8}, l.all p = true → l.takeWhile p = l ∧ l.dropWhile p = []
 | [], _ => ⟨rfl, rfl⟩
 | c :: r, h => by
   simp only [List.all_cons, Bool.and_eq_true] at h
   rw [List.takeWhile_cons, List.dropWhile_cons, h.1]
   have := all_take h.2
   exact ⟨by simp [this.1], by simp [this.2]⟩
theorem all_take_app {p : UInt8 → Bool} {c : UInt8} {b : List UInt8} (hc : p c = false) : ∀ {l : List UInt8}, l.all p = true → (l ++ c :: b).takeWhile p = l ∧ (l ++ c :: b).dropWhile p = c :: b
 | [], _ => by simp [hc]
 | d :: r, h => by
   simp only [List.all_cons, Bool.and_eq_true] at h
   have := all_take_app (b := b) hc h.2
   simp [h.1, this.1, this.2]
theorem take_drop_split {p : UInt8 → Bool} : ∀ (l : List UInt8), l = l.takeWhile p ++ l.dropWhile p := fun _l => List.takeWhile_append_dropWhile.symm
theorem int_digits {a : List UInt8} (h : intOk a = true) : a.all isDig = true := by
 unfold intOk at h; simp only [Bool.and_eq_true] at h; exact ((canon_iff a).1 h.1).2.2.1
theorem dig_46 : isDig 46 = false := by decide
theorem dec_whole (t : List UInt8) (h : (46 : UInt8) ∉ t) : dec t = if intOk t then some (1000 * val t) else none := by
 unfold dec
 split
 · rename_i hd
   have ht : t.takeWhile isDig = t := by have := take_drop_split (p := isDig) t; rw [hd, List.append_nil] at this; exact this.symm
   rw [ht]
 · rename_i c b hd
   have hc : (c == 46) = false := by
    rw [beq_eq_false_iff_ne]; rintro rfl
    refine h ?_
    rw [take_drop_split (p := isDig) t, hd]; simp
   have hn : intOk t = false := by
    rw [Bool.eq_false_iff]; intro ht
    have := (all_take (int_digits ht)).2
    rw [this] at hd; cases hd
   rw [hc, hn]; simp
theorem drop_head (b : List UInt8) : ∀ a : List UInt8, (46 : UInt8) ∉ a → a.all isDig = false → ∃ c r, (a ++ 46 :: b).dropWhile isDig = c :: r ∧ c ≠ 46
 | [], _, h => by simp at h
 | d :: a, hn, h => by
   rw [List.mem_cons, not_or] at hn
   by_cases hd : isDig d = true
   · rw [List.all_cons, hd, Bool.true_and] at h
     obtain ⟨c, r, e, hc⟩ := drop_head b a hn.2 h
     exact ⟨c, r, by rw [List.cons_append, List.dropWhile_cons, hd]; exact e, hc⟩
   · exact ⟨d, a ++ 46 :: b, by rw [List.cons_append, List.dropWhile_cons, if_neg hd], fun e => hn.1 e.symm⟩
theorem dec_point (a b : List UInt8) (h : (46 : UInt8) ∉ a) : dec (a ++ 46 :: b) = if intOk a && fracOk b then some (1000 * val a + frac b) else none := by
 by_cases ha : a.all isDig = true
 · have := all_take_app (b := b) dig_46 ha
   unfold dec
   rw [this.2, this.1]
   simp
 · have hn : intOk a = false := by
    rw [Bool.eq_false_iff]; exact fun e => ha (int_digits e)
   rw [hn, Bool.false_and, if_neg (by decide)]
   obtain ⟨c, r, hd, hc⟩ := drop_head b a h (by simpa using ha)
   unfold dec
   rw [hd]
   show (if intOk _ && (c == 46 && fracOk r) then _ else none) = none
   rw [beq_eq_false_iff_ne.2 hc]; simp
theorem atoi_digits (l : List UInt8) (hne : l ≠ []) (hlen : l.length ≤ 10) (hd : l.all isDig = true) : atoiAll l = .ok (val l) := by
 cases l with
 | nil => exact absurd rfl hne
 | cons c r =>
   have hc := (isDig_iff c).1 (by simp only [List.all_cons, Bool.and_eq_true] at hd; exact hd.1)
   have hp : 10 ^ (c :: r).length ≤ 10 ^ 10 := Nat.pow_le_pow_right (by decide) hlen
   have hv := val_lt (c :: r) hd
   have e : parseUint10 0 (c :: r) = .ok (val (c :: r)) := parse_digits (c :: r) 0 hd (by simpa using hp)
   unfold atoiAll
   simp only
   rw [if_neg (by omega)]
   unfold parseMag
   rw [if_neg (by simp), e]
   simp only
   rw [if_neg (by omega), if_neg (by omega), if_neg (by omega)]
theorem repeat_all (n : Nat) : (repeatL [48] n).all isDig = true ∧ (repeatL [48] n).length = n := by
 induction n with
 | zero => exact ⟨rfl, rfl⟩
 | succ n ih => unfold repeatL; simp [ih.1, ih.2, isDig]
theorem valFrom_repeat (a n : Nat) : valFrom a (repeatL [48] n) = a * 10 ^ n := by
 induction n generalizing a with
 | zero => simp [repeatL, valFrom_nil]
 | succ n ih =>
   unfold repeatL
   rw [List.singleton_append, valFrom_cons, ih]
   show (10 * a + (48 - 48)) * 10 ^ n = _
   rw [Nat.pow_succ, Nat.sub_self, Nat.add_zero, Nat.mul_comm 10 a, Nat.mul_assoc, Nat.mul_comm 10]
theorem val_pad (b : List UInt8) (n : Nat) : val (b ++ repeatL [48] n) = val b * 10 ^ n := by
 unfold val; rw [valFrom_append, valFrom_repeat]
theorem frac_atoi {b : List UInt8} (h1 : 1 ≤ b.length) (h3 : b.length ≤ 3) (hd : b.all isDig = true) : atoiAll (b ++ repeatL [48] (3 - b.length)) = .ok (frac b) := by
 have hr := repeat_all (3 - b.length)
 rw [atoi_digits _ (by intro e; have := congrArg List.length e; rw [List.length_append, hr.2, List.length_nil] at this; omega) (by rw [List.length_append, hr.2]; omega) (by rw [List.all_append, hd, hr.1]; rfl), val_pad]
 rfl
def digits : List UInt8 := [48, 49, 50, 51, 52, 53, 54, 55, 56, 57]
theorem digits_has (c : UInt8) : digits.contains c = isDig c := by
 have : ∀ n : Fin 256, digits.contains (UInt8.ofNat n) = isDig (UInt8.ofNat n) := by decide +kernel
 have h := this ⟨c.toNat, c.toNat_lt⟩
 simpa using h
theorem dropWhile_nil {p : UInt8 → Bool} (l : List UInt8) : l.dropWhile p = [] ↔ l.all p = true := by
 induction l with
 | nil => simp
 | cons c r ih =>
   rw [List.dropWhile_cons, List.all_cons]
   by_cases h : p c = true
   · rw [if_pos h, ih, h, Bool.true_and]
   · rw [if_neg h]; simp [h]
theorem trim_nil (cs l : List UInt8) : trimS l cs = [] ↔ l.all (cs.contains ·) = true := by
 unfold trimS trimLeftS
 rw [dropWhile_nil]
 unfold trimRightS
 rw [List.all_reverse]
 constructor
 · intro h
   have h2 : (l.reverse.dropWhile (cs.contains ·)).all (cs.contains ·) = true := h
   have e := take_drop_split (p := (cs.contains ·)) l.reverse
   have : l.reverse.all (cs.contains ·) = true := by
    rw [e, List.all_append, h2, Bool.and_true]
    exact List.all_takeWhile
   simpa using this
 · intro h
   have : l.reverse.dropWhile (cs.contains ·) = [] := by rw [dropWhile_nil]; simpa using h
   rw [this]; rfl
theorem trim_digits (l : List UInt8) : trimS l digits = [] ↔ l.all isDig = true := by
 rw [trim_nil]
 rw [show (fun x => digits.contains x) = isDig from funext digits_has]
end Mtr
namespace Adr
open Go
theorem or_all : ∀ k : Fin 256, bits .or .u8 ((k.val : Nat) : Int) 32 = (((UInt8.ofNat k.val ||| 32).toNat : Nat) : Int) := by decide +kernel
theorem or_byte (c : UInt8) : bits .or .u8 (c.toNat : Int) 32 = ((c ||| 32).toNat : Int) := by
 have := or_all ⟨c.toNat, c.toNat_lt⟩
 simpa using this
end Adr
namespace Go.Proofs.YtjdknhalcpkeaaaGreatDoor
open Go.Shelf Go.RowKit
variable {P : Program} {ρ : Ren}
def inner (T : TypeId) : Option (Option Nat) → Value
 | some (some u) => .tuple #[.int .u64 (u : Int), .nilIface]
 | some none => .tuple #[.int .u64 281474976710655, .iface T (.int .i64 1)]
 | none => .tuple #[.int .u64 0, .iface T (.int .i64 2)]
theorem lower_is (L : LaysPu.n19 P ρ) (x m : Int) (h : bits .or .u8 x 32 = m) (w : World) :
 Calls P (ρ.f 19) #[.int .u8 x] w fun e w' => e = .returned (.int .u8 m) ∧ w' = w := by
 subst h
 exact AnyPu.internal_strconv_lower L x w
set_option maxHeartbeats 32000000 in
set_option maxRecDepth 100000 in
theorem inner16 (L : LaysPu.n16 P ρ) (t : ByteArray) (hne : t.size ≠ 0) (hmax : t.size ≤ 9223372036854775806) (w : World) :
 Calls P (ρ.f 16) #[.string t, .int .i64 16, .int .i64 48] w fun e w' => e = .returned (inner (ρ.t 34) (Adr.parse16 0 t.data.toList)) ∧ w' = Lib.bytesWorld w (ρ.t 5) t := by
 have mixed := L.mixed
 have t9 := L.t9; have a9 := L.a9; have z9 := L.z9; have v9 := L.v9
 have t3 := L.t3; have a3 := L.a3; have z3 := L.z3; have v3 := L.v3
 have t22 := L.t22; have a22 := L.a22; have z22 := L.z22; have v22 := L.v22
 have t24 := L.t24; have a24 := L.a24; have z24 := L.z24; have v24 := L.v24
 have t4 := L.t4; have a4 := L.a4; have z4 := L.z4; have v4 := L.v4
 have t34 := L.t34; have a34 := L.a34; have z34 := L.z34; have v34 := L.v34
 have t5 := L.t5; have a5 := L.a5; have z5 := L.z5; have v5 := L.v5
 have t36 := L.t36; have a36 := L.a36; have z36 := L.z36; have v36 := L.v36
 have t37 := L.t37; have a37 := L.a37; have z37 := L.z37; have v37 := L.v37
 have t0 := L.t0; have a0 := L.a0; have z0 := L.z0; have v0 := L.v0
 have e19 : ∀ args w, (callFunc (ρ.f 19) args).run P w = .ok (.enter (ρ.f 19) args) w := enters_of L.f19 (by kernel_rfl) rfl
 have hemp : t.toList.isEmpty = false := by
  rw [← decide_eq_emptyBytes]
  exact decide_eq_false (fun h => hne (by rw [h]; rfl))
 have hcv := Lib.run_convert_string_bytes (P := P) w (ρ.t 9) (ρ.t 37) (ρ.t 5) t (u := .string) L.t9 L.t37 L.t5
 have hB : ∀ j, j < t.size → (Lib.bytesWorld w (ρ.t 5) t).cell? ⟨w.heap.size, j, none⟩ = some (.int .u8 (t.data.toList.getD j 0).toNat) := fun j hj => Lib.bytesWorld_cell w (ρ.t 5) t j hj
 obtain ⟨W1, hW1⟩ : ∃ W1, W1 = Lib.bytesWorld w (ρ.t 5) t := ⟨_, rfl⟩
 rw [← hW1] at hcv hB ⊢
 clear hW1
 obtain ⟨bs, hL⟩ : ∃ bs, bs = t.data.toList := ⟨_, rfl⟩
 have hLn : bs.length = t.size := by rw [hL, Lib.size_eq]
 rw [← hL] at hB ⊢
 clear hL
 have hmv : IntKind.u64.wrap (IntKind.u64.wrap 281474976710656 - 1) = 281474976710655 := by
  rw [IntKind.wrap_u64, IntKind.wrap_u64]
  decide
 go_enter L.f16, BodyPu.n16_ntmps ρ
 go_wp2
 go_loop [12, 13, 101] (fun vu vn vi => ∃ (k acc : Nat) (a : Int), vu = .bool false ∧ vn = .int .u64 a ∧ vi = .int .i64 k ∧ k ≤ t.size ∧ Hid (a = (acc : Int) ∧ acc ≤ 281474976710655 ∧ Adr.parse16 0 bs = Adr.parse16 acc (bs.drop k)))
  (fun _ _ vi => t.size - (intOf vi).toNat)
 case atStart => exact ⟨0, 0, 0, rfl, rfl, rfl, by omega, rfl, by omega, rfl⟩
 case round =>
  obtain ⟨k, acc, a, rfl, rfl, rfl, hk, hh⟩ := hrel
  obtain ⟨ha, hacc, hdec⟩ := hh.out
  clear hh
  have a0 : 0 ≤ a := by omega
  have a1 : a ≤ 281474976710655 := by omega
  by_cases hkn : k < t.size
  · have hc := hB k hkn
    have hdrop : bs.drop k = bs[k]'(by omega) :: bs.drop (k + 1) := List.drop_eq_getElem_cons (by omega)
    have hget : bs.getD k 0 = bs[k]'(by omega) := by simp [List.getD, List.getElem?_eq_getElem (show k < bs.length by omega)]
    rw [hdrop] at hdec
    rw [hget] at hc
    generalize bs[k]'(by omega) = c at hc hdec
    have hc256 : c.toNat < 256 := c.toNat_lt
    clear hB hdrop hget
    by_cases hdig : 48 ≤ c.toNat ∧ c.toNat ≤ 57
    · obtain ⟨hd0, hd1⟩ := hdig
      have hd : Adr.dig36 c = c.toNat - 48 := by unfold Adr.dig36; rw [if_pos ⟨hd0, hd1⟩]
      have hF : Adr.parse16 acc (c :: bs.drop (k + 1)) = if 281474976710656 ≤ acc * 16 + (c.toNat - 48) then some none else Adr.parse16 (acc * 16 + (c.toNat - 48)) (bs.drop (k + 1)) := by
       rw [Adr.parse16, hd, if_neg (by omega)]
      rw [hF] at hdec
      clear hd hF
      by_cases hov : 281474976710656 ≤ acc * 16 + (c.toNat - 48)
      · rw [if_pos hov] at hdec
        have iov : 281474976710655 < a * 16 + ((c.toNat : Int) - 48) := by omega
        clear hacc hov ha
        go_wp2
        go_ret2
        exact ⟨rfl, rfl⟩
      · rw [if_neg hov] at hdec
        have HN : Hid (a * 16 + ((c.toNat : Int) - 48) = ((acc * 16 + (c.toNat - 48) : Nat) : Int) ∧ acc * 16 + (c.toNat - 48) ≤ 281474976710655 ∧ Adr.parse16 0 bs = Adr.parse16 (acc * 16 + (c.toNat - 48)) (bs.drop (k + 1))) := Lib.hid ⟨by omega, by omega, hdec⟩
        have iov : a * 16 + ((c.toNat : Int) - 48) ≤ 281474976710655 := by omega
        clear hacc hov hdec ha
        go_wp2
        refine ⟨⟨k + 1, acc * 16 + (c.toNat - 48), a * 16 + ((c.toNat : Int) - 48), rfl, (by first | rfl | (congr 1; omega)), (by first | rfl | (congr 1; omega)), by omega, HN⟩, by simp [intOf]; omega⟩
    · have Hlo := Lib.hid (Adr.or_byte c)
      by_cases h95 : c.toNat = 95
      · obtain rfl : c = 95 := UInt8.toNat_inj.1 (by rw [h95]; rfl)
        have hF : Adr.parse16 acc (95 :: bs.drop (k + 1)) = none := by rw [Adr.parse16, if_pos (by decide)]
        rw [hF] at hdec
        clear hacc hF ha Hlo h95 hdig hc256
        have Hu := Lib.hid (show bits .or .u8 95 32 = 127 by decide +kernel)
        go_wp2_with (go_at_fn (ρ.f 19); refine (lower_is { L with } _ 127 Hu.out _).mono ?_; rintro e w' ⟨rfl, rfl⟩)
        all_goals go_ret2
        all_goals first | exact ⟨rfl, rfl⟩ | exact ⟨by rw [hdec]; rfl, rfl⟩
      · have hn95 : ((c.toNat : Int) == 95) = false := by rw [beq_eq_false_iff_ne]; omega
        have hcase : c.toNat < 48 ∨ 57 < c.toNat := by omega
        by_cases hlet : 97 ≤ (c ||| 32).toNat ∧ (c ||| 32).toNat ≤ 122
        · have hd : Adr.dig36 c = (c ||| 32).toNat - 97 + 10 := by unfold Adr.dig36; rw [if_neg hdig, if_pos hlet]
          rw [Adr.parse16, hd] at hdec
          clear hd hdig h95
          generalize (c ||| 32).toNat = lo at Hlo hdec hlet
          obtain ⟨hl0, hl1⟩ := hlet
          by_cases h16 : 16 ≤ lo - 97 + 10
          · rw [if_pos h16] at hdec
            have i16 : 102 < lo := by omega
            clear h16 hacc ha
            rcases hcase with hcase | hcase
            all_goals
             go_wp2_with (go_at_fn (ρ.f 19); refine (lower_is { L with } _ (lo : Int) Hlo.out _).mono ?_; rintro e w' ⟨rfl, rfl⟩)
             all_goals go_ret2
             all_goals first | exact ⟨rfl, rfl⟩ | exact ⟨by rw [hdec]; rfl, rfl⟩
          · rw [if_neg h16] at hdec
            have i16 : lo ≤ 102 := by omega
            clear h16
            by_cases hov : 281474976710656 ≤ acc * 16 + (lo - 97 + 10)
            · rw [if_pos hov] at hdec
              have iov : 281474976710655 < a * 16 + ((lo : Int) - 97 + 10) := by omega
              clear hacc hov ha
              rcases hcase with hcase | hcase
              all_goals
               go_wp2_with (go_at_fn (ρ.f 19); refine (lower_is { L with } _ (lo : Int) Hlo.out _).mono ?_; rintro e w' ⟨rfl, rfl⟩)
               all_goals go_ret2
               all_goals first | exact ⟨rfl, rfl⟩ | exact ⟨by rw [hdec]; rfl, rfl⟩
            · rw [if_neg hov] at hdec
              have HN : Hid (a * 16 + ((lo : Int) - 97 + 10) = ((acc * 16 + (lo - 97 + 10) : Nat) : Int) ∧ acc * 16 + (lo - 97 + 10) ≤ 281474976710655 ∧ Adr.parse16 0 bs = Adr.parse16 (acc * 16 + (lo - 97 + 10)) (bs.drop (k + 1))) := Lib.hid ⟨by omega, by omega, hdec⟩
              have iov : a * 16 + ((lo : Int) - 97 + 10) ≤ 281474976710655 := by omega
              clear hacc hov hdec ha
              rcases hcase with hcase | hcase
              all_goals
               go_wp2_with (go_at_fn (ρ.f 19); refine (lower_is { L with } _ (lo : Int) Hlo.out _).mono ?_; rintro e w' ⟨rfl, rfl⟩)
               refine ⟨⟨k + 1, acc * 16 + (lo - 97 + 10), a * 16 + ((lo : Int) - 97 + 10), rfl, (by first | rfl | (congr 1; omega)), (by first | rfl | (congr 1; omega)), by omega, HN⟩, by simp [intOf]; omega⟩
        · have hd : Adr.dig36 c = 255 := by unfold Adr.dig36; rw [if_neg hdig, if_neg hlet]
          rw [Adr.parse16, hd, if_pos (by decide)] at hdec
          clear hd hdig h95 hacc ha
          generalize (c ||| 32).toNat = lo at Hlo hlet
          have hl2 : lo < 97 ∨ 122 < lo := by omega
          clear hlet
          rcases hcase with hcase | hcase <;> rcases hl2 with hl2 | hl2
          all_goals
           go_wp2_with (go_at_fn (ρ.f 19); refine (lower_is { L with } _ (lo : Int) Hlo.out _).mono ?_; rintro e w' ⟨rfl, rfl⟩)
           all_goals go_ret2
           all_goals first | exact ⟨rfl, rfl⟩ | exact ⟨by rw [hdec]; rfl, rfl⟩
  · have hkk : k = t.size := by omega
    subst hkk
    have hF : Adr.parse16 acc (bs.drop t.size) = some (some acc) := by rw [List.drop_eq_nil_of_le (by omega)]; rfl
    rw [hF] at hdec
    subst ha
    clear hacc hF a0 a1
    go_wp2
    go_ret2
    exact ⟨rfl, rfl⟩
theorem inner16_all (L : LaysPu.n16 P ρ) (t : ByteArray) (hmax : t.size ≤ 9223372036854775806) (w : World) :
 Calls P (ρ.f 16) #[.string t, .int .i64 16, .int .i64 48] w fun e w' => e = .returned (inner (ρ.t 34) (Adr.parseMac t.data.toList)) ∧ (w' = w ∨ w' = Lib.bytesWorld w (ρ.t 5) t) := by
 by_cases h0 : t.size = 0
 · have ht : t = ⟨#[]⟩ := by
    apply ByteArray.ext
    exact Array.eq_empty_of_size_eq_zero h0
   subst ht
   exact (AnyPu.internal_strconv_ParseUint_empty { L with } 16 48 w).mono fun e w' ⟨he, hw⟩ => ⟨he, Or.inl hw⟩
 · have hne : t.data.toList ≠ [] := fun h => h0 (by rw [Lib.size_eq, h]; rfl)
   refine (inner16 { L with } t h0 hmax w).mono fun e w' ⟨he, hw⟩ => ⟨?_, Or.inr hw⟩
   rw [he, Adr.parseMac, if_neg hne]
def Parsed (T : TypeId) (r : Option (Option Nat)) (e : Ending) : Prop :=
 match r with
 | some (some u) => e = .returned (.tuple #[.int .u64 (u : Int), .nilIface])
 | none => ∃ p, e = .returned (.tuple #[.int .u64 0, .iface T p])
 | some none => ∃ p, e = .returned (.tuple #[.int .u64 281474976710655, .iface T p])
set_option maxHeartbeats 4000000 in
set_option maxRecDepth 100000 in
theorem parse16_any (L : LaysPu.n14 P ρ) (s : ByteArray) (hlim : s.size ≤ 281474976710656) (t1 t2 : TypeId) (p1 p2 : Value) (w : World)
 (hv0 : w.cell? ⟨(ρ.g 0), 0, none⟩ = some (.iface t1 p1)) (hv1 : w.cell? ⟨(ρ.g 1), 0, none⟩ = some (.iface t2 p2)) :
 Calls P (ρ.f 14) #[.string s, .int .i64 16, .int .i64 48] w fun e w' => Parsed (ρ.t 39) (Adr.parseMac s.data.toList) e ∧ Below w.heap.size w w' := by
 have mixed := L.mixed
 have t9 := L.t9; have a9 := L.a9; have z9 := L.z9; have v9 := L.v9
 have t3 := L.t3; have a3 := L.a3; have z3 := L.z3; have v3 := L.v3
 have t22 := L.t22; have a22 := L.a22; have z22 := L.z22; have v22 := L.v22
 have t24 := L.t24; have a24 := L.a24; have z24 := L.z24; have v24 := L.v24
 have t25 := L.t25; have a25 := L.a25; have z25 := L.z25; have v25 := L.v25
 have t4 := L.t4; have a4 := L.a4; have z4 := L.z4; have v4 := L.v4
 have e16 : ∀ args w, (callFunc (ρ.f 16) args).run P w = .ok (.enter (ρ.f 16) args) w := enters_of L.f16 (by kernel_rfl) rfl
 have e17 : ∀ args w, (callFunc (ρ.f 17) args).run P w = .ok (.enter (ρ.f 17) args) w := enters_of L.f17 (by kernel_rfl) rfl
 have hG0 : (ρ.g 0) < w.heap.size := Lib.lt_of_cell hv0
 have hG1 : (ρ.g 1) < w.heap.size := Lib.lt_of_cell hv1
 have hI := inner16_all { L with } s (by omega) w
 rcases h : Adr.parseMac s.data.toList with _ | (_ | u)
 rotate_left 2
 ·
  rw [h] at hI
  have hI : Calls P (ρ.f 16) #[.string s, .int .i64 16, .int .i64 48] w fun e w' => e = .returned (.tuple #[.int .u64 u, .nilIface]) ∧ (w' = w ∨ w' = Lib.bytesWorld w (ρ.t 5) s) := hI
  clear h hv0 hv1
  go_enter L.f14, BodyPu.n14_ntmps ρ
  go_wp2_with (go_at_fn (ρ.f 16); refine hI.mono ?_; rintro e W1 ⟨rfl, hW⟩)
  go_wp2
  go_ret2
  refine ⟨rfl, ?_⟩
  rcases hW with rfl | rfl
  · exact Below.refl _ _
  · exact Lib.bytesWorld_below _ _ _
 ·
  rw [h] at hI
  have hI : Calls P (ρ.f 16) #[.string s, .int .i64 16, .int .i64 48] w fun e w' => e = .returned (.tuple #[.int .u64 0, .iface (ρ.t 34) (.int .i64 2)]) ∧ (w' = w ∨ w' = Lib.bytesWorld w (ρ.t 5) s) := hI
  clear h
  go_enter L.f14, BodyPu.n14_ntmps ρ
  go_wp2_with (go_at_fn (ρ.f 16); refine hI.mono ?_)
  rintro e W1 ⟨rfl, hW⟩
  have hb1 : Below w.heap.size w W1 := by
   rcases hW with rfl | rfl
   · exact Below.refl _ _
   · exact Lib.bytesWorld_below _ _ _
  have hw1 : W1.cell? ⟨(ρ.g 0), 0, none⟩ = some (.iface t1 p1) := (hb1.cell (show (⟨(ρ.g 0), 0, none⟩ : Addr).block < w.heap.size from hG0)).trans hv0
  clear hW hv0 hv1
  go_wp2_with (go_at_fn (ρ.f 17); refine (AnyPu.strconv_toError_syntax { L with } ⟨#[80, 97, 114, 115, 101, 85, 105, 110, 116]⟩ s 16 48 (.iface t1 p1) _ hlim ?_ (Or.inr ⟨t1, p1, rfl⟩)).mono ?_)
  · exact hw1
  rintro e W2 ⟨N, rfl, h1, h2, h3⟩
  go_wp2
  go_ret2
  exact ⟨⟨_, rfl⟩, hb1.trans (h3.mono hb1.size)⟩
 ·
  rw [h] at hI
  have hI : Calls P (ρ.f 16) #[.string s, .int .i64 16, .int .i64 48] w fun e w' => e = .returned (.tuple #[.int .u64 281474976710655, .iface (ρ.t 34) (.int .i64 1)]) ∧ (w' = w ∨ w' = Lib.bytesWorld w (ρ.t 5) s) := hI
  clear h
  go_enter L.f14, BodyPu.n14_ntmps ρ
  go_wp2_with (go_at_fn (ρ.f 16); refine hI.mono ?_)
  rintro e W1 ⟨rfl, hW⟩
  have hb1 : Below w.heap.size w W1 := by
   rcases hW with rfl | rfl
   · exact Below.refl _ _
   · exact Lib.bytesWorld_below _ _ _
  have hw1 : W1.cell? ⟨(ρ.g 1), 0, none⟩ = some (.iface t2 p2) := (hb1.cell (show (⟨(ρ.g 1), 0, none⟩ : Addr).block < w.heap.size from hG1)).trans hv1
  clear hW hv0 hv1
  go_wp2_with (go_at_fn (ρ.f 17); refine (AnyPu.strconv_toError_range { L with } ⟨#[80, 97, 114, 115, 101, 85, 105, 110, 116]⟩ s 16 48 (.iface t2 p2) _ hlim ?_ (Or.inr ⟨t2, p2, rfl⟩)).mono ?_)
  · exact hw1
  rintro e W2 ⟨N, rfl, h1, h2, h3⟩
  go_wp2
  go_ret2
  exact ⟨⟨_, rfl⟩, hb1.trans (h3.mono hb1.size)⟩
end Go.Proofs.YtjdknhalcpkeaaaGreatDoor
