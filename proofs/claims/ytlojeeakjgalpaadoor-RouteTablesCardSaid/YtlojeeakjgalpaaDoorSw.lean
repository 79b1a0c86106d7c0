/- Walks: the runs that change places (swapRangeCmpFunc, rotateCmpFunc) of the library's stable sort, at a row of places. -/
import Derived.Test.YtlojeeakjgalpaaDoorEnv
import Derived.Test.YtlojeeakjgalpaaDoorW
import Derived.Test.YtlojeeakjgalpaaDoorCalc
import Derived.Test.YtlojeeakjgalpaaDoorSrt
import Derived.BigCall
import Derived.BigGuard
import Derived.BigQuiet
import Derived.BigRegion
import Derived.Lib.QuietBelow
import Derived.Deep.QuietTactic
import Derived.Deep.LoopGhost
import Derived.Shelf.RegionOpenPlain
namespace Go.Proofs.YtlojeeakjgalpaaDoor
open Go Go.RowKit Go.Sort

/-- Nothing that was there has turned but the block of the row. -/
structure Kp (w0 : World) (blk : Nat) (W : World) : Prop where
  os : W.os = w0.os
  tape : W.tape = w0.tape
  output : W.output = w0.output
  size : w0.heap.size ≤ W.heap.size
  block : ∀ k, k < w0.heap.size → k ≠ blk → W.heap[k]? = w0.heap[k]?
abbrev pl (x : Nat) : Value := .int .i64 (x : Int)
/-- .. and the row's block holds d. -/
structure Sw (w0 : World) (blk off : Nat) (d : Array Nat) (W : World) : Prop where
  kp : Kp w0 blk W
  lt : blk < w0.heap.size
  holds : ∀ j, j < d.size → W.cell? ⟨blk, off + j, none⟩ = some (pl d[j]!) ∧ W.frozen? ⟨blk, off + j, none⟩ = false
section
variable {w0 W W' : World} {blk off : Nat} {d : Array Nat}
theorem Kp.refl (w : World) (blk : Nat) : Kp w blk w := ⟨rfl, rfl, rfl, Nat.le_refl _, fun _ _ _ => rfl⟩
theorem Kp.below (h : Kp w0 blk W) (hb : Below W.heap.size W W') : Kp w0 blk W' :=
  ⟨hb.os.trans h.os, hb.tape.trans h.tape, hb.output.trans h.output, Nat.le_trans h.size hb.size, fun k hk hn => (hb.block k (Nat.lt_of_lt_of_le hk h.size)).trans (h.block k hk hn)⟩
theorem Sw.below (h : Sw w0 blk off d W) (hb : Below W.heap.size W W') : Sw w0 blk off d W' :=
  ⟨h.kp.below hb, h.lt, fun j hj => by
    have hl : blk < W.heap.size := Nat.lt_of_lt_of_le h.lt h.kp.size
    exact ⟨(hb.cell (p := ⟨blk, off + j, none⟩) hl).trans (h.holds j hj).1, (hb.frozen (p := ⟨blk, off + j, none⟩) hl).trans (h.holds j hj).2⟩⟩
theorem Sw.drew (h : Sw w0 blk off d W) : Sw w0 blk off d W.drew := ⟨⟨h.kp.os, h.kp.tape, h.kp.output, h.kp.size, h.kp.block⟩, h.lt, h.holds⟩
theorem Sw.regrown (h : Sw w0 blk off d W) (n : Nat) (os : Array Obj) : Sw w0 blk off d (grow (redrawn W n) os) := h.below (below_regrown W n os)
theorem Sw.c (h : Sw w0 blk off d W) (i : Nat) (hi : i < d.size) : W.cell? ⟨blk, off + i, none⟩ = some (pl d[i]!) := (h.holds i hi).1
theorem Sw.f (h : Sw w0 blk off d W) (i : Nat) (hi : i < d.size) : W.frozen? ⟨blk, off + i, none⟩ = false := (h.holds i hi).2
theorem Sw.cl (h : Sw w0 blk off d W) (i : Nat) (hi : i < d.size) (n : Nat) (os : Array Obj) : (grow (redrawn W n) os).cell? ⟨blk, off + i, none⟩ = some (pl d[i]!) := (h.regrown n os).c i hi
theorem Sw.c2 (h : Sw w0 blk off d W) (i j : Nat) (hi : i < d.size) (hj : j < d.size) (v : Value) : ∃ u, (W.setCell ⟨blk, off + i, none⟩ v).cell? ⟨blk, off + j, none⟩ = some u := by
  by_cases e : i = j
  · subst e; exact ⟨v, World.cell?_setCell_same _ _ _ (h.c i hi)⟩
  · exact ⟨_, (World.cell?_setCell_other _ _ _ _ (by intro e'; simp only [Addr.mk.injEq] at e'; omega)).trans (h.c j hj)⟩
theorem Kp.set (h : Kp w0 blk W) (o : Nat) (v : Value) : Kp w0 blk (W.setCell ⟨blk, o, none⟩ v) :=
  ⟨h.os, h.tape, h.output, by simpa using h.size, fun k hk hn => (Below.heap_setCell W ⟨blk, o, none⟩ v k hn).trans (h.block k hk hn)⟩
theorem Sw.swap (h : Sw w0 blk off d W) (i j : Nat) (hi : i < d.size) (hj : j < d.size) : Sw w0 blk off (swp d i j) ((W.setCell ⟨blk, off + i, none⟩ (pl d[j]!)).setCell ⟨blk, off + j, none⟩ (pl d[i]!)) := by
  refine ⟨(h.kp.set _ _).set _ _, h.lt, fun q hq => ?_⟩
  rw [swp_size] at hq
  rw [swp_get d hi hj, World.frozen?_setCell, World.frozen?_setCell]
  refine ⟨?_, (h.holds q hq).2⟩
  by_cases e : q = j
  · subst e
    rw [if_pos rfl]
    obtain ⟨u, hu⟩ := h.c2 i q hi hq (pl d[q]!)
    exact World.cell?_setCell_same _ _ _ hu
  · rw [if_neg e, World.cell?_setCell_other _ _ _ _ (by intro e'; simp only [Addr.mk.injEq] at e'; omega)]
    by_cases e2 : q = i
    · subst e2
      rw [if_pos rfl]
      exact World.cell?_setCell_same _ _ _ (h.c q hq)
    · rw [if_neg e2, World.cell?_setCell_other _ _ _ _ (by intro e'; simp only [Addr.mk.injEq] at e'; omega)]
      exact (h.holds q hq).1
end

set_option maxHeartbeats 4000000 in
set_option maxRecDepth 1000000 in
theorem swapRange_any (w0 : World) (blk off cap a b n : Nat) (d : Array Nat) (W : World) (fv : Value) (S : Sw w0 blk off d W) (hab : a + n ≤ b) (hb : b + n ≤ d.size) (hsz : d.size < 4611686018427387904) :
    Calls Tryd.prog 97 #[.slice (some ⟨blk, off, none⟩) d.size cap, .int .i64 a, .int .i64 b, .int .i64 n, fv] W fun e w' => e = .returned (.tuple #[]) ∧ Sw w0 blk off (StS.swpRange d a b n) w' := by
  have S0 : Hid (Sw w0 blk off d W) := S
  clear S
  go_enter Tryd.func97, Tryd.ntmps97
  go_wp2
  go_loopw [10] (fun i wr => ∃ k : Nat, k ≤ n ∧ i = .int .i64 k ∧ Hid (Sw w0 blk off (StS.swpRange d a b k) wr)) (fun i _ => n - (intOf i).toNat)
  case atStart => exact ⟨0, Nat.zero_le _, rfl, S0⟩
  case round =>
    clear S0
    obtain ⟨k, hk, rfl, S1⟩ := hrel
    by_cases hlt : k < n
    · have hltz : (k : Int) < (n : Int) := by omega
      have hs := StS.swpRange_size d a b k
      have S2 := S1.out.swap (a + k) (b + k) (by omega) (by omega)
      have ca := S1.out.c (a + k) (by omega)
      have cb := S1.out.c (b + k) (by omega)
      have fa := S1.out.f (a + k) (by omega)
      have fb := S1.out.f (b + k) (by omega)
      obtain ⟨u, cc⟩ := S1.out.c2 (a + k) (b + k) (by omega) (by omega) (pl (StS.swpRange d a b k)[b + k]!)
      have S3 : Hid (Sw w0 blk off (StS.swpRange d a b (k + 1)) _) := S2
      obtain ⟨x, hx⟩ : ∃ x, (StS.swpRange d a b k)[a + k]! = x := ⟨_, rfl⟩
      obtain ⟨y, hy⟩ : ∃ x, (StS.swpRange d a b k)[b + k]! = x := ⟨_, rfl⟩
      rw [hx] at ca
      rw [hy] at cb cc
      rw [hx, hy] at S3
      clear S1 S2 hs
      obtain ⟨i, hi⟩ : ∃ i, a + k = i := ⟨_, rfl⟩
      obtain ⟨j, hj⟩ : ∃ j, b + k = j := ⟨_, rfl⟩
      rw [hi] at ca fa cc S3
      rw [hj] at cb fb cc S3
      have ea : (a : Int) + (k : Int) = (i : Int) := by omega
      have eb : (b : Int) + (k : Int) = (j : Int) := by omega
      have la : i < d.size := by omega
      have lb : j < d.size := by omega
      have mixed : Tryd.prog.follows .mixedOrders = true := by kernel_rfl
      go_wp2_with fail
      go_big_region_o
      have S4 : Hid (Sw w0 blk off (StS.swpRange d a b (k + 1)) ((wr.setCell ⟨blk, off + i, none⟩ (.int .i64 (y : Int))).setCell ⟨blk, off + j, none⟩ (.int .i64 (x : Int))).drew) := S3.out.drew
      clear S3 ca cb cc fa fb
      generalize ((wr.setCell ⟨blk, off + i, none⟩ (.int .i64 (y : Int))).setCell ⟨blk, off + j, none⟩ (.int .i64 (x : Int))).drew = w3 at S4 ⊢
      go_wp2
      go_roundw
      case rel => exact ⟨k + 1, by omega, by go_num, S4⟩
      case measure => simp [intOf]; omega
    · obtain rfl : k = n := by omega
      go_wp2
      go_end0
      exact ⟨rfl, S1.out⟩

set_option maxHeartbeats 4000000 in
set_option maxRecDepth 1000000 in
theorem rotate_any (w0 : World) (blk off cap a m b : Nat) (d : Array Nat) (W : World) (fv : Value) (S : Sw w0 blk off d W) (ham : a < m) (hmb : m < b) (hb : b ≤ d.size) (hsz : d.size < 4611686018427387904) :
    Calls Tryd.prog 82 #[.slice (some ⟨blk, off, none⟩) d.size cap, .int .i64 a, .int .i64 m, .int .i64 b, fv] W fun e w' => e = .returned (.tuple #[]) ∧ ∃ d', StS.Turned d a m b d' ∧ Sw w0 blk off d' w' := by
  have S0 : Hid (Sw w0 blk off d W) := S
  have T0 : Hid (StS.Turning d a m b (m - a) (b - m) d) := StS.turning_start d a m b ham hmb
  clear S
  have e1 : (m : Int) - (a : Int) = ((m - a : Nat) : Int) := by omega
  have e2 : (b : Int) - (m : Int) = ((b - m : Nat) : Int) := by omega
  go_enter Tryd.func82, Tryd.ntmps82
  go_wp2
  go_loopw [10, 11] (fun i j wr => ∃ (p q : Nat) (dk : Array Nat), i = .int .i64 p ∧ j = .int .i64 q ∧ Hid (StS.Turning d a m b p q dk) ∧ Hid (Sw w0 blk off dk wr)) (fun i j _ => (intOf i).toNat + (intOf j).toNat)
  case atStart => exact ⟨m - a, b - m, d, by first | rfl | (congr 1), by first | rfl | (congr 1), T0, S0⟩
  case round =>
    clear S0 T0 e1 e2
    obtain ⟨p, q, dk, rfl, rfl, T1, S1⟩ := hrel
    obtain ⟨t1, t2, t3, t4, t5, t6⟩ := T1.out
    have hs : dk.size = d.size := t5.1
    clear t5 t6
    rcases Nat.lt_trichotomy p q with hlt | heq | hgt
    · have e1 : (m : Int) - (p : Int) = ((m - p : Nat) : Int) := by omega
      have e2 : (m : Int) + (q : Int) - (p : Int) = ((m + q - p : Nat) : Int) := by omega
      have T2 : Hid (StS.Turning d a m b p (q - p) (StS.swpRange dk (m - p) (m + q - p) p)) := StS.turning_right T1.out ham hmb hb hlt
      have C := fun W' (hW : Sw w0 blk off dk W') => swapRange_any w0 blk off cap (m - p) (m + q - p) p dk W' fv hW (by omega) (by omega) (by omega)
      rw [hs] at C
      have HC := Lib.hid C
      clear C T1
      go_wp2_with fail
      refine (HC.out _ S1.out).mono ?_
      rintro e w1 ⟨rfl, S2⟩
      have S3 : Hid _ := S2
      clear S1 S2 HC
      go_wp2
      go_roundw
      case rel => exact ⟨p, q - p, _, by first | rfl | go_num, by go_num, T2, S3⟩
      case measure => simp [intOf]; omega
    · subst heq
      have e1 : (m : Int) - (p : Int) = ((m - p : Nat) : Int) := by omega
      have T2 : Hid (StS.Turned d a m b (StS.swpRange dk (m - p) m p)) := StS.turning_last T1.out ham hmb hb
      have C := fun W' (hW : Sw w0 blk off dk W') => swapRange_any w0 blk off cap (m - p) m p dk W' fv hW (by omega) (by omega) (by omega)
      rw [hs] at C
      have HC := Lib.hid C
      clear C T1
      go_wp2_with fail
      refine (HC.out _ S1.out).mono ?_
      rintro e w1 ⟨rfl, S2⟩
      have S3 : Hid _ := S2
      clear S1 S2 HC
      go_wp2
      go_end0
      exact ⟨rfl, _, T2.out, S3.out⟩
    · have e1 : (m : Int) - (p : Int) = ((m - p : Nat) : Int) := by omega
      have T2 : Hid (StS.Turning d a m b (p - q) q (StS.swpRange dk (m - p) m q)) := StS.turning_left T1.out ham hmb hb hgt
      have C := fun W' (hW : Sw w0 blk off dk W') => swapRange_any w0 blk off cap (m - p) m q dk W' fv hW (by omega) (by omega) (by omega)
      rw [hs] at C
      have HC := Lib.hid C
      clear C T1
      go_wp2_with fail
      refine (HC.out _ S1.out).mono ?_
      rintro e w1 ⟨rfl, S2⟩
      have S3 : Hid _ := S2
      clear S1 S2 HC
      go_wp2
      go_roundw
      case rel => exact ⟨p - q, q, _, by go_num, by first | rfl | go_num, T2, S3⟩
      case measure => simp [intOf]; omega
end Go.Proofs.YtlojeeakjgalpaaDoor
