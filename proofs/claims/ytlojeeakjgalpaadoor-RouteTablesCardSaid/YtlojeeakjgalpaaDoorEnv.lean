/- What the walks are told of the library's variables, and that it stays so behind a call that only makes memory. -/
import Derived.Test.YtlojeeakjgalpaaDoorProg
import Derived.WalkKit
import Derived.WalkSmall
import Derived.Lib.LaidTab
import Derived.Lib.ItoaNum
import Derived.Lib.AtoiErrMem
import Derived.Lib.AppendIntMem
import Derived.Lib.Hide
namespace Go.Proofs.YtlojeeakjgalpaaDoor
open Go.RowKit

theorem gPow : Tryd.prog.globalNamed "internal/strconv.uint64pow10" = some 3 := by kernel_rfl

structure Env (w : World) : Prop where
  mx : ∃ m : Int, w.cell? ⟨0, 0, none⟩ = some (.int .i64 m)
  es : ∃ tp p, w.cell? ⟨1, 0, none⟩ = some (.iface tp p)
  er : ∃ tp p, w.cell? ⟨2, 0, none⟩ = some (.iface tp p)
  tb : Lib.TabIs Tryd.prog w "internal/strconv.uint64pow10" .u64 Lib.pow10Tab

theorem Env.below {w w' : World} (h : Env w) (hb : Below w.heap.size w w') : Env w' := by
  obtain ⟨⟨m, hm⟩, ⟨t1, p1, h1⟩, ⟨t2, p2, h2⟩, ht⟩ := h
  have hz := ht.cell gPow 0 (by decide)
  exact ⟨⟨m, (hb.cell (Lib.lt_of_cell hm)).trans hm⟩, ⟨t1, p1, (hb.cell (Lib.lt_of_cell h1)).trans h1⟩, ⟨t2, p2, (hb.cell (Lib.lt_of_cell h2)).trans h2⟩, var?_below hb gPow (Lib.lt_of_cell hz) ht⟩
theorem below_step {w a b : World} (h : Below w.heap.size w a) (k : Below a.heap.size a b) : Below w.heap.size w b := h.trans (k.mono h.size)
theorem below_drews {w : World} (n : Nat) : Below w.heap.size w (w.drewN n) := below_drewN (Below.refl _ _) n
theorem Env.drewN {w : World} (h : Env w) (n : Nat) : Env (w.drewN n) := h.below (below_drews n)
theorem mk_data (s : ByteArray) : (⟨s.data.toList.toArray⟩ : ByteArray) = s := by cases s; simp
theorem data_mk (l : List UInt8) : (⟨l.toArray⟩ : ByteArray).data.toList = l := by simp
theorem size_mk (l : List UInt8) : (⟨l.toArray⟩ : ByteArray).size = l.length := by simp [ByteArray.size]
theorem size_data (s : ByteArray) : s.data.toList.length = s.size := by simp
theorem ret_pair {a b a' b' : Value} (h : a = a') (k : b = b') : Ending.returned (.tuple #[a, b]) = .returned (.tuple #[a', b']) := by rw [h, k]
theorem ret_three {a b c a' b' c' : Value} (h : a = a') (k : b = b') (j : c = c') : Ending.returned (.tuple #[a, b, c]) = .returned (.tuple #[a', b', c']) := by rw [h, k, j]
end Go.Proofs.YtlojeeakjgalpaaDoor
