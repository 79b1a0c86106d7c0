/- Walks: the laws AddrBack, AddrIn, AddrHalves. -/
import Derived.Test.YtlojeeakjgalpaaDoorAwk
import Derived.Deep.RegionHeld3
namespace Adr
open Go Go.RowKit
theorem cut_int (N B : Int) (h0 : 0 ≤ N) (h1 : N < 4294967296) (b0 : 0 ≤ B) (b1 : B ≤ 32) : wrap64 (N / 2 ^ (32 - B).toNat * 2 ^ (32 - B).toNat) = ((cutTo N.toNat B.toNat : Nat) : Int) := by
  obtain ⟨n, rfl⟩ := Int.eq_ofNat_of_zero_le h0
  obtain ⟨b, rfl⟩ := Int.eq_ofNat_of_zero_le b0
  have hle := cutTo_le n b
  unfold cutTo at hle ⊢
  rw [Int.toNat_natCast, Int.toNat_natCast, show (32 - (b : Int)).toNat = 32 - b by omega, show ((2 : Int) ^ (32 - b)) = ((2 ^ (32 - b) : Nat) : Int) by simp]
  generalize 2 ^ (32 - b) = m at *
  rw [← Int.natCast_ediv, ← Int.natCast_mul]
  exact IntWalk.wrap64_in _ (by omega)
theorem cut_bd (N B : Int) (h0 : 0 ≤ N) (h1 : N < 4294967296) : cutTo N.toNat B.toNat < 4294967296 := by
  have := cutTo_le N.toNat B.toNat; omega
theorem half_int (N B : Int) (h0 : 0 ≤ N) (h1 : N < 4294967296) (b0 : 0 ≤ B) (b1 : B < 32) : wrap64 (((cutTo N.toNat B.toNat : Nat) : Int) + wrap64 (2 ^ (31 - B).toNat)) = ((half N.toNat B.toNat : Nat) : Int) := by
  obtain ⟨b, rfl⟩ := Int.eq_ofNat_of_zero_le b0
  have hle := cut_bd N b h0 h1
  have hp := pow_le (31 - b) (by omega)
  unfold half
  rw [Int.toNat_natCast] at hle ⊢
  rw [show (31 - (b : Int)).toNat = 31 - b by omega, show ((2 : Int) ^ (31 - b)) = ((2 ^ (31 - b) : Nat) : Int) by simp]
  generalize 2 ^ (31 - b) = m at *
  rw [IntWalk.wrap64_in (m : Int) (by omega), IntWalk.wrap64_in _ (by omega)]
  omega
theorem shift_eq (n k : Int) (B : Int) (hn : 0 ≤ n) (hk : 0 ≤ k) (b0 : 0 ≤ B) (b1 : B ≤ 32) : (k / 2 ^ (32 - B).toNat == n / 2 ^ (32 - B).toNat) = decide (k.toNat / 2 ^ (32 - B.toNat) = n.toNat / 2 ^ (32 - B.toNat)) := by
  obtain ⟨n, rfl⟩ := Int.eq_ofNat_of_zero_le hn
  obtain ⟨k, rfl⟩ := Int.eq_ofNat_of_zero_le hk
  obtain ⟨b, rfl⟩ := Int.eq_ofNat_of_zero_le b0
  rw [Int.toNat_natCast, Int.toNat_natCast, Int.toNat_natCast, show (32 - (b : Int)).toNat = 32 - b by omega, show ((2 : Int) ^ (32 - b)) = ((2 ^ (32 - b) : Nat) : Int) by simp]
  generalize 2 ^ (32 - b) = m
  rw [← Int.natCast_ediv, ← Int.natCast_ediv, Bool.eq_iff_iff]
  simp only [beq_iff_eq, decide_eq_true_eq]
  omega
end Adr
namespace Go.Proofs.YtlojeeakjgalpaaDoor
open Go.RowKit

theorem In_is (n b ip : Int) (x : Bool) (h : Adr.isIn n b ip = x) (W : World) : Calls Tryd.prog 10 #[.int .i64 n, .int .i64 b, .int .i64 ip] W fun e w' => e = .returned (.bool x) ∧ W = w' := by
  subst h; exact in_any n b ip W


end Go.Proofs.YtlojeeakjgalpaaDoor
