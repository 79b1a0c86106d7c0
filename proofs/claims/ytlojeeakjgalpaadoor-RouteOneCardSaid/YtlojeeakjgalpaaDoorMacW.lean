/- Walks: a prefix' text; a hardware address of a text: the program's and the reference's; the reference's text of one. -/
import Derived.Test.YtlojeeakjgalpaaDoorMacT
namespace Adr
open Go
def macLow (n k : Nat) : List UInt8 := glue 58 ((Go.Proofs.YtlojeeakjgalpaaDoor.macParts n).drop (6 - k))
theorem macLow_zero (n : Nat) : macLow n 0 = [] := rfl
theorem macLow_all (n : Nat) : macLow n 6 = macText n := rfl
theorem macLow_len (n k : Nat) (hk : k ≤ 6) : (macLow n k).length ≤ 18 := by
  have hc : k = 0 ∨ k = 1 ∨ k = 2 ∨ k = 3 ∨ k = 4 ∨ k = 5 ∨ k = 6 := by omega
  rcases hc with rfl | rfl | rfl | rfl | rfl | rfl | rfl <;> simp [macLow, Go.Proofs.YtlojeeakjgalpaaDoor.macParts, glue, mac2]
/-- The part that the k-th round lays ahead. -/
def macByte (n : Int) : Nat → Int
  | 0 => n
  | k + 1 => macByte n k / 256
theorem macByte_zero (n : Int) : macByte n 0 = n := rfl
theorem macByte_succ (n : Int) (k : Nat) : macByte n (k + 1) = macByte n k / 256 := rfl
theorem macByte_bd (n : Int) (k : Nat) (h0 : 0 ≤ n) (h : n < 281474976710656) : 0 ≤ macByte n k ∧ macByte n k < 281474976710656 := by
  induction k with
  | zero => rw [macByte_zero]; exact ⟨h0, h⟩
  | succ k ih => rw [macByte_succ]; omega
theorem macByte_eq (n : Int) (k : Nat) (hk : k < 6) : macByte n k = n / (if k = 0 then 1 else if k = 1 then 256 else if k = 2 then 65536 else if k = 3 then 16777216 else if k = 4 then 4294967296 else 1099511627776) := by
  have hc : k = 0 ∨ k = 1 ∨ k = 2 ∨ k = 3 ∨ k = 4 ∨ k = 5 := by omega
  rcases hc with rfl | rfl | rfl | rfl | rfl | rfl <;> simp [macByte] <;> omega
theorem macLow_succ (n : Int) (k : Nat) (hk : k < 6) (h0 : 0 ≤ n) : macLow n.toNat (k + 1) = mac2 (macByte n k % 256).toNat ++ (if 0 < k then 58 :: macLow n.toNat k else macLow n.toNat k) := by
  rw [macByte_eq n k hk]
  have hc : k = 0 ∨ k = 1 ∨ k = 2 ∨ k = 3 ∨ k = 4 ∨ k = 5 := by omega
  rcases hc with rfl | rfl | rfl | rfl | rfl | rfl
  · rw [show (n / (if 0 = 0 then 1 else if 0 = 1 then 256 else if 0 = 2 then 65536 else if 0 = 3 then 16777216 else if 0 = 4 then 4294967296 else 1099511627776) % 256).toNat = n.toNat % 256 by simp; omega]
    simp [macLow, Go.Proofs.YtlojeeakjgalpaaDoor.macParts, glue]
  · rw [show (n / (if 1 = 0 then 1 else if 1 = 1 then 256 else if 1 = 2 then 65536 else if 1 = 3 then 16777216 else if 1 = 4 then 4294967296 else 1099511627776) % 256).toNat = n.toNat / 256 % 256 by simp; omega]
    rfl
  · rw [show (n / (if 2 = 0 then 1 else if 2 = 1 then 256 else if 2 = 2 then 65536 else if 2 = 3 then 16777216 else if 2 = 4 then 4294967296 else 1099511627776) % 256).toNat = n.toNat / 65536 % 256 by simp; omega]
    rfl
  · rw [show (n / (if 3 = 0 then 1 else if 3 = 1 then 256 else if 3 = 2 then 65536 else if 3 = 3 then 16777216 else if 3 = 4 then 4294967296 else 1099511627776) % 256).toNat = n.toNat / 16777216 % 256 by simp; omega]
    rfl
  · rw [show (n / (if 4 = 0 then 1 else if 4 = 1 then 256 else if 4 = 2 then 65536 else if 4 = 3 then 16777216 else if 4 = 4 then 4294967296 else 1099511627776) % 256).toNat = n.toNat / 4294967296 % 256 by simp; omega]
    rfl
  · rw [show (n / (if 5 = 0 then 1 else if 5 = 1 then 256 else if 5 = 2 then 65536 else if 5 = 3 then 16777216 else if 5 = 4 then 4294967296 else 1099511627776) % 256).toNat = n.toNat / 1099511627776 % 256 by simp; omega]
    rfl
end Adr
namespace Go.Proofs.YtlojeeakjgalpaaDoor
open Go.RowKit

theorem str_nil : (⟨#[]⟩ : ByteArray) = ⟨([] : List UInt8).toArray⟩ := rfl
theorem pre_text_len (n : Nat) (h : n < 4294967296) : (Adr.ipText n).length ≤ 1300 := by
  have := glue_len 46 (Adr.ipParts n) 300 (by
    intro p hp
    unfold Adr.ipParts at hp
    simp only [List.mem_cons, List.not_mem_nil, or_false] at hp
    have a := dec_len (n / 16777216); have b := dec_len (n / 65536 % 256); have c := dec_len (n / 256 % 256); have d := dec_len (n % 256)
    rcases hp with rfl | rfl | rfl | rfl <;> omega)
  rw [Adr.ipText_parts']
  exact Nat.le_trans this (by show 4 * 301 ≤ _; decide)

set_option maxHeartbeats 1000000 in
set_option maxRecDepth 100000 in
theorem preText_any (n b : Int) (w : World) (hE : Env w) (hr : Adr.right n b = true) :
    Calls Tryd.prog 24 #[.int .i64 n, .int .i64 b] w fun e w' => e = .returned (.tuple #[.string ⟨(Adr.preText n.toNat b.toNat).toArray⟩, .bool true]) ∧ Below w.heap.size w w' := by
  obtain ⟨n0, n1, b0, b1, _⟩ := Adr.right_bd hr
  have hl := pre_text_len n.toNat (by omega)
  have HR := Lib.hid hr
  have HI := Lib.hid (show ∀ W, Env W → _ from fun W hW => ipText_any n W hW n0 n1)
  have HF := Lib.hid (show Adr.preText n.toNat b.toNat = Adr.ipText n.toNat ++ 47 :: Lib.decDigits b.toNat from rfl)
  generalize Adr.ipText n.toNat = T at *
  clear hr
  go_enter Tryd.func24, Tryd.ntmps24
  go_wp2_with fail
  refine (right_any _ _ _).mono ?_
  rintro e w0 ⟨rfl, rfl⟩
  rw [HR.out]
  go_wp2_with fail
  refine (HI.out _ hE).mono ?_
  rintro e w1 ⟨rfl, hb1⟩
  go_wp2_with fail
  refine (itoa_short _ _ (hE.below hb1) (by omega) (by omega)).mono ?_
  rintro e w2 ⟨D, rfl, hlD, HD, hb2⟩
  go_wp2_with fail
  go_ret2
  refine ⟨?_, below_step hb1 hb2⟩
  rw [HF.out, ← HD.out]
  refine ret_pair (congrArg Value.string (str_eq ?_)) rfl
  simp
theorem preText_no (n b : Int) (w : World) (hr : Adr.right n b = false) :
    Calls Tryd.prog 24 #[.int .i64 n, .int .i64 b] w fun e w' => e = .returned (.tuple #[.string ⟨#[]⟩, .bool false]) ∧ w = w' := by
  have HR := Lib.hid hr
  clear hr
  go_enter Tryd.func24, Tryd.ntmps24
  go_wp2_with fail
  refine (right_any _ _ _).mono ?_
  rintro e w0 ⟨rfl, rfl⟩
  rw [HR.out]
  go_wp2_with fail
  go_ret2
  exact ⟨rfl, rfl⟩

end Go.Proofs.YtlojeeakjgalpaaDoor
