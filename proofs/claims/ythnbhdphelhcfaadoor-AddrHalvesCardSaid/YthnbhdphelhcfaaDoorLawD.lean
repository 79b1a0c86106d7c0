/- Walks: the laws AddrBack, AddrIn, AddrHalves. -/
import Derived.Test.YthnbhdphelhcfaaDoorAwk
import Derived.Deep.RegionHeld3
namespace Adr
open Go Go.RowKit
theorem cut_int (N B : Int) (h0 : 0 ≤ N) (h1 : N < 4294967296) (b0 : 0 ≤ B) (b1 : B ≤ 32) : wrap64 (N / 2 ^ (32 - B).toNat * 2 ^ (32 - B).toNat) = ((cutTo N.toNat B.toNat : Nat) : Int) := by
  obtain ⟨n, rfl⟩ := Int.eq_ofNat_of_zero_le h0
  obtain ⟨b, rfl⟩ := Int.eq_ofNat_of_zero_le b0
  have hle := cutTo_le n b
  unfold cutTo at hle ⊢
  rw [Int.toNat_natCast, Int.toNat_natCast, show (32 - (b : Int)).toNat = 32 - b by omega, show ((2 : Int) ^ (32 - b)) = ((2 ^ (32 - b) : Nat) : Int) by simp]
  generalize 2 ^ (32 - b) = m at *
  rw [← Int.natCast_ediv, ← Int.natCast_mul]
  exact IntWalk.wrap64_in _ (by omega)
theorem cut_bd (N B : Int) (h0 : 0 ≤ N) (h1 : N < 4294967296) : cutTo N.toNat B.toNat < 4294967296 := by
  have := cutTo_le N.toNat B.toNat; omega
theorem half_int (N B : Int) (h0 : 0 ≤ N) (h1 : N < 4294967296) (b0 : 0 ≤ B) (b1 : B < 32) : wrap64 (((cutTo N.toNat B.toNat : Nat) : Int) + wrap64 (2 ^ (31 - B).toNat)) = ((half N.toNat B.toNat : Nat) : Int) := by
  obtain ⟨b, rfl⟩ := Int.eq_ofNat_of_zero_le b0
  have hle := cut_bd N b h0 h1
  have hp := pow_le (31 - b) (by omega)
  unfold half
  rw [Int.toNat_natCast] at hle ⊢
  rw [show (31 - (b : Int)).toNat = 31 - b by omega, show ((2 : Int) ^ (31 - b)) = ((2 ^ (31 - b) : Nat) : Int) by simp]
  generalize 2 ^ (31 - b) = m at *
  rw [IntWalk.wrap64_in (m : Int) (by omega), IntWalk.wrap64_in _ (by omega)]
  omega
theorem shift_eq (n k : Int) (B : Int) (hn : 0 ≤ n) (hk : 0 ≤ k) (b0 : 0 ≤ B) (b1 : B ≤ 32) : (k / 2 ^ (32 - B).toNat == n / 2 ^ (32 - B).toNat) = decide (k.toNat / 2 ^ (32 - B.toNat) = n.toNat / 2 ^ (32 - B.toNat)) := by
  obtain ⟨n, rfl⟩ := Int.eq_ofNat_of_zero_le hn
  obtain ⟨k, rfl⟩ := Int.eq_ofNat_of_zero_le hk
  obtain ⟨b, rfl⟩ := Int.eq_ofNat_of_zero_le b0
  rw [Int.toNat_natCast, Int.toNat_natCast, Int.toNat_natCast, show (32 - (b : Int)).toNat = 32 - b by omega, show ((2 : Int) ^ (32 - b)) = ((2 ^ (32 - b) : Nat) : Int) by simp]
  generalize 2 ^ (32 - b) = m
  rw [← Int.natCast_ediv, ← Int.natCast_ediv, Bool.eq_iff_iff]
  simp only [beq_iff_eq, decide_eq_true_eq]
  omega
end Adr
namespace Go.Proofs.YthnbhdphelhcfaaDoor
open Go.RowKit

theorem In_is (n b ip : Int) (x : Bool) (h : Adr.isIn n b ip = x) (W : World) : Calls Tryd.prog 26 #[.int .i64 n, .int .i64 b, .int .i64 ip] W fun e w' => e = .returned (.bool x) ∧ W = w' := by
  subst h; exact in_any n b ip W

set_option maxHeartbeats 4000000 in
set_option maxRecDepth 100000 in
theorem addrBack_any (ip mac bits : Int) (w : World) (hE : Env w) (hi : 0 ≤ ip ∧ ip ≤ 18446744073709551615) (hm : 0 ≤ mac ∧ mac ≤ 18446744073709551615) (hb : 0 ≤ bits ∧ bits ≤ 255) :
    Calls Tryd.prog 5 #[.int .u64 ip, .int .u64 mac, .int .u8 bits] w fun e w' => e = .returned (.bool true) ∧ Below w.heap.size w w' := by
  obtain ⟨hi0, hi1⟩ := hi
  obtain ⟨hm0, hm1⟩ := hm
  obtain ⟨hb0, hb1⟩ := hb
  obtain ⟨N, hN⟩ : ∃ N, ip % 4294967296 = N := ⟨_, rfl⟩
  obtain ⟨B, hB⟩ : ∃ B, bits % 33 = B := ⟨_, rfl⟩
  obtain ⟨M, hM⟩ : ∃ M, mac % 281474976710656 = M := ⟨_, rfl⟩
  have n0 : 0 ≤ N := by omega
  have n1 : N < 4294967296 := by omega
  have b0 : 0 ≤ B := by omega
  have b1 : B ≤ 32 := by omega
  have m0 : 0 ≤ M := by omega
  have m1 : M < 281474976710656 := by omega
  have hcut := Adr.cut_int N B n0 n1 b0 b1
  have hcb := Adr.cut_bd N B n0 n1
  have hr := Adr.right_cut N.toNat B.toNat (by omega) (by omega)
  have hin := Adr.in_self N.toNat B.toNat (by omega) (by omega)
  have eN : ((N.toNat : Nat) : Int) = N := by omega
  have eB : ((B.toNat : Nat) : Int) = B := by omega
  rw [eB] at hr hin
  rw [eN] at hin
  generalize Adr.cutTo N.toNat B.toNat = p at *
  have H1 := Lib.hid (show ∀ W, Env W → _ from fun W hW => ipText_any N W hW n0 n1)
  have H2 := Lib.hid (show ∀ W, Env W → _ from fun W hW => preText_any p B W hW hr)
  have H3 := Lib.hid (show ∀ W, _ from fun W => macText_any M W m0 m1)
  have hl1 := pre_text_len N.toNat (by omega)
  have H4 := Lib.hid (show ∀ W, Env W → Calls Tryd.prog 13 #[.string ⟨(Adr.ipText N.toNat).toArray⟩] W fun e w' => e = .returned (.tuple #[.int .i64 N, .bool true]) ∧ Below W.heap.size W w' from fun W hW => by
    have := ip_any ⟨(Adr.ipText N.toNat).toArray⟩ W hW (by rw [size_mk]; omega)
    rw [data_mk, Adr.ip_text _ (by omega), eN, okRet_yes n0] at this; exact this)
  have H5 := Lib.hid (show ∀ W, Env W → Calls Tryd.prog 15 #[.string ⟨(Adr.preText (p : Int).toNat B.toNat).toArray⟩] W fun e w' => e = .returned (.tuple #[.int .i64 p, .int .i64 B, .bool true]) ∧ Below W.heap.size W w' from fun W hW => by
    rw [Int.toNat_natCast]
    have := pre_any ⟨(Adr.preText p B.toNat).toArray⟩ W hW (by
      rw [size_mk]; unfold Adr.preText
      have a := pre_text_len p hcb
      have b := dec_len B.toNat
      simp only [List.length_append, List.length_cons]; omega)
    rw [data_mk, Adr.pre_text p B.toNat (by rw [eB]; exact hr), eB, preRet_yes (by simp)] at this; exact this)
  have H6 := Lib.hid (show ∀ W, Env W → Calls Tryd.prog 17 #[.string ⟨(Adr.macText M.toNat).toArray⟩] W fun e w' => e = .returned (.tuple #[.int .i64 M, .bool true]) ∧ Below W.heap.size W w' from fun W hW => by
    have := mac_any ⟨(Adr.macText M.toNat).toArray⟩ W hW (by
      rw [size_mk, ← Adr.macLow_all]
      have := Adr.macLow_len M.toNat 6 (by omega)
      omega)
    rw [data_mk, Adr.mac_text _ (by omega), show ((M.toNat : Nat) : Int) = M by omega, okRet_yes m0] at this; exact this)
  have H7 := Lib.hid (show ∀ W, _ from fun W => In_is p B N true hin W)
  clear eN eB hr hin hl1 hcb
  generalize Adr.ipText N.toNat = T at *
  generalize Adr.preText (p : Int).toNat B.toNat = U at *
  generalize Adr.macText M.toNat = V at *
  go_enter Tryd.func5, Tryd.ntmps5
  go_wp2_with fail
  refine (H1.out _ hE).mono ?_
  rintro e w1 ⟨rfl, hb1⟩
  have hE1 := hE.below hb1
  go_wp2_with fail
  refine (H2.out _ hE1).mono ?_
  rintro e w2 ⟨rfl, hb2⟩
  have hE2 := hE1.below hb2
  go_wp2_with fail
  refine (H3.out _).mono ?_
  rintro e w3 ⟨rfl, hb3⟩
  have hE3 := hE2.below hb3
  go_wp2_with fail
  refine (H4.out _ hE3).mono ?_
  rintro e w4 ⟨rfl, hb4⟩
  have hE4 := hE3.below hb4
  go_wp2_with fail
  refine (H5.out _ hE4).mono ?_
  rintro e w5 ⟨rfl, hb5⟩
  have hE5 := hE4.below hb5
  go_wp2_with fail
  refine (H6.out _ hE5).mono ?_
  rintro e w6 ⟨rfl, hb6⟩
  have hE6 := hE5.below hb6
  go_wp2_with fail
  refine (H7.out _).mono ?_
  rintro e w7 ⟨rfl, rfl⟩
  go_wp2_with fail
  refine (awake_any _ hE6).mono ?_
  rintro e w8 ⟨rfl, hb8⟩
  go_wp2_with fail
  go_ret
  exact ⟨rfl, below_step hb1 (below_step hb2 (below_step hb3 (below_step hb4 (below_step hb5 (below_step hb6 hb8)))))⟩

set_option maxHeartbeats 4000000 in
set_option maxRecDepth 100000 in
theorem addrHalves_any (ip bits : Int) (w : World) (hE : Env w) (hi : 0 ≤ ip ∧ ip ≤ 18446744073709551615) (hb : 0 ≤ bits ∧ bits ≤ 255) :
    Calls Tryd.prog 9 #[.int .u64 ip, .int .u8 bits] w fun e w' => e = .returned (.bool true) ∧ Below w.heap.size w w' := by
  obtain ⟨hi0, hi1⟩ := hi
  obtain ⟨hb0, hb1⟩ := hb
  obtain ⟨N, hN⟩ : ∃ N, ip % 4294967296 = N := ⟨_, rfl⟩
  obtain ⟨B, hB⟩ : ∃ B, bits % 32 = B := ⟨_, rfl⟩
  have n0 : 0 ≤ N := by omega
  have n1 : N < 4294967296 := by omega
  have b0 : 0 ≤ B := by omega
  have b1 : B < 32 := by omega
  have hcut := Adr.cut_int N B n0 n1 b0 (by omega)
  have hhalf := Adr.half_int N B n0 n1 b0 b1
  obtain ⟨hr, hq, hx⟩ := Adr.half_all N.toNat B.toNat (by omega) (by omega)
  have hin := Adr.in_self N.toNat B.toNat (by omega) (by omega)
  have eN : ((N.toNat : Nat) : Int) = N := by omega
  have eB : ((B.toNat : Nat) : Int) = B := by omega
  have eB1 : ((B.toNat + 1 : Nat) : Int) = B + 1 := by omega
  rw [eB1] at hr hx
  rw [eB] at hin hq
  rw [eN] at hin hx
  generalize Adr.cutTo N.toNat B.toNat = p at *
  generalize Adr.half N.toNat B.toNat = q at *
  have H1 := Lib.hid (show ∀ W, Env W → _ from fun W hW => preText_any q (B + 1) W hW hr)
  have H2 := Lib.hid (show ∀ W, _ from fun W => In_is p B N true hin W)
  have H3 := Lib.hid (show ∀ W, _ from fun W => In_is p B q true hq W)
  have H4 := Lib.hid (show ∀ W, _ from fun W => In_is p (B + 1) N _ rfl W)
  have H5 := Lib.hid (show ∀ W, _ from fun W => In_is q (B + 1) N (!(Adr.isIn p (B + 1) N)) (by cases h : Adr.isIn p (B + 1) N <;> cases h' : Adr.isIn q (B + 1) N <;> simp_all) W)
  generalize Adr.isIn p (B + 1) N = x at *
  clear eN eB eB1 hr hin hq hx
  generalize Adr.preText (q : Int).toNat (B + 1).toNat = U at *
  go_enter Tryd.func9, Tryd.ntmps9
  go_wp2_with fail
  refine (H1.out _ hE).mono ?_
  rintro e w1 ⟨rfl, hb1⟩
  have hE1 := hE.below hb1
  go_wp2_with fail
  refine (H2.out _).mono ?_
  rintro e w2 ⟨rfl, rfl⟩
  go_wp2_with fail
  refine (H3.out _).mono ?_
  rintro e w3 ⟨rfl, rfl⟩
  go_wp2_with fail
  refine (H4.out _).mono ?_
  rintro e w4 ⟨rfl, rfl⟩
  go_wp2_with fail
  refine (H5.out _).mono ?_
  rintro e w5 ⟨rfl, rfl⟩
  go_wp2_with fail
  refine (awake_any _ hE1).mono ?_
  rintro e w6 ⟨rfl, hb6⟩
  go_wp2_with fail
  go_ret
  exact ⟨rfl, below_step hb1 hb6⟩
end Go.Proofs.YthnbhdphelhcfaaDoor
