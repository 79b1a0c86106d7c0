/- Walks: the texts of addresses, prefixes, hardware addresses: the program's and the reference's. -/
import Derived.Test.YtlojeeakjgalpaaDoorTxtW
namespace Adr
open Go Go.Lib
def ipParts (n : Nat) : List (List UInt8) := [decDigits (n / 16777216), decDigits (n / 65536 % 256), decDigits (n / 256 % 256), decDigits (n % 256)]
theorem ipText_parts' (n : Nat) : ipText n = glue 46 (ipParts n) := rfl
end Adr
namespace Go.Proofs.YtlojeeakjgalpaaDoor
open Go.RowKit

/-- A short numeral. -/
def Short (n : Int) (w : World) (e : Ending) (w' : World) : Prop := ∃ D : List UInt8, e = .returned (.string ⟨D.toArray⟩) ∧ D.length ≤ 300 ∧ Hid (D = Lib.decDigits n.toNat) ∧ Below w.heap.size w w'
theorem digits_short (n : Int) (w : World) (h0 : 0 ≤ n) (h : n < 256) : Calls Tryd.prog 42 #[.int .i64 n] w (Short n w) :=
  (digits_any n w h0 (by omega) (by omega)).mono fun _ _ ⟨he, hb⟩ => ⟨_, he, by have := dec_len n.toNat; omega, Lib.hid rfl, hb⟩
theorem itoa_short (n : Int) (w : World) (hE : Env w) (h0 : 0 ≤ n) (h : n < 256) : Calls Tryd.prog 46 #[.int .i64 n] w (Short n w) :=
  (itoa_any n w hE (by omega) (by omega)).mono fun _ _ ⟨he, hb⟩ => ⟨Lib.decDigits n.toNat, by rw [he]; unfold Lib.itoa; rw [if_neg (by omega)], by have := dec_len n.toNat; omega, Lib.hid rfl, hb⟩
theorem str_eq {s : ByteArray} {l : List UInt8} (h : s.data.toList = l) : s = ⟨l.toArray⟩ := by rw [← h, mk_data]

set_option maxHeartbeats 1000000 in
set_option maxRecDepth 100000 in
theorem refIpText_any (n : Int) (w : World) (h0 : 0 ≤ n) (h : n < 4294967296) :
    Calls Tryd.prog 20 #[.int .i64 n] w fun e w' => e = .returned (.string ⟨(Adr.ipText n.toNat).toArray⟩) ∧ Below w.heap.size w w' := by
  go_enter Tryd.func20, Tryd.ntmps20
  go_wp2_with fail
  refine (digits_short _ _ (by omega) (by omega)).mono ?_
  rintro e w1 ⟨D1, rfl, hl1, HD1, hb1⟩
  go_wp2_with fail
  refine (digits_short _ _ (by omega) (by omega)).mono ?_
  rintro e w2 ⟨D2, rfl, hl2, HD2, hb2⟩
  go_wp2_with fail
  refine (digits_short _ _ (by omega) (by omega)).mono ?_
  rintro e w3 ⟨D3, rfl, hl3, HD3, hb3⟩
  go_wp2_with fail
  refine (digits_short _ _ (by omega) (by omega)).mono ?_
  rintro e w4 ⟨D4, rfl, hl4, HD4, hb4⟩
  go_wp2_with fail
  go_ret
  refine ⟨ret_str (str_eq ?_), below_step (below_step (below_step hb1 hb2) hb3) hb4⟩
  have e1 := HD1.out; have e2 := HD2.out; have e3 := HD3.out; have e4 := HD4.out
  rw [show (n / 16777216).toNat = n.toNat / 16777216 by omega] at e1
  rw [show (n / 65536 % 256).toNat = n.toNat / 65536 % 256 by omega] at e2
  rw [show (n / 256 % 256).toNat = n.toNat / 256 % 256 by omega] at e3
  rw [show (n % 256).toNat = n.toNat % 256 by omega] at e4
  unfold Adr.ipText
  rw [← e1, ← e2, ← e3, ← e4]
  simp [Adr.glue]

theorem and_255 (x : Int) (h0 : 0 ≤ x) (h : x < 9223372036854775808) : bits .and .i64 x 255 = x % 256 := by
  obtain ⟨a, rfl⟩ := Int.eq_ofNat_of_zero_le h0
  have e : (255 : Int) = ((255 : Nat) : Int) := rfl
  rw [e, Adr.and_nat a 255 (by omega) (by decide)]
  have := Nat.and_two_pow_sub_one_eq_mod a 8
  simp only [Nat.reducePow, Nat.add_one_sub_one] at this
  rw [show (255 : Nat) = 256 - 1 by decide, this]; omega

set_option maxHeartbeats 2000000 in
set_option maxRecDepth 100000 in
theorem ipText_any (n : Int) (w : World) (hE : Env w) (h0 : 0 ≤ n) (h : n < 4294967296) :
    Calls Tryd.prog 45 #[.int .i64 n] w fun e w' => e = .returned (.tuple #[.string ⟨(Adr.ipText n.toNat).toArray⟩, .bool true]) ∧ Below w.heap.size w w' := by
  obtain ⟨i0, hi, hz0, hz1, hz2⟩ := info_parts info_string
  go_enter Tryd.func45, Tryd.ntmps45
  go_wp2_with fail
  refine wp_loop_rounds 5 ?_
  rw [rounds_succ]
  go_wp2_with fail
  rw [and_255 _ (by omega) (by omega)]
  refine (itoa_short _ _ hE (by omega) (by omega)).mono ?_
  rintro e w1 ⟨D1, rfl, hl1, HD1, hb1⟩
  have hown0 : w1.ownsRow w.heap.size 9 1 (.slice none 0 0) 0 [] := World.ownsRow_nil _ _ _ _
  go_wp2_with (at_builtin; refine app_new rfl _ _ 54 rfl w w1 9 i0 _ 1 16 Tryd.underlying54 hi hz0 hz1 hz2 rfl (by decide) (by decide) hown0 hb1 rfl 1 1 [.string ⟨D1.toArray⟩] rfl rfl (by simp; rfl) (by omega) ?_; intro v1 x1 hown1 hc1)
  rw [rounds_succ]
  go_wp2_with fail
  rw [and_255 _ (by omega) (by omega)]
  refine (itoa_short _ _ (hE.below hc1) (by omega) (by omega)).mono ?_
  rintro e w2 ⟨D2, rfl, hl2, HD2, hb2⟩
  have hown1' := own_below hown1 hb2
  have hc1' := below_step hc1 hb2
  go_wp2_with (at_builtin; refine app_new rfl _ _ 54 rfl w w2 9 i0 _ 1 16 Tryd.underlying54 hi hz0 hz1 hz2 rfl (by decide) (by decide) hown1' hc1' rfl 1 1 [.string ⟨D2.toArray⟩] rfl rfl (by simp; rfl) (by omega) ?_; intro v2 x2 hown2 hc2)
  clear hown1 hown1' hc1' hc1 hb2
  rw [rounds_succ]
  go_wp2_with fail
  rw [and_255 _ (by omega) (by omega)]
  refine (itoa_short _ _ (hE.below hc2) (by omega) (by omega)).mono ?_
  rintro e w3 ⟨D3, rfl, hl3, HD3, hb3⟩
  have hown2' := own_below hown2 hb3
  have hc2' := below_step hc2 hb3
  go_wp2_with (at_builtin; refine app_new rfl _ _ 54 rfl w w3 9 i0 _ 1 16 Tryd.underlying54 hi hz0 hz1 hz2 rfl (by decide) (by decide) hown2' hc2' rfl 1 1 [.string ⟨D3.toArray⟩] rfl rfl (by simp; rfl) (by omega) ?_; intro v3 x3 hown3 hc3)
  clear hown2 hown2' hc2' hc2 hb3
  rw [rounds_succ]
  go_wp2_with fail
  rw [and_255 _ (by omega) (by omega)]
  refine (itoa_short _ _ (hE.below hc3) (by omega) (by omega)).mono ?_
  rintro e w4 ⟨D4, rfl, hl4, HD4, hb4⟩
  have hown3' := own_below hown3 hb4
  have hc3' := below_step hc3 hb4
  go_wp2_with (at_builtin; refine app_new rfl _ _ 54 rfl w w4 9 i0 _ 1 16 Tryd.underlying54 hi hz0 hz1 hz2 rfl (by decide) (by decide) hown3' hc3' rfl 1 1 [.string ⟨D4.toArray⟩] rfl rfl (by simp; rfl) (by omega) ?_; intro v4 x4 hown4 hc4)
  clear hown3 hown3' hc3' hc3 hb4
  rw [rounds_succ]
  have HD := Lib.hid (show Adr.ipText n.toNat = Adr.glue 46 [D1, D2, D3, D4] by
    have e1 := HD1.out; have e2 := HD2.out; have e3 := HD3.out; have e4 := HD4.out
    rw [show (n / 16777216 % 256).toNat = n.toNat / 16777216 by omega] at e1
    rw [show (n / 65536 % 256).toNat = n.toNat / 65536 % 256 by omega] at e2
    rw [show (n / 256 % 256).toNat = n.toNat / 256 % 256 by omega] at e3
    rw [show (n % 256).toNat = n.toNat % 256 by omega] at e4
    unfold Adr.ipText
    rw [← e1, ← e2, ← e3, ← e4])
  have hlen := glue_len 46 [D1, D2, D3, D4] 300 (by simp; omega)
  simp only [List.length_cons, List.length_nil] at hlen
  have Hlen := Lib.hid hlen
  clear hlen HD1 HD2 HD3 HD4
  obtain ⟨A, cap, rfl, hcap, _, hrd⟩ := rd_own hown4
  have hsp := Lib.hid (rd_own_spot hown4)
  have Hrd := Lib.hid (show Rd x4 1 A [D1, D2, D3, D4].length (strs [D1, D2, D3, D4]) from hrd)
  clear hown4 hrd
  go_wp2_with fail
  refine (join_any A cap [D1, D2, D3, D4] 46 _ (by simpa using hcap) Hrd.out hsp.out (Nat.le_trans Hlen.out (by decide)) (by simp)).mono ?_
  rintro e w5 ⟨rfl, hb5⟩
  go_wp2_with fail
  go_ret2
  exact ⟨by rw [HD.out]; rfl, below_step hc4 hb5⟩
end Go.Proofs.YtlojeeakjgalpaaDoor
