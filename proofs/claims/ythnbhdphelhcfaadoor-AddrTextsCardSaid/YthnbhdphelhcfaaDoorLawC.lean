/- Walks: the law AddrTexts. -/
import Derived.Test.YthnbhdphelhcfaaDoorAwk
namespace Go.Proofs.YthnbhdphelhcfaaDoor
open Go.RowKit

theorem list_beq (l : List UInt8) : (l == l) = true := by simp
/-- What is in a prefix, the program's and the reference's: one Bool. -/
theorem in_both (n b ip : Int) : ∃ x : Bool, (∀ W, Calls Tryd.prog 26 #[.int .i64 n, .int .i64 b, .int .i64 ip] W fun e w' => e = .returned (.bool x) ∧ W = w') ∧ (∀ W, Calls Tryd.prog 27 #[.int .i64 n, .int .i64 b, .int .i64 ip] W fun e w' => e = .returned (.bool x) ∧ Below W.heap.size W w') :=
  ⟨Adr.isIn n b ip, in_any n b ip, refIn_any n b ip⟩

set_option maxHeartbeats 4000000 in
set_option maxRecDepth 100000 in
theorem addrTexts_any (n b ip : Int) (w : World) (hE : Env w) :
    Calls Tryd.prog 4 #[.int .i64 n, .int .i64 b, .int .i64 ip] w fun e w' => e = .returned (.bool true) ∧ Below w.heap.size w w' := by
  obtain ⟨x, hin1, hin2⟩ := in_both n b ip
  have HA := Lib.hid hin1
  have HB := Lib.hid hin2
  clear hin1 hin2
  have hB0 := Below.refl w.heap.size w
  cases hr : Adr.right n b with
  | true =>
    obtain ⟨h0, h1, h2, h3, _⟩ := Adr.right_bd hr
    have HI := Lib.hid (show ∀ W, Env W → _ from fun W hW => ipText_any n W hW h0 h1)
    have HP := Lib.hid (show ∀ W, Env W → _ from fun W hW => preText_any n b W hW hr)
    have HM := Lib.hid (show ∀ W, _ from fun W => macText_any n W h0 (by omega))
    have HRI := Lib.hid (show ∀ W, _ from fun W => refIpText_any n W h0 h1)
    have HRM := Lib.hid (show ∀ W, _ from fun W => refMacText_any n W h0 (by omega))
    have HRR := Lib.hid (show ∀ W : World, Calls Tryd.prog 22 #[.int .i64 n, .int .i64 b] W fun e w' => e = .returned (.bool true) ∧ W = w' from fun W => by have := refRight_any n b W; rw [hr] at this; exact this)
    have HD := Lib.hid (show ∀ W, _ from fun W => digits_any b W h2 (by omega) (by omega))
    have hl := pre_text_len n.toNat (by omega)
    have hl2 := dec_len b.toNat
    have hcat : (⟨(Adr.ipText n.toNat).toArray⟩ : ByteArray) ++ (⟨#[47]⟩ : ByteArray) ++ (⟨(Lib.decDigits b.toNat).toArray⟩ : ByteArray) = ⟨(Adr.preText n.toNat b.toNat).toArray⟩ := by
      refine str_eq ?_
      unfold Adr.preText
      simp
    have hl3 : (Lib.decDigits b.toNat).length ≤ 100 := by omega
    clear hr hl2
    generalize Adr.preText n.toNat b.toNat = U at *
    generalize Adr.ipText n.toNat = T at *
    generalize Lib.decDigits b.toNat = D at *
    generalize Adr.macText n.toNat = M at *
    have hT := list_beq T
    have hU := list_beq U
    have hM := list_beq M
    go_enter Tryd.func4, Tryd.ntmps4
    go_wp2_with fail
    refine (HI.out _ hE).mono ?_
    rintro e w1 ⟨rfl, hb1⟩
    have hE1 := hE.below hb1
    have hB1 := below_step hB0 hb1
    clear hb1
    go_wp2_with fail
    refine (HP.out _ hE1).mono ?_
    rintro e w2 ⟨rfl, hb2⟩
    have hE2 := hE1.below hb2
    have hB2 := below_step hB1 hb2
    clear hb2
    go_wp2_with fail
    refine (HM.out _).mono ?_
    rintro e w3 ⟨rfl, hb3⟩
    have hE3 := hE2.below hb3
    have hB3 := below_step hB2 hb3
    clear hb3
    go_wp2_with fail
    refine (HRR.out _).mono ?_
    rintro e w4 ⟨rfl, rfl⟩
    go_wp2_with fail
    refine (HRI.out _).mono ?_
    rintro e w5 ⟨rfl, hb5⟩
    have hE5 := hE3.below hb5
    have hB5 := below_step hB3 hb5
    clear hb5
    go_wp2_with fail
    refine (HRI.out _).mono ?_
    rintro e w6 ⟨rfl, hb6⟩
    have hE6 := hE5.below hb6
    have hB6 := below_step hB5 hb6
    clear hb6
    go_wp2_with fail
    refine (HD.out _).mono ?_
    rintro e w7 ⟨rfl, hb7⟩
    have hE7 := hE6.below hb7
    have hB7 := below_step hB6 hb7
    clear hb7
    go_wp2_with fail
    refine (HRM.out _).mono ?_
    rintro e w8 ⟨rfl, hb8⟩
    have hE8 := hE7.below hb8
    have hB8 := below_step hB7 hb8
    clear hb8
    go_wp2_with fail
    refine (HA.out _).mono ?_
    rintro e w9 ⟨rfl, rfl⟩
    go_wp2_with fail
    refine (HB.out _).mono ?_
    rintro e w10 ⟨rfl, hb10⟩
    have hE10 := hE8.below hb10
    have hB10 := below_step hB8 hb10
    clear hb10
    go_wp2_with fail
    refine (awake_any _ hE10).mono ?_
    rintro e w11 ⟨rfl, hb11⟩
    have hE11 := hE10.below hb11
    have hB11 := below_step hB10 hb11
    clear hb11
    go_wp2_with fail
    go_ret
    exact ⟨rfl, hB11⟩
  | false =>
    have HP := Lib.hid (show ∀ W, _ from fun W => preText_no n b W hr)
    have HRR := Lib.hid (show ∀ W : World, Calls Tryd.prog 22 #[.int .i64 n, .int .i64 b] W fun e w' => e = .returned (.bool false) ∧ W = w' from fun W => by have := refRight_any n b W; rw [hr] at this; exact this)
    clear hr
    by_cases hin : 0 ≤ n ∧ n < 4294967296
    · obtain ⟨h0, h1⟩ := hin
      have HI := Lib.hid (show ∀ W, Env W → _ from fun W hW => ipText_any n W hW h0 h1)
      have HM := Lib.hid (show ∀ W, _ from fun W => macText_any n W h0 (by omega))
      have HRI := Lib.hid (show ∀ W, _ from fun W => refIpText_any n W h0 h1)
      have HRM := Lib.hid (show ∀ W, _ from fun W => refMacText_any n W h0 (by omega))
      generalize Adr.ipText n.toNat = T at *
      generalize Adr.macText n.toNat = M at *
      have hT := list_beq T
      have hM := list_beq M
      go_enter Tryd.func4, Tryd.ntmps4
      go_wp2_with fail
      refine (HI.out _ hE).mono ?_
      rintro e w1 ⟨rfl, hb1⟩
      have hE1 := hE.below hb1
      have hB1 := below_step hB0 hb1
      clear hb1
      go_wp2_with fail
      refine (HP.out _).mono ?_
      rintro e w2 ⟨rfl, rfl⟩
      go_wp2_with fail
      refine (HM.out _).mono ?_
      rintro e w3 ⟨rfl, hb3⟩
      have hE3 := hE1.below hb3
      have hB3 := below_step hB1 hb3
      clear hb3
      go_wp2_with fail
      refine (HRR.out _).mono ?_
      rintro e w4 ⟨rfl, rfl⟩
      go_wp2_with fail
      refine (HRI.out _).mono ?_
      rintro e w5 ⟨rfl, hb5⟩
      have hE5 := hE3.below hb5
      have hB5 := below_step hB3 hb5
      clear hb5
      go_wp2_with fail
      refine (HRM.out _).mono ?_
      rintro e w6 ⟨rfl, hb6⟩
      have hE6 := hE5.below hb6
      have hB6 := below_step hB5 hb6
      clear hb6
      go_wp2_with fail
      refine (HA.out _).mono ?_
      rintro e w7 ⟨rfl, rfl⟩
      go_wp2_with fail
      refine (HB.out _).mono ?_
      rintro e w8 ⟨rfl, hb8⟩
      have hE8 := hE6.below hb8
      have hB8 := below_step hB6 hb8
      clear hb8
      go_wp2_with fail
      refine (awake_any _ hE8).mono ?_
      rintro e w9 ⟨rfl, hb9⟩
      have hE9 := hE8.below hb9
      have hB9 := below_step hB8 hb9
      clear hb9
      go_wp2_with fail
      go_ret
      exact ⟨rfl, hB9⟩
    · have HI := Lib.hid (show ∀ W, _ from fun W => ipText_no n W (by omega))
      by_cases hfar : 0 ≤ n ∧ n < 281474976710656
      · obtain ⟨h0, h1⟩ := hfar
        have hge : 4294967296 ≤ n := by omega
        have HM := Lib.hid (show ∀ W, _ from fun W => macText_any n W h0 (by omega))
        have HRM := Lib.hid (show ∀ W, _ from fun W => refMacText_any n W h0 (by omega))
        generalize Adr.macText n.toNat = M at *
        have hM := list_beq M
        clear hin
        go_enter Tryd.func4, Tryd.ntmps4
        go_wp2_with fail
        refine (HI.out _).mono ?_
        rintro e w1 ⟨rfl, rfl⟩
        go_wp2_with fail
        refine (HP.out _).mono ?_
        rintro e w2 ⟨rfl, rfl⟩
        go_wp2_with fail
        refine (HM.out _).mono ?_
        rintro e w3 ⟨rfl, hb3⟩
        have hE3 := hE.below hb3
        have hB3 := below_step hB0 hb3
        clear hb3
        go_wp2_with fail
        refine (HRR.out _).mono ?_
        rintro e w4 ⟨rfl, rfl⟩
        go_wp2_with fail
        refine (HRM.out _).mono ?_
        rintro e w5 ⟨rfl, hb5⟩
        have hE5 := hE3.below hb5
        have hB5 := below_step hB3 hb5
        clear hb5
        go_wp2_with fail
        refine (HA.out _).mono ?_
        rintro e w6 ⟨rfl, rfl⟩
        go_wp2_with fail
        refine (HB.out _).mono ?_
        rintro e w7 ⟨rfl, hb7⟩
        have hE7 := hE5.below hb7
        have hB7 := below_step hB5 hb7
        clear hb7
        go_wp2_with fail
        refine (awake_any _ hE7).mono ?_
        rintro e w8 ⟨rfl, hb8⟩
        have hE8 := hE7.below hb8
        have hB8 := below_step hB7 hb8
        clear hb8
        go_wp2_with fail
        go_ret
        exact ⟨rfl, hB8⟩
      · have HM := Lib.hid (show ∀ W, _ from fun W => macText_no n W (by omega))
        have hcase : n < 0 ∨ 281474976710656 ≤ n := by omega
        clear hin hfar
        rcases hcase with hcase | hcase
        · skip
          go_enter Tryd.func4, Tryd.ntmps4
          go_wp2_with fail
          refine (HI.out _).mono ?_
          rintro e w1 ⟨rfl, rfl⟩
          go_wp2_with fail
          refine (HP.out _).mono ?_
          rintro e w2 ⟨rfl, rfl⟩
          go_wp2_with fail
          refine (HM.out _).mono ?_
          rintro e w3 ⟨rfl, rfl⟩
          go_wp2_with fail
          refine (HRR.out _).mono ?_
          rintro e w4 ⟨rfl, rfl⟩
          go_wp2_with fail
          refine (HA.out _).mono ?_
          rintro e w5 ⟨rfl, rfl⟩
          go_wp2_with fail
          refine (HB.out _).mono ?_
          rintro e w6 ⟨rfl, hb6⟩
          have hE6 := hE.below hb6
          have hB6 := below_step hB0 hb6
          clear hb6
          go_wp2_with fail
          refine (awake_any _ hE6).mono ?_
          rintro e w7 ⟨rfl, hb7⟩
          have hE7 := hE6.below hb7
          have hB7 := below_step hB6 hb7
          clear hb7
          go_wp2_with fail
          go_ret
          exact ⟨rfl, hB7⟩
        · skip
          go_enter Tryd.func4, Tryd.ntmps4
          go_wp2_with fail
          refine (HI.out _).mono ?_
          rintro e w1 ⟨rfl, rfl⟩
          go_wp2_with fail
          refine (HP.out _).mono ?_
          rintro e w2 ⟨rfl, rfl⟩
          go_wp2_with fail
          refine (HM.out _).mono ?_
          rintro e w3 ⟨rfl, rfl⟩
          go_wp2_with fail
          refine (HRR.out _).mono ?_
          rintro e w4 ⟨rfl, rfl⟩
          go_wp2_with fail
          refine (HA.out _).mono ?_
          rintro e w5 ⟨rfl, rfl⟩
          go_wp2_with fail
          refine (HB.out _).mono ?_
          rintro e w6 ⟨rfl, hb6⟩
          have hE6 := hE.below hb6
          have hB6 := below_step hB0 hb6
          clear hb6
          go_wp2_with fail
          refine (awake_any _ hE6).mono ?_
          rintro e w7 ⟨rfl, hb7⟩
          have hE7 := hE6.below hb7
          have hB7 := below_step hB6 hb7
          clear hb7
          go_wp2_with fail
          go_ret
          exact ⟨rfl, hB7⟩
end Go.Proofs.YthnbhdphelhcfaaDoor
