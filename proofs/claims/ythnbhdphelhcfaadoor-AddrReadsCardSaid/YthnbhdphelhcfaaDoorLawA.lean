/- Walks: the laws AddrReads, AddrNums, AddrFore. -/
import Derived.Test.YthnbhdphelhcfaaDoorAwk
namespace Go.Proofs.YthnbhdphelhcfaaDoor
open Go.RowKit

theorem numRet_raw {s : ByteArray} {least most : Int} (h : Adr.numIn s.data.toList least most = false) : numRet s least most = .tuple #[.int .i64 0, .bool false] := numRet_no h

set_option maxHeartbeats 2000000 in
set_option maxRecDepth 100000 in
theorem addrReads_any (s : ByteArray) (least most : Int) (w : World) (hE : Env w) (hs : s.size ≤ maxLen) :
    Calls Tryd.prog 3 #[.string s, .int .i64 least, .int .i64 most] w fun e w' => e = .returned (.bool true) ∧ Below w.heap.size w w' := by
  unfold maxLen at hs
  by_cases h100 : 100 < s.size
  · go_enter Tryd.func3, Tryd.ntmps3
    go_wp2_with fail
    refine (awake_any _ hE).mono ?_
    rintro e w1 ⟨rfl, hb1⟩
    go_wp2_with fail
    go_ret
    exact ⟨rfl, hb1⟩
  · have hsz : s.size ≤ 100 := by omega
    have HN := Lib.hid (show ∀ W, Env W → _ from fun W hW => num_any s least most W hW (by omega))
    have HNr := Lib.hid (show ∀ W, _ from fun W => refNum_any s W (by unfold maxLen; omega))
    have HI := Lib.hid (show ∀ W, Env W → _ from fun W hW => ip_any s W hW (by omega))
    have HIr := Lib.hid (show ∀ W, _ from fun W => refIp_any s W (by omega))
    have HP := Lib.hid (show ∀ W, Env W → _ from fun W hW => pre_any s W hW (by omega))
    have HPr := Lib.hid (show ∀ W, _ from fun W => refPre_any s W (by omega))
    have HM := Lib.hid (show ∀ W, Env W → _ from fun W hW => mac_any s W hW (by omega))
    have HMr := Lib.hid (show ∀ W, _ from fun W => refMac_any s W (by omega))
    unfold okRet preRet at *
    generalize Adr.ip s.data.toList = a at *
    generalize Adr.mac s.data.toList = m at *
    generalize Adr.pre s.data.toList = p at *
    obtain ⟨p1, p2⟩ := p
    cases hin : Adr.numIn s.data.toList least most with
    | true =>
      obtain ⟨hn0, hn1, hn2⟩ := (Adr.numIn_iff _ _ _).1 hin
      have HR := Lib.hid (numRet_yes hin)
      generalize Adr.num s.data.toList = k at *
      clear hin
      go_enter Tryd.func3, Tryd.ntmps3
      go_wp2_with fail
      refine (HN.out _ hE).mono ?_
      rintro e w1 ⟨rfl, hb1⟩
      have hE1 := hE.below hb1
      rw [HR.out]
      go_wp2_with fail
      refine (HNr.out _).mono ?_
      rintro e w2 ⟨rfl, rfl⟩
      go_wp2_with fail
      refine (HI.out _ hE1).mono ?_
      rintro e w3 ⟨rfl, hb3⟩
      have hE3 := hE1.below hb3
      go_wp2_with fail
      refine (HIr.out _).mono ?_
      rintro e w4 ⟨rfl, hb4⟩
      have hE4 := hE3.below hb4
      go_wp2_with fail
      refine (HP.out _ hE4).mono ?_
      rintro e w5 ⟨rfl, hb5⟩
      have hE5 := hE4.below hb5
      go_wp2_with fail
      refine (HPr.out _).mono ?_
      rintro e w6 ⟨rfl, hb6⟩
      have hE6 := hE5.below hb6
      go_wp2_with fail
      refine (HM.out _ hE6).mono ?_
      rintro e w7 ⟨rfl, hb7⟩
      have hE7 := hE6.below hb7
      go_wp2_with fail
      refine (HMr.out _).mono ?_
      rintro e w8 ⟨rfl, hb8⟩
      have hE8 := hE7.below hb8
      go_wp2_with fail
      refine (awake_any _ hE8).mono ?_
      rintro e w9 ⟨rfl, hb9⟩
      go_wp2_with fail
      go_ret
      exact ⟨rfl, below_step hb1 (below_step hb3 (below_step hb4 (below_step hb5 (below_step hb6 (below_step hb7 (below_step hb8 hb9))))))⟩
    | false =>
      have hnot : ¬ (0 ≤ Adr.num s.data.toList ∧ least ≤ Adr.num s.data.toList ∧ Adr.num s.data.toList ≤ most) := fun h => by
        rw [(Adr.numIn_iff _ _ _).2 h] at hin; cases hin
      have HR := Lib.hid (numRet_no hin)
      generalize Adr.num s.data.toList = k at *
      have hc : k < 0 ∨ (0 ≤ k ∧ k < least) ∨ (0 ≤ k ∧ least ≤ k ∧ most < k) := by omega
      clear hin hnot
      rcases hc with hc | ⟨hc, hc2⟩ | ⟨hc, hc2, hc3⟩
      all_goals
        go_enter Tryd.func3, Tryd.ntmps3
        go_wp2_with fail
        refine (HN.out _ hE).mono ?_
        rintro e w1 ⟨rfl, hb1⟩
        have hE1 := hE.below hb1
        rw [HR.out]
        go_wp2_with fail
        refine (HNr.out _).mono ?_
        rintro e w2 ⟨rfl, rfl⟩
        go_wp2_with fail
        refine (HI.out _ hE1).mono ?_
        rintro e w3 ⟨rfl, hb3⟩
        have hE3 := hE1.below hb3
        go_wp2_with fail
        refine (HIr.out _).mono ?_
        rintro e w4 ⟨rfl, hb4⟩
        have hE4 := hE3.below hb4
        go_wp2_with fail
        refine (HP.out _ hE4).mono ?_
        rintro e w5 ⟨rfl, hb5⟩
        have hE5 := hE4.below hb5
        go_wp2_with fail
        refine (HPr.out _).mono ?_
        rintro e w6 ⟨rfl, hb6⟩
        have hE6 := hE5.below hb6
        go_wp2_with fail
        refine (HM.out _ hE6).mono ?_
        rintro e w7 ⟨rfl, hb7⟩
        have hE7 := hE6.below hb7
        go_wp2_with fail
        refine (HMr.out _).mono ?_
        rintro e w8 ⟨rfl, hb8⟩
        have hE8 := hE7.below hb8
        go_wp2_with fail
        refine (awake_any _ hE8).mono ?_
        rintro e w9 ⟨rfl, hb9⟩
        go_wp2_with fail
        go_ret
        exact ⟨rfl, below_step hb1 (below_step hb3 (below_step hb4 (below_step hb5 (below_step hb6 (below_step hb7 (below_step hb8 hb9))))))⟩
end Go.Proofs.YthnbhdphelhcfaaDoor
