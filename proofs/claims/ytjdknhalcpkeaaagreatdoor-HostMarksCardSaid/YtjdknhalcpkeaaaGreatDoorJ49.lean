/- The law HostMarks. -/
import Derived.Test.YtjdknhalcpkeaaaGreatDoorJ43
import Derived.Test.YtjdknhalcpkeaaaGreatDoorJ46
namespace Go.Proofs.YtjdknhalcpkeaaaGreatDoor
open Go Go.RowKit Go.Sort Rte Sch Tre Hst Lns
theorem Lr.nil (w : World) : Lr w (.slice none 0 0) [] := ⟨none, 0, rfl, Nat.le_refl _, by unfold maxLen; omega, Rd.nil, fun _ => rfl⟩
set_option maxHeartbeats 8000000 in
set_option maxRecDepth 100000 in
theorem hostMarks_any (A : Option Addr) (cap : Nat) (L : List Line) (w : World) (hE : Env w) (hR : Rd w 3 A L.length (lines L)) (hcap : L.length ≤ cap) (hc : cap ≤ maxLen) :
 Calls Tryz.prog 6 #[.slice A L.length cap] w fun e w' => e = .returned (.bool true) ∧ Below w.heap.size w w' := by
 have HA := Lib.hid (fun W (hb : Below w.heap.size w W) => awake14_any W (hE.below hb))
 have HSm := Lib.hid (small_lines A cap L w hR hcap hc)
 have HRi := Lib.hid (fun W (hb : Below w.heap.size w W) => refRight_lines A cap L W (hR.below hb) hcap hc)
 rw [right_ref] at HRi
 have HCm := Lib.hid (fun W (hb : Below w.heap.size w W) => compile_any A cap L W (hE.below hb) (hR.below hb) hcap hc)
 have HPa := Lib.hid (fun (hr : rightB L = true) (h300 : L.length ≤ 300) (k : Nat) (hk : k < L.length) W (hb : Below w.heap.size w W) => (by
  have := refPath_lines A cap L k W (hR.below hb) hcap hc h300 hk
  rwa [path_pa (right_parts hr).2.1 hk] at this : Calls Tryz.prog 22 #[.slice A L.length cap, .int .i64 k] W (StrsEnd W (pa L k))))
 clear hR
 cases hs : smallB L with
 | false =>
   rw [hs] at HSm
   clear hs HRi HCm HPa
   go_enter Tryz.func6, Tryz.ntmps6
   go_wp2_with fail
   refine HSm.out.mono ?_
   rintro e w1 ⟨rfl, hb1⟩
   go_wp2_with fail
   refine (HA.out _ hb1).mono ?_
   rintro e w2 ⟨rfl, hb2⟩
   go_wp2_with fail
   go_ret
   exact ⟨rfl, below_step hb1 hb2⟩
 | true =>
   rw [hs] at HSm
   clear hs
   by_cases h60 : 60 < L.length
   · have h60' : (60 : Int) < (L.length : Int) := by omega
     clear HRi HCm HPa
     go_enter Tryz.func6, Tryz.ntmps6
     go_wp2_with fail
     refine HSm.out.mono ?_
     rintro e w1 ⟨rfl, hb1⟩
     go_wp2_with fail
     refine (HA.out _ hb1).mono ?_
     rintro e w2 ⟨rfl, hb2⟩
     go_wp2_with fail
     go_ret
     exact ⟨rfl, below_step hb1 hb2⟩
   · have h60' : ¬ (60 : Int) < (L.length : Int) := by omega
     have h60'' : (L.length : Int) ≤ 60 := by omega
     cases hr : rightB L with
     | false =>
       rw [hr] at HRi
       clear HCm HPa hr
       go_enter Tryz.func6, Tryz.ntmps6
       go_wp2_with fail
       refine HSm.out.mono ?_
       rintro e w1 ⟨rfl, hb1⟩
       go_wp2_with fail
       refine (HRi.out w1 hb1).mono ?_
       rintro e w2 ⟨rfl, hb2⟩
       go_wp2_with fail
       refine (HA.out _ (below_step hb1 hb2)).mono ?_
       rintro e w3 ⟨rfl, hb3⟩
       go_wp2_with fail
       go_ret
       exact ⟨rfl, below_step (below_step hb1 hb2) hb3⟩
     | true =>
       rw [hr] at HRi
       have HPa := Lib.hid (HPa.out hr (by omega))
       have HMs := Lib.hid (fun k (hk : k ≤ L.length) => made_spec hr (by omega) k hk)
       obtain ⟨m1, m2⟩ := made_paths hr (by omega)
       have HM1 := Lib.hid m1
       have HM2 := Lib.hid m2
       have HPs := Lib.hid (fun (k : Nat) (hk : k < L.length) => pa_sound hr hk)
       have HCK := Lib.hid (check_paths hr)
       have HCK2 := Lib.hid (check_paths m1)
       have hsl := all_len_set hr
       have HHr := Lib.hid hr
       have HEv := Lib.hid (fun W (hb : Below w.heap.size w W) => hE.below hb)
       clear hr m1 m2 hE
       obtain ⟨U, hU⟩ : ∃ U, madeB L L.length = U := ⟨_, rfl⟩
       rw [hU] at HM1 HM2 HCK2
       have HUe := Lib.hid hU
       clear hU
       go_enter Tryz.func6, Tryz.ntmps6
       go_wp2_with fail
       refine HSm.out.mono ?_
       rintro e w1 ⟨rfl, hb1⟩
       have HB1 := Lib.hid hb1
       clear hb1 HSm
       go_wp2_with fail
       refine (HRi.out w1 HB1.out).mono ?_
       rintro e w2 ⟨rfl, hb2⟩
       have HB2 := Lib.hid (below_step HB1.out hb2)
       clear hb2 HRi HB1
       go_wp2_with fail
       go_loopw [3, 4] (fun v vi wr => ∃ k : Nat, k ≤ L.length ∧ vi = .int .i64 ((L.length : Int) - 1 - (k : Int)) ∧ Hid (Lr wr v (madeB L k)) ∧ Hid (Below w.heap.size w wr)) (fun _ vi _ => (intOf vi + 1).toNat)
       case atStart => exact ⟨0, Nat.zero_le _, by simp, Lr.nil _, HB2⟩
       case round =>
        clear HB2
        obtain ⟨k, hk, rfl, HL, HB⟩ := hrel
        by_cases hlt : k < L.length
        · have hge : (0 : Int) ≤ (L.length : Int) - 1 - (k : Int) := by omega
          obtain ⟨j, hj⟩ : ∃ j, L.length - 1 - k = j := ⟨_, rfl⟩
          have hjl : j < L.length := by omega
          have ej : (L.length : Int) - 1 - (k : Int) = (j : Int) := by omega
          have ej2 : (L.length : Int) - 1 - ((k + 1 : Nat) : Int) = (j : Int) - 1 := by omega
          obtain ⟨r1, -, r3⟩ := HMs.out k hk
          have r3 := r3 hlt
          rw [hj] at r3
          obtain ⟨s1, s2⟩ := HPs.out j hjl
          rw [ej]
          obtain ⟨Au, cu, rfl, u1, u2, u3, u4⟩ := HL.out
          have HU3 := Lib.hid u3
          have HR3 := Lib.hid r3
          have HRS := Lib.hid (And.intro r1 (And.intro s1 s2))
          have HP := Lib.hid (HPa.out j hjl wr HB.out)
          have hj0 : (0 : Int) ≤ (j : Int) := by omega
          clear u3 r3 r1 s1 s2 HL hge hj ej
          generalize pa L j = P at *
          go_wp2_with fail
          refine HP.out.mono ?_
          unfold StrsEnd
          rintro e w3 ⟨Ap, cp, rfl, p1, p2, p3, -, hb3⟩
          have HB3 := Lib.hid (below_step HB.out hb3)
          have HAd := Lib.hid (add_yes Au cu (madeB L k) Ap cp P w3 (HU3.out.below hb3) u1 u2 u4 HRS.out.1 p3 p1 p2 HRS.out.2.1 HRS.out.2.2)
          clear hb3 p1 p2 p3 HP HU3 HB u1 u2 u4 HRS
          go_wp2_with fail
          refine HAd.out.mono ?_
          unfold AddEnd
          rw [HR3.out]
          rintro e w4 ⟨A4, c4, rfl, q1, q2, q3, q4, hb4⟩
          have HB4 := Lib.hid (below_step HB3.out hb4)
          have HL4 : Hid (Lr w4 (.slice A4 (madeB L (k + 1)).length c4) (madeB L (k + 1))) := ⟨A4, c4, rfl, q1, q2, q3, q4⟩
          clear hb4 q3 q4 HAd HB3 HR3
          go_wp2_with fail
          go_roundw
          case rel => exact ⟨k + 1, by omega, by rw [ej2], HL4, HB4⟩
          case measure => simp [intOf]
        · have hkL : k = L.length := by omega
          subst hkL
          have hneg : (L.length : Int) - 1 - (L.length : Int) = -1 := by omega
          rw [hneg]
          obtain ⟨Au, cu, rfl, u1, u2, u3, u4⟩ := HL.out
          have HU3 := Lib.hid u3
          rw [HUe.out] at u1 HU3
          rw [HUe.out]
          clear u3 HL HMs HPs HPa
          generalize wr = w3 at *
          go_wp2_with fail
          refine (HCm.out w3 HB.out).mono ?_
          unfold CompileEnd
          rintro e w4 (⟨hr, rfl, hb4⟩ | ⟨hr, hf, rfl, hb4⟩ | ⟨hr, hf, A4, c4, rfl, g1, g2, g3, g4, hb4⟩)
          · rw [HHr.out] at hr; cases hr
          · have HB4 := Lib.hid (below_step HB.out hb4)
            have HF := Lib.hid hf
            have HCU := Lib.hid (compile_any Au cu U w4 (HEv.out w4 HB4.out) (HU3.out.below hb4) u1 u2)
            clear hb4 HCm HB hr hf HU3 HEv
            go_wp2_with fail
            refine HCU.out.mono ?_
            unfold CompileEnd
            rintro e w5 (⟨hr, rfl, hb5⟩ | ⟨hr, hf, rfl, hb5⟩ | ⟨hr, hf, -⟩)
            · rw [HM1.out] at hr; cases hr
            · have HB5 := Lib.hid (below_step HB4.out hb5)
              clear hb5 HB4 HCU hr hf
              go_wp2_with fail
              refine (hrefs_none w5).mono ?_
              unfold EntsRd
              rintro e w6 ⟨A6, c6, rfl, k1, k2, k3, k4, hb6⟩
              have HB6 := Lib.hid (below_step HB5.out hb6)
              have HK3 := Lib.hid k3
              clear hb6 HB5 k3
              go_wp2_with fail
              refine (hrefs_none w6).mono ?_
              unfold EntsRd
              rintro e w7 ⟨A7, c7, rfl, l1, l2, l3, l4, hb7⟩
              have HB7 := Lib.hid (below_step HB6.out hb7)
              have HSa := Lib.hid (rsame_any A6 A7 c6 c7 [] [] w7 (HK3.out.below hb7) l3 (by first | (simp; done) | omega))
              rw [decide_eq_true rfl] at HSa
              clear hb7 HB6 l3 HK3
              go_wp2_with fail
              refine HSa.out.mono ?_
              rintro e w8 ⟨rfl, hb8⟩
              have HB8 := Lib.hid (below_step HB7.out hb8)
              clear hb8 HB7 HSa
              go_wp2_with fail
              refine (HA.out _ HB8.out).mono ?_
              rintro e w9 ⟨rfl, hb9⟩
              go_wp2_with fail
              go_ret
              exact ⟨rfl, below_step HB8.out hb9⟩
            · refine absurd ?_ HF.out
              rw [HCK.out, ← HM2.out, ← HCK2.out]; exact hf
          · have HB4 := Lib.hid (below_step HB.out hb4)
            have HF := Lib.hid hf
            have HCU := Lib.hid (compile_any Au cu U w4 (HEv.out w4 HB4.out) (HU3.out.below hb4) u1 u2)
            have HG3 := Lib.hid g3
            unfold CompileEnd at HCU
            rw [HM2.out] at HCU
            clear hb4 HCm HB hr hf HU3 HEv g3
            generalize setE (allU (paths L)) = M at *
            go_wp2_with fail
            refine HCU.out.mono ?_
            rintro e w5 (⟨hr, rfl, hb5⟩ | ⟨hr, hf, -⟩ | ⟨hr, hf, A5, c5, rfl, f1, f2, f3, f4, hb5⟩)
            · rw [HM1.out] at hr; cases hr
            · refine absurd ?_ hf
              rw [HCK2.out, HM2.out, ← HCK.out]; exact HF.out
            · have HB5 := Lib.hid (below_step HB4.out hb5)
              have HG5 := Lib.hid (HG3.out.below hb5)
              have HF5 := Lib.hid f3
              clear hb5 HB4 HCU hr hf f3 HG3
              go_wp2_with fail
              refine (hrefs_any A4 c4 M w5 HG5.out hsl).mono ?_
              unfold EntsRd
              rintro e w6 ⟨A6, c6, rfl, k1, k2, k3, k4, hb6⟩
              have HB6 := Lib.hid (below_step HB5.out hb6)
              have HK3 := Lib.hid k3
              have HF6 := Lib.hid (HF5.out.below hb6)
              clear hb6 HB5 k3 HG5 HF5
              go_wp2_with fail
              refine (hrefs_any A5 c5 M w6 HF6.out hsl).mono ?_
              unfold EntsRd
              rintro e w7 ⟨A7, c7, rfl, l1, l2, l3, l4, hb7⟩
              have HB7 := Lib.hid (below_step HB6.out hb7)
              have HSa := Lib.hid (rsame_any A6 A7 c6 c7 M M w7 (HK3.out.below hb7) l3 (by first | (simp; done) | omega))
              rw [decide_eq_true rfl] at HSa
              clear hb7 HB6 l3 HK3
              go_wp2_with fail
              refine HSa.out.mono ?_
              rintro e w8 ⟨rfl, hb8⟩
              have HB8 := Lib.hid (below_step HB7.out hb8)
              clear hb8 HB7 HSa
              go_wp2_with fail
              refine (HA.out _ HB8.out).mono ?_
              rintro e w9 ⟨rfl, hb9⟩
              go_wp2_with fail
              go_ret
              exact ⟨rfl, below_step HB8.out hb9⟩
end Go.Proofs.YtjdknhalcpkeaaaGreatDoor
