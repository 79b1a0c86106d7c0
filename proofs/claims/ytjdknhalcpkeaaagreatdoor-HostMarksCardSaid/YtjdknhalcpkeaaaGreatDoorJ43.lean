/- The law HostTables. -/
import Derived.Test.YtjdknhalcpkeaaaGreatDoorJ42
import Derived.Test.YtjdknhalcpkeaaaGreatDoorJ35
namespace Hst
open Go Go.Lib Rte Sch Tre
theorem fine_of {L : List Line} (hr : rightB L = true) (hf : checkB L = []) : Fine (paths L) := ⟨trs_paths hr, by rw [← check_paths hr]; exact hf⟩
theorem tables_same {L : List Line} (hr : rightB L = true) (hf : checkB L = []) : setE (allU (paths L)) = setE (allD (paths L)) := set_same (fine_of hr hf)
theorem all_len_set {L : List Line} (hr : rightB L = true) : (setE (allU (paths L))).length ≤ 900000000 := by
 have h1 := setE_len (allU (paths L))
 have h2 := all_len (paths L) (fun P => kw_few hr P) (kw (paths L) [wHosts])
 have h3 := kw_few hr [wHosts]
 have h4 : allU (paths L) = (kw (paths L) [wHosts]).flatMap (hostU (paths L)) := rfl
 rw [← h4] at h2
 omega
end Hst
namespace Go.Proofs.YtjdknhalcpkeaaaGreatDoor
open Go Go.RowKit Go.Sort Rte Sch Tre Hst
set_option maxHeartbeats 8000000 in
set_option maxRecDepth 100000 in
theorem hostTables_any (A : Option Addr) (cap : Nat) (L : List Line) (w : World) (hE : Env w) (hR : Rd w 3 A L.length (lines L)) (hcap : L.length ≤ cap) (hc : cap ≤ maxLen) :
 Calls Tryz.prog 3 #[.slice A L.length cap] w fun e w' => e = .returned (.bool true) ∧ Below w.heap.size w w' := by
 have HA := Lib.hid (fun W (hb : Below w.heap.size w W) => awake14_any W (hE.below hb))
 have HSm := Lib.hid (small_lines A cap L w hR hcap hc)
 have HRi := Lib.hid (fun W (hb : Below w.heap.size w W) => refRight_lines A cap L W (hR.below hb) hcap hc)
 rw [right_ref] at HRi
 have HCm := Lib.hid (fun W (hb : Below w.heap.size w W) => compile_any A cap L W (hE.below hb) (hR.below hb) hcap hc)
 have HRC := Lib.hid (fun (hr : rightB L = true) W (hb : Below w.heap.size w W) => rcompile_any A cap L W (hR.below hb) hcap hc hr)
 have HTS := Lib.hid (fun (hr : rightB L = true) (hf : checkB L = []) => tables_same hr hf)
 clear hE hR
 cases hs : smallB L with
 | false =>
   rw [hs] at HSm
   clear hs HRi HCm HRC HTS
   go_enter Tryz.func3, Tryz.ntmps3
   go_wp2_with fail
   refine HSm.out.mono ?_
   rintro e w1 ⟨rfl, hb1⟩
   go_wp2_with fail
   refine (HA.out _ hb1).mono ?_
   rintro e w2 ⟨rfl, hb2⟩
   go_wp2_with fail
   go_ret
   exact ⟨rfl, below_step hb1 hb2⟩
 | true =>
   rw [hs] at HSm
   clear hs
   by_cases h60 : 60 < L.length
   · have h60' : (60 : Int) < (L.length : Int) := by omega
     clear HRi HCm HRC HTS
     go_enter Tryz.func3, Tryz.ntmps3
     go_wp2_with fail
     refine HSm.out.mono ?_
     rintro e w1 ⟨rfl, hb1⟩
     go_wp2_with fail
     refine (HA.out _ hb1).mono ?_
     rintro e w2 ⟨rfl, hb2⟩
     go_wp2_with fail
     go_ret
     exact ⟨rfl, below_step hb1 hb2⟩
   · have h60' : ¬ (60 : Int) < (L.length : Int) := by omega
     have h60'' : (L.length : Int) ≤ 60 := by omega
     go_enter Tryz.func3, Tryz.ntmps3
     go_wp2_with fail
     refine HSm.out.mono ?_
     rintro e w1 ⟨rfl, hb1⟩
     have HB1 := Lib.hid hb1
     clear hb1 HSm
     go_wp2_with fail
     refine (HCm.out w1 HB1.out).mono ?_
     unfold CompileEnd
     rintro e w2 (⟨hr, rfl, hb2⟩ | ⟨hr, hf, rfl, hb2⟩ | ⟨hr, hf, A2, c2, rfl, g1, g2, g3, g4, hb2⟩)
     · have HB2 := Lib.hid (below_step HB1.out hb2)
       rw [hr] at HRi
       clear hb2 HCm HRC HTS hr HB1
       go_wp2_with fail
       refine (HRi.out w2 HB2.out).mono ?_
       rintro e w3 ⟨rfl, hb3⟩
       have HB3 := Lib.hid (below_step HB2.out hb3)
       clear hb3 HB2 HRi
       go_wp2_with fail
       refine (HA.out _ HB3.out).mono ?_
       rintro e w4 ⟨rfl, hb4⟩
       go_wp2_with fail
       go_ret
       exact ⟨rfl, below_step HB3.out hb4⟩
     · have HB2 := Lib.hid (below_step HB1.out hb2)
       have HRC2 := Lib.hid (HRC.out hr)
       rw [hr] at HRi
       have HF := Lib.hid hf
       clear hb2 HCm HRC HTS hr HB1 hf
       go_wp2_with fail
       refine (HRi.out w2 HB2.out).mono ?_
       rintro e w3 ⟨rfl, hb3⟩
       have HB3 := Lib.hid (below_step HB2.out hb3)
       clear hb3 HB2 HRi
       go_wp2_with fail
       refine (HRC2.out w3 HB3.out).mono ?_
       unfold RCompEnd
       rintro e w4 (⟨-, rfl, hb4⟩ | ⟨hf, -⟩)
       · have HB4 := Lib.hid (below_step HB3.out hb4)
         clear hb4 HB3 HRC2
         go_wp2_with fail
         refine (hrefs_none w4).mono ?_
         unfold EntsRd
         rintro e w5 ⟨A5, c5, rfl, g1, g2, g3, g4, hb5⟩
         have HB5 := Lib.hid (below_step HB4.out hb5)
         have HSa := Lib.hid (rsame_any A5 none c5 0 [] [] w5 g3 Rd.nil (by simp))
         clear hb5 HB4 g3
         go_wp2_with fail
         refine HSa.out.mono ?_
         rintro e w6 ⟨rfl, hb6⟩
         have HB6 := Lib.hid (below_step HB5.out hb6)
         clear hb6 HB5 HSa
         go_wp2_with fail
         refine (HA.out _ HB6.out).mono ?_
         rintro e w7 ⟨rfl, hb7⟩
         go_wp2_with fail
         go_ret
         exact ⟨rfl, below_step HB6.out hb7⟩
       · exact absurd hf HF.out
     · have HB2 := Lib.hid (below_step HB1.out hb2)
       have HRC2 := Lib.hid (HRC.out hr)
       have HEQ := Lib.hid (HTS.out hr hf)
       rw [hr] at HRi
       have HF := Lib.hid hf
       have hln := all_len_set hr
       have HG3 := Lib.hid g3
       clear hb2 HCm HRC HTS hr HB1 hf g3
       generalize setE (allU (paths L)) = M at *
       go_wp2_with fail
       refine (HRi.out w2 HB2.out).mono ?_
       rintro e w3 ⟨rfl, hb3⟩
       have HB3 := Lib.hid (below_step HB2.out hb3)
       have HM3 := Lib.hid (HG3.out.below hb3)
       clear hb3 HB2 HRi HG3
       go_wp2_with fail
       refine (HRC2.out w3 HB3.out).mono ?_
       unfold RCompEnd
       rw [← HEQ.out]
       rintro e w4 (⟨hf, -⟩ | ⟨-, A4, c4, rfl, f1, f2, f3, f4, hb4⟩)
       · exact absurd HF.out hf
       · have HB4 := Lib.hid (below_step HB3.out hb4)
         have HRf := Lib.hid (hrefs_any A2 c2 M w4 (HM3.out.below hb4) hln)
         have HF3 := Lib.hid f3
         clear hb4 HB3 HRC2 f3 HM3
         go_wp2_with fail
         refine HRf.out.mono ?_
         unfold EntsRd
         rintro e w5 ⟨A5, c5, rfl, k1, k2, k3, k4, hb5⟩
         have HB5 := Lib.hid (below_step HB4.out hb5)
         have HSa := Lib.hid (rsame_any A5 A4 c5 c4 M M w5 k3 (HF3.out.below hb5) (by omega))
         rw [decide_eq_true rfl] at HSa
         clear hb5 HB4 k3 HF3 HRf
         go_wp2_with fail
         refine HSa.out.mono ?_
         rintro e w6 ⟨rfl, hb6⟩
         have HB6 := Lib.hid (below_step HB5.out hb6)
         clear hb6 HB5 HSa
         go_wp2_with fail
         refine (HA.out _ HB6.out).mono ?_
         rintro e w7 ⟨rfl, hb7⟩
         go_wp2_with fail
         go_ret
         exact ⟨rfl, below_step HB6.out hb7⟩
end Go.Proofs.YtjdknhalcpkeaaaGreatDoor
