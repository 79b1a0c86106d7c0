/- A walk: SchemaChecks. -/
import Derived.Test.YtfgjlnaojjldcaaGreatDoorGn
import Derived.Test.YtfgjlnaojjldcaaGreatDoorGp
import Derived.Test.YtfgjlnaojjldcaaGreatDoorGq
import Derived.Test.YtfgjlnaojjldcaaGreatDoorGo
namespace Go.Proofs.YtfgjlnaojjldcaaGreatDoor
open Go Go.RowKit Go.Sort Sch Adr Mtr Tre

theorem flt_cells {w : World} {base : Nat} {T : TypeId} {v : Value} {F : List Fault} (h : Pl w base T 2 v (F.map fitem)) : ∃ A c, v = .slice A F.length c ∧ F.length ≤ c ∧ c ≤ maxLen ∧ Pd w 2 A (F.map fitem) ∧ (A = none → c = 0) := by
  obtain ⟨A, c, e, h1, h2, h3, h4⟩ := h.read
  rw [List.length_map] at e h1
  exact ⟨A, c, e, h1, h2, h3, h4⟩
set_option maxHeartbeats 4000000 in
set_option maxRecDepth 100000 in
theorem schemaChecks_any (A : Option Addr) (cap : Nat) (L : List Line) (w : World) (hE : Env w) (hR : Rd w 3 A L.length (lines L)) (hcap : L.length ≤ cap) (hc : cap ≤ maxLen) :
    Calls Tryz.prog 3 #[.slice A L.length cap] w fun e w' => e = .returned (.bool true) ∧ Below w.heap.size w w' := by
  have HA := Lib.hid (fun W (hb : Below w.heap.size w W) => awake13_any W (hE.below hb))
  have HFew := Lib.hid (few13_any A cap L w hR hcap hc)
  have HRi := Lib.hid (fun W (hb : Below w.heap.size w W) => refRight_lines A cap L W (hR.below hb) hcap hc)
  rw [right_ref] at HRi
  cases hf : fewB L with
  | false =>
    rw [hf] at HFew
    clear hf HRi hR
    go_enter Tryz.func3, Tryz.ntmps3
    go_wp2_with fail
    refine HFew.out.mono ?_
    rintro e w1 ⟨rfl, hb1⟩
    go_wp2_with fail
    refine (HA.out _ hb1).mono ?_
    rintro e w2 ⟨rfl, hb2⟩
    go_wp2_with fail
    go_ret
    exact ⟨rfl, below_step hb1 hb2⟩
  | true =>
    rw [hf] at HFew
    have hln := few_len hf
    cases hr : rightB L with
    | false =>
      rw [hr] at HRi
      have HCk := Lib.hid (fun W (hb : Below w.heap.size w W) => check_no A cap L W (hR.below hb) hcap hc hr)
      clear hf hr hR
      go_enter Tryz.func3, Tryz.ntmps3
      go_wp2_with fail
      refine HFew.out.mono ?_
      rintro e w1 ⟨rfl, hb1⟩
      have HB1 := Lib.hid hb1
      go_wp2_with fail
      refine (HCk.out w1 HB1.out).mono ?_
      rintro e w2 ⟨rfl, hb2⟩
      have HB2 := Lib.hid (below_step HB1.out hb2)
      clear hb1 hb2 HCk HB1
      go_wp2_with fail
      refine (HRi.out w2 HB2.out).mono ?_
      rintro e w3 ⟨rfl, hb3⟩
      have HB3 := Lib.hid (below_step HB2.out hb3)
      clear hb3 HB2 HRi
      go_wp2_with fail
      refine (HA.out _ HB3.out).mono ?_
      rintro e w4 ⟨rfl, hb4⟩
      go_wp2_with fail
      go_ret
      exact ⟨rfl, below_step HB3.out hb4⟩
    | true =>
      rw [hr] at HRi
      have HCk := Lib.hid (fun W (hb : Below w.heap.size w W) => check_yes A cap L W (hE.below hb) (hR.below hb) hcap hc hr)
      have HCr := Lib.hid (fun W (hb : Below w.heap.size w W) => refCheck_any A cap L W (hR.below hb) hcap hc hr)
      have hsh := check_short hr
      have hfl := check_few (L := L) (by omega)
      have HSm := Lib.hid (fun A1 c1 A2 c2 W h1 h2 => same_any A1 c1 A2 c2 (checkB L) W h1 h2 (by omega) hsh)
      have HRf := Lib.hid (fun A1 c1 W h1 => refs_any A1 c1 (checkB L) W h1 (by omega))
      clear hf hr hR hsh hE
      generalize checkB L = F at *
      go_enter Tryz.func3, Tryz.ntmps3
      go_wp2_with fail
      refine HFew.out.mono ?_
      rintro e w1 ⟨rfl, hb1⟩
      have HB1 := Lib.hid hb1
      clear hb1 HFew
      go_wp2_with fail
      refine (HCk.out w1 HB1.out).mono ?_
      rintro e w2 ⟨⟨va, rfl, hva⟩, hb2⟩
      obtain ⟨Aa, ca, rfl, ha1, ha2, hpa, -⟩ := flt_cells hva
      have HB2 := Lib.hid (below_step HB1.out hb2)
      have HPA := Lib.hid hpa
      clear hva hpa hb2 HB1 HCk
      go_wp2_with fail
      refine (HRi.out w2 HB2.out).mono ?_
      rintro e w3 ⟨rfl, hb3⟩
      have HB3 := Lib.hid (below_step HB2.out hb3)
      have HPA3 := Lib.hid (HPA.out.below hb3)
      clear hb3 HB2 HPA HRi
      go_wp2_with fail
      refine (HRf.out Aa ca w3 HPA3.out).mono ?_
      rintro e w4 ⟨⟨vr, rfl, hvr⟩, hb4⟩
      obtain ⟨Ar, cr, rfl, hr1', hr2', hpr, -⟩ := flt_cells hvr
      have HB4 := Lib.hid (below_step HB3.out hb4)
      have HPR := Lib.hid hpr
      clear hvr hpr hb4 HB3 HPA3 HRf
      go_wp2_with fail
      refine (HCr.out w4 HB4.out).mono ?_
      rintro e w5 ⟨⟨vs, rfl, hvs⟩, hb5⟩
      obtain ⟨As, cs, rfl, hs1', hs2', hps, -⟩ := flt_cells hvs
      have HB5 := Lib.hid (below_step HB4.out hb5)
      have HS5 := Lib.hid (HSm.out Ar cr As cs w5 (HPR.out.below hb5) hps)
      clear hvs hps hb5 HB4 HPR HSm HCr
      go_wp2_with fail
      refine HS5.out.mono ?_
      rintro e w6 ⟨rfl, hb6⟩
      have HB6 := Lib.hid (below_step HB5.out hb6)
      clear HS5 hb6 HB5
      go_wp2_with fail
      refine (HA.out _ HB6.out).mono ?_
      rintro e w7 ⟨rfl, hb7⟩
      go_wp2_with fail
      go_ret
      exact ⟨rfl, below_step HB6.out hb7⟩
end Go.Proofs.YtfgjlnaojjldcaaGreatDoor
