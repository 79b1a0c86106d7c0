/- A walk: SchemaMarks. -/
import Derived.Test.YtfgjlnaojjldcaaGreatDoorGn
import Derived.Test.YtfgjlnaojjldcaaGreatDoorGp
import Derived.Test.YtfgjlnaojjldcaaGreatDoorGo
namespace Go.Proofs.YtfgjlnaojjldcaaGreatDoor
open Go Go.RowKit Go.Sort Sch Adr Mtr Tre

theorem flt_read {w : World} {base : Nat} {T : TypeId} {v : Value} {F : List Fault} (h : Pl w base T 2 v (F.map fitem)) : ∃ A c, v = .slice A F.length c ∧ F.length ≤ c ∧ c ≤ maxLen ∧ Pd w 2 A (F.map fitem) ∧ (A = none → c = 0) := by
  obtain ⟨A, c, e, h1, h2, h3, h4⟩ := h.read
  rw [List.length_map] at e h1
  exact ⟨A, c, e, h1, h2, h3, h4⟩
theorem info_line : (Tryz.prog.info? 42).map (fun i => (i.zero, i.size, i.bytes)) = some (some (.agg #[.int .i64 0, .string ⟨#[]⟩, .int .i64 0]), 3, 32) := by kernel_rfl
set_option maxHeartbeats 4000000 in
set_option maxRecDepth 100000 in
theorem schemaMarks_any (A : Option Addr) (cap : Nat) (L : List Line) (w : World) (hE : Env w) (hR : Rd w 3 A L.length (lines L)) (hcap : L.length ≤ cap) (hc : cap ≤ maxLen) :
    Calls Tryz.prog 6 #[.slice A L.length cap] w fun e w' => e = .returned (.bool true) ∧ Below w.heap.size w w' := by
  obtain ⟨i0, hii, hz0, hz1, hz2⟩ := info_parts info_line
  have HA := Lib.hid (fun W (hb : Below w.heap.size w W) => awake13_any W (hE.below hb))
  have HFew := Lib.hid (few13_any A cap L w hR hcap hc)
  have HRi := Lib.hid (fun W (hb : Below w.heap.size w W) => refRight_lines A cap L W (hR.below hb) hcap hc)
  rw [right_ref] at HRi
  cases hf : fewB L with
  | false =>
    rw [hf] at HFew
    clear hf HRi hR
    go_enter Tryz.func6, Tryz.ntmps6
    go_wp2_with fail
    refine HFew.out.mono ?_
    rintro e w1 ⟨rfl, hb1⟩
    go_wp2_with fail
    refine (HA.out _ hb1).mono ?_
    rintro e w2 ⟨rfl, hb2⟩
    go_wp2_with fail
    go_ret
    exact ⟨rfl, below_step hb1 hb2⟩
  | true =>
    rw [hf] at HFew
    cases hr : rightB L with
    | false =>
      rw [hr] at HRi
      clear hf hr hR
      go_enter Tryz.func6, Tryz.ntmps6
      go_wp2_with fail
      refine HFew.out.mono ?_
      rintro e w1 ⟨rfl, hb1⟩
      have HB1 := Lib.hid hb1
      go_wp2_with fail
      refine (HRi.out w1 HB1.out).mono ?_
      rintro e w2 ⟨rfl, hb2⟩
      have HB2 := Lib.hid (below_step HB1.out hb2)
      go_wp2_with fail
      refine (HA.out _ HB2.out).mono ?_
      rintro e w3 ⟨rfl, hb3⟩
      go_wp2_with fail
      go_ret
      exact ⟨rfl, below_step HB2.out hb3⟩
    | true =>
      rw [hr] at HRi
      have hln := few_len hf
      have HCk := Lib.hid (fun W (hb : Below w.heap.size w W) => check_yes A cap L W (hE.below hb) (hR.below hb) hcap hc hr)
      have HCz := Lib.hid (fun A2 c2 W (hb : Below w.heap.size w W) (hR2 : Rd W 3 A2 (zm L).length (lines (zm L))) (h1 : (zm L).length ≤ c2) (h2 : c2 ≤ maxLen) => check_yes A2 c2 (zm L) W (hE.below hb) hR2 h1 h2 (zm_right hr))
      rw [zm_check hr] at HCz
      have hsh := check_short hr
      have hfl := check_few (L := L) (by omega)
      have HSm := Lib.hid (fun A1 c1 A2 c2 W h1 h2 => same_any A1 c1 A2 c2 (checkB L) W h1 h2 (by omega) hsh)
      have HRf := Lib.hid (fun A1 c1 W h1 => refs_any A1 c1 (checkB L) W h1 (by omega))
      have HR := Lib.hid hR
      have HZL := Lib.hid (zm_len L)
      have hzt : Hid (∀ k, (h : k < L.length) → lines ((zm L).take (k + 1)) = lines ((zm L).take k) ++ [.int .i64 L[k].depth, .string L[k].word, .int .i64 0]) := fun k h => by
        have h2 : k < (zm L).length := by rw [zm_len]; exact h
        rw [List.take_succ_eq_append_getElem h2, lines_append, lines_one, zm_get h2 h]; rfl
      clear hf hr hR hsh hE
      generalize checkB L = F at *
      generalize zm L = Z at *
      go_enter Tryz.func6, Tryz.ntmps6
      go_wp2_with fail
      refine HFew.out.mono ?_
      rintro e w1 ⟨rfl, hb1⟩
      have HB1 := Lib.hid hb1
      clear hb1 HFew
      go_wp2_with fail
      refine (HRi.out w1 HB1.out).mono ?_
      rintro e w2 ⟨rfl, hb2⟩
      have HB2 := Lib.hid (below_step HB1.out hb2)
      clear hb2 HRi HB1

      go_wp2_with fail
      go_loopw [3, 21] (fun v vi wr => ∃ k : Nat, k ≤ L.length ∧ vi = .int .i64 k ∧ Hid (wr.ownsRow w2.heap.size 42 3 v k (lines (Z.take k))) ∧ Hid (Below w2.heap.size w2 wr)) (fun _ vi _ => L.length - (intOf vi).toNat)
      case atStart => exact ⟨0, Nat.zero_le _, rfl, World.ownsRow_nil _ _ _ _, Below.refl _ _⟩
      case round =>
        obtain ⟨k, hk, rfl, HO, HB⟩ := hrel
        by_cases hlt : k < L.length
        · obtain ⟨B, O, rfl, hab, hadd, x0, x1, x2⟩ := (HR.out.below (below_step HB2.out HB.out)).line hlt
          have hst := Lib.hid (hzt.out k hlt)
          generalize L[k].depth = d at *
          generalize L[k].word = u at *
          generalize L[k].mark = mk at *
          have HOo : Hid (World.ownsRow (wr.alloc (.cells #[.int .i64 d, .string u, .int .i64 0] 42)) w2.heap.size 42 3 u3 k (lines (Z.take k))) := own_below HO.out (below_new _ _)
          have HBo : Hid (Below w2.heap.size w2 (wr.alloc (.cells #[.int .i64 d, .string u, .int .i64 0] 42))) := below_step HB.out (below_new _ _)
          have hone := cells_one ⟨d, u, 0⟩
          have HONE : Hid (∀ x ∈ ([.int .i64 d, .string u, .int .i64 0] : List Value), x.oneCell' = true) := hone
          clear hzt HO HB hone
          go_wp2_with (at_builtin; refine app_new rfl _ _ 22 rfl w2 _ 42 i0 _ 3 32 Tryz.underlying22 hii hz0 hz1 hz2 rfl (by decide) (by decide) HOo.out HBo.out rfl 1 1 [.int .i64 d, .string u, .int .i64 0] (by simp [Act.eval]) rfl HONE.out (by omega) ?_; intro v' w' hown' hb')
          have HO6 : Hid (w'.ownsRow w2.heap.size 42 3 v' (k + 1) (lines (Z.take (k + 1)))) := by
            show World.ownsRow _ _ _ _ _ _ _
            rw [hst.out]; exact hown'
          have HB6 := Lib.hid hb'
          clear hown' hb' HOo HBo HONE hst x0 x1 x2
          go_roundw
          case rel => exact ⟨k + 1, by omega, by go_num, HO6, HB6⟩
          case measure => simp [intOf]; omega
        · obtain rfl : k = L.length := by omega
          have hO := HO.out
          rw [List.take_of_length_le (by rw [HZL.out]; exact Nat.le_refl _)] at hO
          obtain ⟨Az, cz, rfl, hz1', hz2', hRz, -⟩ := own_rd_nil hO
          have HRz := Lib.hid hRz
          have HBw := Lib.hid (below_step HB2.out HB.out)
          have HZL2 := HZL.out
          clear HO HB hO hRz hzt HB2 HR
          go_wp2_with fail
          refine (HCk.out _ HBw.out).mono ?_
          rintro e w4 ⟨⟨va, rfl, hva⟩, hb4⟩
          obtain ⟨Aa, ca, rfl, ha1, ha2, hpa, -⟩ := flt_read hva
          have HB4 := Lib.hid (below_step HBw.out hb4)
          have HPA := Lib.hid hpa
          have HC4 := HCz.out Az cz w4 HB4.out (by rw [HZL2]; exact HRz.out.below hb4) (by rw [HZL2]; exact hz1') hz2'
          rw [HZL2] at HC4
          clear HCk HCz HRz hva hpa hb4 HBw
          go_wp2_with fail
          refine HC4.mono ?_
          clear HC4
          rintro e w5 ⟨⟨vb, rfl, hvb⟩, hb5⟩
          obtain ⟨Ab, cb, rfl, hb1', hb2', hpb, -⟩ := flt_read hvb
          have HB5 := Lib.hid (below_step HB4.out hb5)
          have HPA5 := Lib.hid (HPA.out.below hb5)
          have HPB := Lib.hid hpb
          clear hvb hpb hb5 HB4 HPA
          go_wp2_with fail
          refine (HRf.out Aa ca w5 HPA5.out).mono ?_
          rintro e w6 ⟨⟨vr, rfl, hvr⟩, hb6⟩
          obtain ⟨Ar, cr, rfl, hr1', hr2', hpr, -⟩ := flt_read hvr
          have HB6 := Lib.hid (below_step HB5.out hb6)
          have HPB6 := Lib.hid (HPB.out.below hb6)
          have HPR := Lib.hid hpr
          clear hvr hpr hb6 HB5 HPB HPA5
          go_wp2_with fail
          refine (HRf.out Ab cb w6 HPB6.out).mono ?_
          rintro e w7 ⟨⟨vs, rfl, hvs⟩, hb7⟩
          obtain ⟨As, cs, rfl, hs1', hs2', hps, -⟩ := flt_read hvs
          have HB7 := Lib.hid (below_step HB6.out hb7)
          have HS7 := Lib.hid (HSm.out Ar cr As cs w7 (HPR.out.below hb7) hps)
          clear hvs hps hb7 HB6 HPB6 HPR HSm HRf
          go_wp2_with fail
          refine HS7.out.mono ?_
          rintro e w8 ⟨rfl, hb8⟩
          have HB8 := Lib.hid (below_step HB7.out hb8)
          clear HS7 hb8 HB7
          go_wp2_with fail
          refine (HA.out _ HB8.out).mono ?_
          rintro e w9 ⟨rfl, hb9⟩
          go_wp2_with fail
          go_ret
          exact ⟨rfl, below_step HB8.out hb9⟩
end Go.Proofs.YtfgjlnaojjldcaaGreatDoor
