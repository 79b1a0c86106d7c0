/- A walk: SchemaLess. -/
import Derived.Test.YtfgjlnaojjldcaaGreatDoorGn
import Derived.Test.YtfgjlnaojjldcaaGreatDoorGp
import Derived.Test.YtfgjlnaojjldcaaGreatDoorGr
import Derived.Test.YtfgjlnaojjldcaaGreatDoorGo
namespace Go.Proofs.YtfgjlnaojjldcaaGreatDoor
open Go Go.RowKit Go.Sort Sch Adr Mtr Tre

theorem flt_back {w : World} {base : Nat} {T : TypeId} {v : Value} {F : List Fault} (h : Pl w base T 2 v (F.map fitem)) : ∃ A c, v = .slice A F.length c ∧ F.length ≤ c ∧ c ≤ maxLen ∧ Pd w 2 A (F.map fitem) ∧ (A = none → c = 0) := by
  obtain ⟨A, c, e, h1, h2, h3, h4⟩ := h.read
  rw [List.length_map] at e h1
  exact ⟨A, c, e, h1, h2, h3, h4⟩
theorem info_aline : (Tryz.prog.info? 42).map (fun i => (i.zero, i.size, i.bytes)) = some (some (.agg #[.int .i64 0, .string ⟨#[]⟩, .int .i64 0]), 3, 32) := by kernel_rfl
set_option maxHeartbeats 4000000 in
set_option maxRecDepth 100000 in
theorem schemaLess_any (A : Option Addr) (cap : Nat) (L : List Line) (w : World) (hE : Env w) (hR : Rd w 3 A L.length (lines L)) (hcap : L.length ≤ cap) (hc : cap ≤ maxLen) :
    Calls Tryz.prog 7 #[.slice A L.length cap] w fun e w' => e = .returned (.bool true) ∧ Below w.heap.size w w' := by
  obtain ⟨i0, hii, hz0, hz1, hz2⟩ := info_parts info_aline
  have HA := Lib.hid (fun W (hb : Below w.heap.size w W) => awake13_any W (hE.below hb))
  have HFew := Lib.hid (few13_any A cap L w hR hcap hc)
  have HRi := Lib.hid (fun W (hb : Below w.heap.size w W) => refRight_lines A cap L W (hR.below hb) hcap hc)
  rw [right_ref] at HRi
  cases hf : fewB L with
  | false =>
    rw [hf] at HFew
    clear hf HRi hR
    go_enter Tryz.func7, Tryz.ntmps7
    go_wp2_with fail
    refine HFew.out.mono ?_
    rintro e w1 ⟨rfl, hb1⟩
    go_wp2_with fail
    refine (HA.out _ hb1).mono ?_
    rintro e w2 ⟨rfl, hb2⟩
    go_wp2_with fail
    go_ret
    exact ⟨rfl, below_step hb1 hb2⟩
  | true =>
    rw [hf] at HFew
    cases hr : rightB L with
    | false =>
      rw [hr] at HRi
      clear hf hr hR
      go_enter Tryz.func7, Tryz.ntmps7
      go_wp2_with fail
      refine HFew.out.mono ?_
      rintro e w1 ⟨rfl, hb1⟩
      have HB1 := Lib.hid hb1
      go_wp2_with fail
      refine (HRi.out w1 HB1.out).mono ?_
      rintro e w2 ⟨rfl, hb2⟩
      have HB2 := Lib.hid (below_step HB1.out hb2)
      go_wp2_with fail
      refine (HA.out _ HB2.out).mono ?_
      rintro e w3 ⟨rfl, hb3⟩
      go_wp2_with fail
      go_ret
      exact ⟨rfl, below_step HB2.out hb3⟩
    | true =>
      rw [hr] at HRi
      have hln := few_len hf
      have HCk := Lib.hid (fun W (hb : Below w.heap.size w W) => check_yes A cap L W (hE.below hb) (hR.below hb) hcap hc hr)
      cases hF : checkB L with
      | cons f0 F0 =>
        rw [hF] at HCk
        have hfl : (0 : Int) < ((f0 :: F0).length : Int) := by rw [List.length_cons]; omega
        generalize f0 :: F0 = F at *
        clear hf hr hR hF hE
        go_enter Tryz.func7, Tryz.ntmps7
        go_wp2_with fail
        refine HFew.out.mono ?_
        rintro e w1 ⟨rfl, hb1⟩
        have HB1 := Lib.hid hb1
        clear hb1 HFew
        go_wp2_with fail
        refine (HRi.out w1 HB1.out).mono ?_
        rintro e w2 ⟨rfl, hb2⟩
        have HB2 := Lib.hid (below_step HB1.out hb2)
        clear hb2 HRi HB1
        go_wp2_with fail
        refine (HCk.out _ HB2.out).mono ?_
        rintro e w3 ⟨⟨va, rfl, hva⟩, hb3⟩
        obtain ⟨Aa, ca, rfl, ha1, ha2, hpa, -⟩ := flt_back hva
        have HB3 := Lib.hid (below_step HB2.out hb3)
        clear HCk hva hpa hb3 HB2
        go_wp2_with fail
        refine (HA.out _ HB3.out).mono ?_
        rintro e w4 ⟨rfl, hb4⟩
        go_wp2_with fail
        go_ret
        exact ⟨rfl, below_step HB3.out hb4⟩
      | nil =>
        rw [hF] at HCk
        obtain ⟨hlr, hlp⟩ := less_right hr
        have HCz := Lib.hid (fun A2 c2 W (hb : Below w.heap.size w W) (hR2 : Rd W 3 A2 (lessL L).length (lines (lessL L))) (h1 : (lessL L).length ≤ c2) (h2 : c2 ≤ maxLen) => check_yes A2 c2 (lessL L) W (hE.below hb) hR2 h1 h2 hlr)
        rw [less_ok hr hF] at HCz
        have HR := Lib.hid hR
        have HPa : Hid (∀ (k : Nat), k < L.length → ∀ W, Below w.heap.size w W → Calls Tryz.prog 25 #[.slice A L.length cap, .int .i64 k] W (StrsEnd W (pa L k))) := fun k hk W hb => by
          have := refPath_lines A cap L k W (hR.below hb) hcap hc (by omega) hk
          rw [path_pa (right_parts hr).2.1 hk] at this; exact this
        have HSh := Lib.hid (fun (k : Nat) (hk : k < L.length) => pa_short hr hk)
        have HLL : Hid (lessTo L L.length = lessL L) := rfl
        have HSu := Lib.hid (fun (k : Nat) (hk : k < L.length) => less_succ hk)
        have HLe := Lib.hid (less_len L)
        have HKp : Hid (∀ (P : List ByteArray) (h : 0 < P.length), keepP P = (!(decide (P[0] = wPolicy)) && !(decide (P[0] = wRoutes)))) := fun P h => by
          cases P with
          | nil => simp at h
          | cons a l => rfl
        clear hf hr hR hF hE hlr hlp
        generalize lessL L = Z at *
        go_enter Tryz.func7, Tryz.ntmps7
        go_wp2_with fail
        refine HFew.out.mono ?_
        rintro e w1 ⟨rfl, hb1⟩
        have HB1 := Lib.hid hb1
        clear hb1 HFew
        go_wp2_with fail
        refine (HRi.out w1 HB1.out).mono ?_
        rintro e w2 ⟨rfl, hb2⟩
        have HB2 := Lib.hid (below_step HB1.out hb2)
        clear hb2 HRi HB1
        go_wp2_with fail
        refine (HCk.out _ HB2.out).mono ?_
        rintro e w3 ⟨⟨va, rfl, hva⟩, hb3⟩
        obtain rfl := hva.2.1 rfl
        have HB3 := Lib.hid (below_step HB2.out hb3)
        clear HCk hva hb3 HB2
        go_wp2_with fail
        go_loopw [5, 39] (fun v vi wr => ∃ k : Nat, k ≤ L.length ∧ vi = .int .i64 k ∧ Hid (wr.ownsRow w3.heap.size 42 3 v (lessTo L k).length (lines (lessTo L k))) ∧ Hid (Below w3.heap.size w3 wr)) (fun _ vi _ => L.length - (intOf vi).toNat)
        case atStart => exact ⟨0, Nat.zero_le _, rfl, by show World.ownsRow _ _ _ _ _ _ _; simpa [lessTo, lines] using World.ownsRow_nil _ _ _ _, Below.refl _ _⟩
        case round =>
          obtain ⟨k, hk, rfl, HO, HB⟩ := hrel
          by_cases hlt : k < L.length
          · obtain ⟨B, O, rfl, hab, hadd, x0, x1, x2⟩ := (HR.out.below (below_step HB3.out HB.out)).line hlt
            have hst := HSu.out k hlt
            have hsh := HSh.out k hlt
            have hle := HLe.out k
            have HPk := Lib.hid (HPa.out k hlt)
            have HLi : Hid (lines [L[k]] = [.int .i64 L[k].depth, .string L[k].word, .int .i64 L[k].mark]) := lines_one _
            have HON : Hid (∀ x ∈ ([.int .i64 L[k].depth, .string L[k].word, .int .i64 L[k].mark] : List Value), x.oneCell' = true) := cells_one L[k]
            generalize hlk : L[k] = lk at *
            generalize lk.depth = d at *
            generalize lk.word = u at *
            generalize lk.mark = mk at *
            generalize pa L k = P at *
            obtain ⟨-, hp0, hps⟩ := hsh
            have hkp := HKp.out P hp0
            have HST := Lib.hid hst
            clear hst hlk HKp HSh HSu HPa hps
            obtain ⟨wo, hwo⟩ : ∃ wo, wr.alloc (.cells #[.int .i64 d, .string u, .int .i64 mk] 42) = wo := ⟨_, rfl⟩
            have hbo : Below wr.heap.size wr wo := by rw [← hwo]; exact (Below.refl _ _).alloc (Nat.le_refl _) _
            have y0 : wo.cell? ⟨wr.heap.size, 0, none⟩ = some (.int .i64 d) := by rw [← hwo, World.cell?_alloc_at _ _ _ _ rfl]; rfl
            have y1 : wo.cell? ⟨wr.heap.size, 1, none⟩ = some (.string u) := by rw [← hwo, World.cell?_alloc_at _ _ _ _ rfl]; rfl
            have y2 : wo.cell? ⟨wr.heap.size, 2, none⟩ = some (.int .i64 mk) := by rw [← hwo, World.cell?_alloc_at _ _ _ _ rfl]; rfl
            have HY0 := Lib.hid y0
            have HY1 := Lib.hid y1
            have HY2 := Lib.hid y2
            have HBo := Lib.hid (below_step HB.out hbo)
            have HOo := Lib.hid (own_below HO.out hbo)
            have HWO := Lib.hid hwo
            have HPo := HPk.out wo (below_step HB3.out HBo.out)
            unfold StrsEnd at HPo
            clear HO HB hbo y0 y1 y2 hwo HPk
            go_wp2_with fail
            rw [HWO.out]
            refine HPo.mono ?_
            clear HPo
            rintro e w5 ⟨A5, c5, rfl, hp1, hp2, hrd, -, hb5⟩
            obtain ⟨B5, O5, rfl, -, -, z0⟩ := hrd.strAt hp0
            rw [Nat.add_zero] at z0
            have y0 := (hb5.cell (p := ⟨wr.heap.size, 0, none⟩) (Lib.lt_of_cell HY0.out)).trans HY0.out
            have y1 := (hb5.cell (p := ⟨wr.heap.size, 1, none⟩) (Lib.lt_of_cell HY1.out)).trans HY1.out
            have y2 := (hb5.cell (p := ⟨wr.heap.size, 2, none⟩) (Lib.lt_of_cell HY2.out)).trans HY2.out
            have HB5 := Lib.hid (below_step HBo.out hb5)
            have HO5 := Lib.hid (own_below HOo.out hb5)
            have hp0i : (0 : Int) < (P.length : Int) := by omega
            generalize P[0] = h0 at *
            clear HWO HY0 HY1 HY2 HBo HOo hb5 hrd hp0
            by_cases e1 : h0 = wPolicy
            · have q1 : (h0.toList == [112, 111, 108, 105, 99, 121]) = true := (type_eq h0 _).trans (decide_eq_true e1)
              have p1 : h0.toList = [112, 111, 108, 105, 99, 121] := by simpa using q1
              have HOF : Hid (w5.ownsRow w3.heap.size 42 3 u5 (lessTo L (k + 1)).length (lines (lessTo L (k + 1)))) := by
                show World.ownsRow _ _ _ _ _ _ _
                rw [HST.out, hkp, decide_eq_true e1]; simpa using HO5.out
              clear e1 hkp HST HO5 HLi HON
              go_wp2_with fail
              go_roundw
              case rel => exact ⟨k + 1, by omega, by go_num, HOF, HB5⟩
              case measure => simp [intOf]; omega
            · have q1 : (h0.toList == [112, 111, 108, 105, 99, 121]) = false := (type_eq h0 _).trans (decide_eq_false e1)
              have p1 : ¬ h0.toList = [112, 111, 108, 105, 99, 121] := by simpa using q1
              by_cases e2 : h0 = wRoutes
              · have q2 : (h0.toList == [114, 111, 117, 116, 101, 115]) = true := (type_eq h0 _).trans (decide_eq_true e2)
                have p2 : h0.toList = [114, 111, 117, 116, 101, 115] := by simpa using q2
                have HOF : Hid (w5.ownsRow w3.heap.size 42 3 u5 (lessTo L (k + 1)).length (lines (lessTo L (k + 1)))) := by
                  show World.ownsRow _ _ _ _ _ _ _
                  rw [HST.out, hkp, decide_eq_true e2]; simpa using HO5.out
                clear e1 e2 hkp HST HO5 HLi HON p1
                go_wp2_with fail
                go_roundw
                case rel => exact ⟨k + 1, by omega, by go_num, HOF, HB5⟩
                case measure => simp [intOf]; omega
              · have q2 : (h0.toList == [114, 111, 117, 116, 101, 115]) = false := (type_eq h0 _).trans (decide_eq_false e2)
                have p2 : ¬ h0.toList = [114, 111, 117, 116, 101, 115] := by simpa using q2
                have HEQ : Hid (lessTo L (k + 1) = lessTo L k ++ [lk]) := by show _ = _; rw [HST.out, hkp, decide_eq_false e1, decide_eq_false e2]; rfl
                have HLQ : Hid ((lessTo L (k + 1)).length = (lessTo L k).length + 1) := by show _ = _; rw [HEQ.out]; simp
                have HLN : Hid ((lessTo L k).length + 1 ≤ 1000000000) := by show _ ≤ _; omega
                clear e1 e2 hkp HST
                go_wp2_with (at_builtin; refine app_new rfl _ _ 22 rfl w3 w5 42 i0 _ 3 32 Tryz.underlying22 hii hz0 hz1 hz2 rfl (by decide) (by decide) HO5.out HB5.out rfl 1 1 [.int .i64 d, .string u, .int .i64 mk] rfl rfl HON.out HLN.out ?_; intro v' w' hown' hb')
                have HOF : Hid (w'.ownsRow w3.heap.size 42 3 v' (lessTo L (k + 1)).length (lines (lessTo L (k + 1)))) := by
                  show World.ownsRow _ _ _ _ _ _ _
                  rw [HLQ.out, HEQ.out, lines_append, HLi.out]; exact hown'
                have HB6 := Lib.hid hb'
                clear hown' hb' HO5 HB5 HEQ HLQ y0 y1 y2 z0
                go_roundw
                case rel => exact ⟨k + 1, by omega, by go_num, HOF, HB6⟩
                case measure => simp [intOf]; omega
          · obtain rfl : k = L.length := by omega
            have hO := HO.out
            rw [HLL.out] at hO
            obtain ⟨Az, cz, rfl, hz1', hz2', hRz, -⟩ := own_rd_nil hO
            have HBw := Lib.hid (below_step HB3.out HB.out)
            have HC4 := Lib.hid (HCz.out Az cz wr HBw.out hRz hz1' hz2')
            clear HO HB hO hRz HB3 HR HCz HPa HSu HSh HKp
            go_wp2_with fail
            refine HC4.out.mono ?_
            rintro e w4 ⟨⟨vb, rfl, hvb⟩, hb4⟩
            obtain rfl := hvb.2.1 rfl
            have HB4 := Lib.hid (below_step HBw.out hb4)
            clear HC4 hvb hb4 HBw
            go_wp2_with fail
            refine (HA.out _ HB4.out).mono ?_
            rintro e w5 ⟨rfl, hb5⟩
            go_wp2_with fail
            go_ret
            exact ⟨rfl, below_step HB4.out hb5⟩
end Go.Proofs.YtfgjlnaojjldcaaGreatDoor
