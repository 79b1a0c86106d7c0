/- A walk: schema.line. Plain: the faults of a tree, line by line, and by its paths. -/
import Derived.Deep.RegionLaw
import Derived.Deep.CutBlock
import Derived.Deep.DeepCutAuto
import Derived.Test.YtlldjkhlhfnfeaaGreatDoorGl
import Derived.Test.YtlldjkhlhfnfeaaGreatDoorGh
namespace Go.Proofs.YtlldjkhlhfnfeaaGreatDoor
open Go Go.RowKit Go.Sort Sch Adr Mtr Tre

theorem one_three : ∀ r ∈ rulesB, r.one = true → r.path.length = 3 := by decide +kernel
theorem one_needs {L : List Line} {i : Nat} {r : Rule} {P : List ByteArray} (hr : r ∈ rulesB) (hl : r.path.length = P.length) : needsOf P = [] ∨ oneF L i r P = [] := by
  cases h : r.one with
  | false => exact .inr (oneF_no h)
  | true => exact .inl (needs_other (by rw [← hl, one_three r hr h]; decide))
set_option maxHeartbeats 8000000 in
set_option maxRecDepth 100000 in
theorem line_any (A : Option Addr) (cap : Nat) (L : List Line) (i : Nat) (Ar : Option Addr) (cr : Nat) (r : Rule) (b c pb pc : Nat) (P : List ByteArray) (w : World) (hE : Env w) (hR : Rd w 3 A L.length (lines L)) (hcap : L.length ≤ cap) (hc : cap ≤ maxLen) (hr : rightB L = true) (hi : i < L.length)
    (hRu : Rules w Ar) (hru : r ∈ rulesB) (hrd : Rd w 1 (some ⟨b, 0, none⟩) r.path.length (sv r.path)) (hrc : r.path.length ≤ c) (hPv : Pv w (.slice (some ⟨pb, 0, none⟩) P.length pc) P) (hPl : r.path.length = P.length) (hpl : P.length ≤ 100) (hps : Shw P) :
    Calls Tryz.prog 52 #[.slice A L.length cap, .int .i64 i, .slice Ar 34 cr, .agg #[.slice (some ⟨b, 0, none⟩) r.path.length c, .bool r.one, .bool r.needed], .slice (some ⟨pb, 0, none⟩) P.length pc] w (LineEnd (lineF L i r P) w) := by
  obtain ⟨i0, hii, hz0, hz1, hz2⟩ := info_parts info_fault
  obtain ⟨s0, hsi, sz0, sz1, sz2⟩ := info_parts info_string
  obtain ⟨wb, hwb⟩ : ∃ wb, w.heap.size = wb := ⟨_, rfl⟩
  obtain ⟨w0, hw0⟩ : ∃ w0, (w.alloc (.cells #[.slice A L.length cap] 22)).alloc (.cells #[.slice (some ⟨b, 0, none⟩) r.path.length c, .bool r.one, .bool r.needed] 74) = w0 := ⟨_, rfl⟩
  have hb0 : Below w.heap.size w w0 := by rw [← hw0]; exact ((Below.refl _ _).alloc (Nat.le_refl _) _).alloc (by simp) _
  have hsz : w0.heap.size = wb + 2 := by rw [← hw0, ← hwb]; simp
  have t0 : w0.cell? ⟨wb, 0, none⟩ = some (.slice A L.length cap) := by
    rw [← hw0, ← hwb, World.cell?_alloc_lt _ _ _ (by simp), World.cell?_alloc_at _ _ _ _ rfl]; rfl
  have r0 : w0.cell? ⟨wb + 1, 0, none⟩ = some (.slice (some ⟨b, 0, none⟩) r.path.length c) := by rw [← hw0, World.cell?_alloc_at _ _ _ _ (by simp [hwb])]; rfl
  have r1 : w0.cell? ⟨wb + 1, 1, none⟩ = some (.bool r.one) := by rw [← hw0, World.cell?_alloc_at _ _ _ _ (by simp [hwb])]; rfl
  have h200 := right_len hr
  have hE0 := hE.below hb0
  have hR0 := hR.below hb0
  have hRu0 := hRu.below hb0
  have hrd0 := hrd.below hb0
  have hPv0 := hPv.below hb0
  have HKi := Lib.hid (kids_line A cap L i w0 hR0 hcap hc hr hi)
  have HNe := Lib.hid (fun W (hb : Below w0.heap.size w0 W) => needs_any Ar cr (some ⟨pb, 0, none⟩) pc P W (hE0.below hb) (hRu0.below hb) (hPv0.rd.1.below hb) (by omega) hps)
  have HMe := Lib.hid (fun W (hb : Below w0.heap.size w0 W) => meant_any A cap L i b c r (some ⟨pb, 0, none⟩) pc P W (hE0.below hb) (hR0.below hb) hcap hc hr (by omega) hru (hrd0.below hb) hrc (hPv0.rd.1.below hb) hPl (by omega) hps)
  have HCl := Lib.hid (fun W (hb : Below w0.heap.size w0 W) => Tryz.slices_Clone_string pb 0 P.length pc P W (Nat.le_refl _) (by omega) (fun j hj => by
    have := (hPv0.rd.1.below hb).2 (by omega)
    obtain ⟨ad, e, -, hx⟩ := this
    injection e with e
    subst e
    have h2 := hx j _ (sv_get hj)
    rw [add_plain] at h2
    rw [h2, List.getD_eq_getElem?_getD, List.getElem?_eq_getElem hj]; rfl))
  have HHK := Lib.hid (fun W (hb : Below w0.heap.size w0 W) pw s (hw : W.cell? ⟨pw, 0, none⟩ = some (.string s)) Ak ck (hRk : Rd W 1 Ak (kidsB L i).length (iv (kidsB L i))) (hkl : (kidsB L i).length ≤ 100000) =>
    hasKid_any A cap L wb pw s Ak ck (kidsB L i) W (hR0.below hb) hc hcap (fun k hk => by have := mem_kidsTo.1 hk; have h2 := endB_le L i hi; omega) ((hb.cell (p := ⟨wb, 0, none⟩) (by show wb < _; omega)).trans t0) hw hRk hkl)
  have HPv : Hid (Pv w0 (.slice (some ⟨pb, 0, none⟩) P.length pc) P) := hPv0
  have hkl : (kidsB L i).length ≤ 200 := by
    have h1 := kidsTo_len L (depthAt L i + 1) (i + 1) (endB L i)
    have h2 := endB_le L i hi
    unfold kidsB; omega
  have HF1 := Lib.hid (oneF_cases L i r P)
  have HLF : Hid (lineF L i r P = oneF L i r P ++ missF L i P (needsOf P) ++ meantF L i r P) := rfl
  have HMF : Hid (meantF L i r P = if meantB L i r.path P then [(P, 7)] else []) := rfl
  have HKH : Hid (∀ s, kidHas L i s = (kidsB L i).any (kidIs L s)) := fun s => rfl
  have HFW := Lib.hid (one_needs (L := L) (i := i) hru hPl)
  have HNL : Hid ((needsOf P).length ≤ 34) := by have := needsTo_len P 34; rw [needsTo_all] at this; exact this
  have HB := Lib.hid hb0
  have HSZ := Lib.hid hsz
  have HWB := Lib.hid hwb
  have HT0 := Lib.hid t0
  have HR0 := Lib.hid r0
  have HR1 := Lib.hid r1
  clear hE hR hRu hru hrd hrc hPv hPl hps hb0 hsz t0 r0 r1 hE0 hR0 hRu0 hrd0 hPv0 hr hi
  have HF1L : Hid ((oneF L i r P).length ≤ 1) := by
    rcases HF1.out with ⟨-, h⟩ | ⟨-, -, h⟩ | ⟨-, -, h⟩ | ⟨-, -, h⟩ <;> (show _ ≤ _; rw [h]; simp)
  generalize oneF L i r P = F0 at *
  generalize meantF L i r P = F2 at *
  generalize meantB L i r.path P = mb at *
  generalize needsOf P = W at *
  unfold KidsEnd at HKi
  generalize kidsB L i = K at *
  obtain ⟨ro, hro⟩ : ∃ ro, r.one = ro := ⟨_, rfl⟩
  rw [hro] at hw0 HR1 HF1 ⊢
  clear hro
  have t0 := HT0.out
  go_enter Tryz.func52, Tryz.ntmps52
  go_wp2_with fail
  clear t0
  refine HKi.out.mono ?_
  rintro e w1 ⟨Ak, ck, rfl, hk1, hk2, hrk, hb1⟩
  have r1 := (hb1.cell (p := ⟨wb + 1, 1, none⟩) (by show wb + 1 < _; rw [HSZ.out]; omega)).trans HR1.out
  have HPv1 := Lib.hid (HPv.out.below hb1)
  have HB1 := Lib.hid hb1
  have HRk := Lib.hid hrk
  clear HKi HR1 hb1 hrk
  go_upto_block 0 with fail
  go_cut [11, 12] (fun v y wx => Pl wx w0.heap.size 34 2 v (F0.map fitem) ∧ Below w0.heap.size w0 wx ∧ Below w1.heap.size w1 wx ∧ y = .slice Ak K.length ck)
  case first =>
    rcases HF1.out with ⟨rfl, h2⟩ | ⟨rfl, hk, h2⟩ | ⟨rfl, hk, h2⟩ | ⟨rfl, hk, h2⟩
    · have HH := Lib.hid h2
      clear h2
      go_wp2_with fail
      go_meet
      case rel => rw [HH.out]; exact ⟨Pl.nil _ _ _ _, HB1.out, Below.refl _ _, rfl⟩
    · have HH := Lib.hid h2
      clear h2
      go_wp2_with (at_builtin; refine app_item rfl _ _ 29 rfl w1 w1 34 i0 _ 2 32 Tryz.underlying29 hii hz0 hz1 hz2 rfl (by decide) (by decide) (Pl.nil _ _ _ _) (Below.refl _ _) rfl (.slice (some ⟨pb, 0, none⟩) P.length pc) (fitem (P, 1)) rfl (fitem_cells _) HPv1.out rfl (by simp) ?_; intro v' w' hown' hb')
      go_meet
      case rel => rw [HH.out]; exact ⟨hown'.base HB1.out.size, HB1.out.trans (hb'.mono HB1.out.size), hb', by rw [hk]⟩
    · have HH := Lib.hid h2
      clear h2
      go_wp2_with fail
      go_meet
      case rel => rw [HH.out]; exact ⟨Pl.nil _ _ _ _, HB1.out, Below.refl _ _, by rw [hk]⟩
    · have HH := Lib.hid h2
      have hk0 : ¬ K.length = 0 := by omega
      have hki : (1 : Int) < (K.length : Int) := by omega
      clear h2
      go_wp2_with (at_builtin; refine app_item rfl _ _ 29 rfl w1 w1 34 i0 _ 2 32 Tryz.underlying29 hii hz0 hz1 hz2 rfl (by decide) (by decide) (Pl.nil _ _ _ _) (Below.refl _ _) rfl (.slice (some ⟨pb, 0, none⟩) P.length pc) (fitem (P, 4)) rfl (fitem_cells _) HPv1.out rfl (by simp) ?_; intro v' w' hown' hb')
      go_meet
      case rel => rw [HH.out]; exact ⟨hown'.base HB1.out.size, HB1.out.trans (hb'.mono HB1.out.size), hb', rfl⟩
  case rest =>
    clear HF1 r1 HPv1
    obtain ⟨hP2, hb2, hb12, rfl⟩ := hcut
    have HP2 := Lib.hid hP2
    have HB2 := Lib.hid hb2
    have HRk2 := Lib.hid (HRk.out.below hb12)
    clear hP2 hb2 hb12 HRk HB1
    go_wp2_with fail
    refine (HNe.out wc HB2.out).mono ?_
    rintro e w3 ⟨An, cn, rfl, hn1, hn2, hrn, -, hb3⟩
    have HB3 := Lib.hid (below_step HB2.out hb3)
    have HP3 := Lib.hid (HP2.out.below hb3)
    have HRk3 := Lib.hid (HRk2.out.below hb3)
    have HRn := Lib.hid hrn
    have hwl := HNL.out
    clear HNe HP2 HB2 HRk2 hb3 hrn
    have HMW : Hid ((missF L i P W).length ≤ W.length) := missF_len L i P W
    go_upto_block 1 with fail
    go_cut [11] (fun v wx => Pl wx w0.heap.size 34 2 v ((F0 ++ missF L i P W).map fitem) ∧ Below w0.heap.size w0 wx)
    case first =>
      rcases HFW.out with rfl | rfl
      · have HX : Hid (((F0 ++ missF L i P []).map fitem) = F0.map fitem) := by show _ = _; simp [missF]
        clear HFW HHK HRk3 HRn
        go_wp2_with fail
        go_loopw [11, 48] (fun v vi wr => vi = .int .i64 0 ∧ Hid (Pl wr w0.heap.size 34 2 v (F0.map fitem)) ∧ Hid (Below w0.heap.size w0 wr)) (fun _ _ _ => 0)
        case atStart => exact ⟨rfl, HP3, HB3⟩
        case round =>
          obtain ⟨rfl, HP, HB⟩ := hrel
          go_wp2_with fail
          go_meet
          case rel => rw [HX.out]; exact ⟨HP.out, HB.out⟩
      · obtain rfl : u11 = .slice none 0 0 := HP3.out.2.1 rfl
        clear HFW HP3
        go_wp2_with fail
        go_loopw [11, 48] (fun v vi wr => ∃ k : Nat, k ≤ W.length ∧ vi = .int .i64 k ∧ Hid (Pl wr w3.heap.size 34 2 v ((missF L i P (W.take k)).map fitem)) ∧ Hid (Below w3.heap.size w3 wr)) (fun _ vi _ => W.length - (intOf vi).toNat)
        case atStart => exact ⟨0, Nat.zero_le _, rfl, by show Pl _ _ _ _ _ _; simpa [missF] using Pl.nil _ _ _ _, Below.refl _ _⟩
        case round =>
          obtain ⟨k, hk, rfl, HP, HB⟩ := hrel
          by_cases hlt : k < W.length
          · obtain ⟨B, O, rfl, hab, hadd, x0⟩ := (HRn.out.below HB.out).strAt hlt
            have hst : Hid (missF L i P (W.take (k + 1)) = missF L i P (W.take k) ++ (if K.any (kidIs L W[k]) then [] else [(P ++ [W[k]], 1)])) := by
              show _ = _
              rw [List.take_succ_eq_append_getElem hlt, missF_snoc, HKH.out]
            have hlen : Hid ((missF L i P (W.take k)).length ≤ k) := by
              have := missF_len L i P (W.take k)
              rw [List.length_take] at this
              show _ ≤ _; omega
            generalize W[k] = s at *
            generalize missF L i P (W.take k) = M at *
            obtain ⟨q, hq⟩ : ∃ q, wr.heap.size = q := ⟨_, rfl⟩
            obtain ⟨wo, hwo⟩ : ∃ wo, wr.alloc (.cells #[.string s] 9) = wo := ⟨_, rfl⟩
            have hbo : Below wr.heap.size wr wo := by rw [← hwo]; exact (Below.refl _ _).alloc (Nat.le_refl _) _
            have y0 : wo.cell? ⟨q, 0, none⟩ = some (.string s) := by rw [← hwo, World.cell?_alloc_at _ _ _ _ hq.symm]; rfl
            have HBo := Lib.hid (below_step HB.out hbo)
            have HPo := Lib.hid (HP.out.below hbo)
            have HY := Lib.hid y0
            have HC := Lib.hid (HHK.out wo (below_step HB3.out HBo.out) q s y0 Ak ck (HRk3.out.below HBo.out) (by omega))
            have hql : q < wo.heap.size := by rw [← hwo, ← hq]; simp
            generalize K.any (kidIs L s) = kb at *
            clear hbo y0 HP HB
            cases kb with
            | true =>
              have hs2 : Hid (missF L i P (W.take (k + 1)) = M) := by show _ = _; rw [hst.out]; simp
              clear hst
              go_wp2_with fail
              refine HC.out.mono ?_
              rintro e w4 ⟨rfl, hb4⟩
              have HB4 := Lib.hid (below_step HBo.out hb4)
              have HP4 := Lib.hid (HPo.out.below hb4)
              clear HC hb4 HBo HPo hwo x0
              go_wp2_with fail
              go_roundw
              case rel => exact ⟨k + 1, by omega, by go_num, by show Pl _ _ _ _ _ _; rw [hs2.out]; exact HP4.out, HB4⟩
              case measure => simp [intOf]; omega
            | false =>
              have hs2 : Hid (missF L i P (W.take (k + 1)) = M ++ [(P ++ [s], 1)]) := by show _ = _; rw [hst.out]; simp
              clear hst
              go_wp2_with fail
              refine HC.out.mono ?_
              rintro e w4 ⟨rfl, hb4⟩
              have HB4 := Lib.hid (below_step HBo.out hb4)
              have HP4 := Lib.hid (HPo.out.below hb4)
              have HY4 := Lib.hid ((hb4.cell (p := ⟨q, 0, none⟩) hql).trans HY.out)
              have y4 := HY4.out
              clear HC hb4 HBo HPo hwo x0 HY hql
              have HB04 := Lib.hid (below_step HB3.out HB4.out)
              have HCL : Hid (∀ W, Below w4.heap.size w4 W → Calls Tryz.prog 88 #[.slice (some ⟨pb, 0, none⟩) P.length pc] W fun e w' => ∃ v', e = .returned v' ∧ w'.ownsRow w4.heap.size 9 1 v' P.length (sv P) ∧ Below w4.heap.size w4 w' ∧ Below W.heap.size W w') := fun W hb =>
                (HCl.out W (below_step HB04.out hb)).mono fun e w' ⟨v', h1, h2, _, h4⟩ => ⟨v', h1, by rw [List.take_length] at h2; exact own_base h2 hb.size, below_step hb h4, h4⟩
              have HPF := HP4
              have HLP : P.length ≤ 1000000 := by omega
              have HLI : Hid ((M.map fitem).length + 1 ≤ 1000000000) := by
                have h2 := hlen.out
                show _ ≤ _
                rw [List.length_map]; omega
              have HQ4 := Lib.hid (Lib.lt_of_cell y4)
              clear HCl HNL HLF HKH
              go_upto_region 11 with fail
              go_region_law (first
                | (go_simp; go_at_call 88; refine Calls.mono (HCL.out _ (Below.refl _ _).drew) ?_; rintro e wcl ⟨vc, rfl, hoc, hbc, hbw⟩; have HOc := Lib.hid hoc; have HBc := Lib.hid hbc; have HLc := Lib.hid hbw; have yc := (hbc.cell (p := ⟨q, 0, none⟩) HQ4.out).trans y4; clear hoc hbc hbw)
                | (go_simp; go_at_call 88; refine Calls.mono (HCL.out _ ((Below.refl _ _).alloc (Nat.le_refl _) _).drew) ?_; rintro e wcl ⟨vc, rfl, hoc, hbc, hbw⟩; have HOc := Lib.hid hoc; have HBc := Lib.hid hbc; have HLc := Lib.hid hbw; have yc := (hbc.cell (p := ⟨q, 0, none⟩) HQ4.out).trans y4; clear hoc hbc hbw)
                | (refine step_push rfl (.tmp 58) (.tmp 60) 26 rfl 9 s0 _ Tryz.underlying26 hsi sz0 sz1 sz2 rfl (w0 := w4) rfl HOc.out HBc.out HLP s _ 1 rfl ((HLc.out.cell (p := ⟨w4.heap.size, 0, none⟩) (by simp)).trans (by simp)) ?_; intro g c' w5 hpv hb5)
                | (refine step_push rfl (.tmp 58) (.tmp 60) 26 rfl 9 s0 _ Tryz.underlying26 hsi sz0 sz1 sz2 rfl (w0 := w4) rfl (own_below HOc.out (below_new _ _)) (below_step HBc.out (below_new _ _)) HLP s _ 1 rfl (World.cell?_alloc_at _ _ _ _ rfl) ?_; intro g c' w5 hpv hb5)
                | (refine step_item rfl (.tmp 56) (.tmp 63) 29 rfl 34 i0 _ 2 32 Tryz.underlying29 hii hz0 hz1 hz2 rfl (Nat.succ_pos 1) (Nat.le_of_ble_eq_true rfl) (w0 := w3) rfl (HPF.out.below (below_step hb5 (below_new _ _))) (below_step HB4.out (below_step hb5 (below_new _ _))) _ (fitem (P ++ [s], 1)) rfl (fitem_cells _) (hpv.below (below_new _ _)) _ 1 rfl (cells_at _ _ _) HLI.out ?_; intro v6 w6 hP6 hb6))
              all_goals
                have HPN : Hid (Pl w6 w3.heap.size 34 2 v6 ((missF L i P (W.take (k + 1))).map fitem)) := by show Pl _ _ _ _ _ _; rw [hs2.out, List.map_append]; exact hP6
                have HBN := Lib.hid hb6
                clear hs2 hpv hb5 hP6 hb6 HOc HBc HLc yc y4 HY4 HCL
                go_wp2_with fail
                go_roundw
                case rel => exact ⟨k + 1, by omega, by go_num, HPN, HBN⟩
                case measure => simp [intOf]; omega
          · obtain rfl : k = W.length := by omega
            have HPN := HP.out
            rw [List.take_length] at HPN
            have HBN := Lib.hid (below_step HB3.out HB.out)
            have HPM := Lib.hid (HPN.base HB3.out.size)
            clear HP HB HPN
            go_wp2_with fail
            go_meet
            case rel => exact ⟨HPM.out, HBN.out⟩
    case rest =>
      clear HFW HHK HRk3 HRn HP3 HB3 HCl HKH HMW hn1 hn2 hk1 hk2
      obtain ⟨hP5, hb5⟩ := hcut
      have HP5 := Lib.hid hP5
      have HB5 := Lib.hid hb5
      have t5 := (hb5.cell (p := ⟨wb, 0, none⟩) (by show wb < _; rw [HSZ.out]; omega)).trans HT0.out
      have r5 := (hb5.cell (p := ⟨wb + 1, 0, none⟩) (by show wb + 1 < _; rw [HSZ.out]; omega)).trans HR0.out
      clear hP5 hb5
      have HML : Hid (((F0 ++ missF L i P W).map fitem).length + 1 ≤ 1000000000) := by
        have h1 := HF1L.out
        have h2 := missF_len L i P W
        show _ ≤ _
        rw [List.length_map, List.length_append]; omega
      have HLF2 : Hid (lineF L i r P = F0 ++ missF L i P W ++ F2) := HLF.out
      generalize missF L i P W = M at *
      clear HLF
      go_wp2_with fail
      refine (HMe.out _ HB5.out).mono ?_
      rintro e w6 ⟨rfl, hb6⟩
      have HB6 := Lib.hid (below_step HB5.out hb6)
      have HP6 := Lib.hid (HP5.out.below hb6)
      have HPv6 := Lib.hid (HPv.out.below HB6.out)
      clear HMe HP5 HB5 hb6 t5 r5
      cases mb with
      | false =>
        have HX : Hid ((lineF L i r P).map fitem = (F0 ++ M).map fitem) := by show _ = _; rw [HLF2.out, HMF.out]; simp
        clear HLF2 HMF
        go_wp2_with fail
        go_ret
        refine ⟨⟨_, rfl, ?_⟩, below_step HB.out HB6.out⟩
        rw [HX.out]
        exact HP6.out.base HB.out.size
      | true =>
        have HX : Hid ((lineF L i r P).map fitem = (F0 ++ M).map fitem ++ [fitem (P, 7)]) := by show _ = _; rw [HLF2.out, HMF.out, if_pos rfl, List.map_append (l₁ := F0 ++ M)]; rfl
        clear HLF2 HMF
        go_wp2_with (at_builtin; refine app_item rfl _ _ 29 rfl w0 w6 34 i0 _ 2 32 Tryz.underlying29 hii hz0 hz1 hz2 rfl (by decide) (by decide) HP6.out HB6.out rfl (.slice (some ⟨pb, 0, none⟩) P.length pc) (fitem (P, 7)) rfl (fitem_cells _) HPv6.out rfl HML.out ?_; intro v' w' hown' hb')
        go_ret
        refine ⟨⟨_, rfl, ?_⟩, below_step HB.out hb'⟩
        rw [HX.out]
        exact hown'.base HB.out.size
end Go.Proofs.YtlldjkhlhfnfeaaGreatDoor

namespace Sch
open Go Go.Lib Adr Mtr Tre
def known (P : List ByteArray) : Bool := (ruleOf P).isSome
/-- Is each path above a path's own a statement? -/
def aliveP (P : List ByteArray) : Bool := (List.range P.length).all fun q => decide (q = 0) || known (P.take q)
def faultAt (L : List Line) (i : Nat) : List Fault :=
  if aliveP (pa L i) then (match ruleOf (pa L i) with | none => [(pa L i, unknownOf (pa L i))] | some r => lineF L i r (pa L i)) else []
/-- All faults. -/
def checkB (L : List Line) : List Fault := (List.range L.length).flatMap (faultAt L)
def checkTo (L : List Line) (k : Nat) : List Fault := (List.range k).flatMap (faultAt L)
theorem alive_iff {P : List ByteArray} : aliveP P = true ↔ ∀ q, 1 ≤ q → q < P.length → known (P.take q) = true := by
  unfold aliveP
  rw [List.all_eq_true]
  constructor
  · intro h q h1 h2
    have := h q (List.mem_range.2 h2)
    simpa [show q ≠ 0 by omega] using this
  · intro h q hq
    rcases Nat.eq_zero_or_pos q with h0 | h0
    · simp [h0]
    · simp [h q h0 (List.mem_range.1 hq)]
theorem alive_one (a : ByteArray) : aliveP [a] = true := by
  rw [alive_iff]; intro q h1 h2; simp at h2; omega
section
variable {L : List Line} (hr : rightB L = true)
include hr
theorem alive_zero (h : 0 < L.length) : aliveP (pa L 0) = true := by
  rw [pa_zero (right_parts hr).2.1 h]; exact alive_one _
theorem alive_step {i : Nat} (h : i + 1 < L.length) (ha : aliveP (pa L i) = true) (hk : known (pa L i) = true) : aliveP (pa L (i + 1)) = true := by
  obtain ⟨-, hd, -⟩ := right_parts hr
  have h1 := dep_step hd h
  have h2 := pa_len hd (show i < L.length by omega)
  have h3 := dep_nn hd h
  have h4 := dep_nn hd (show i < L.length by omega)
  rw [alive_iff] at ha ⊢
  rw [pa_succ h]
  intro q hq1 hq2
  rw [List.length_append, List.length_take, List.length_singleton] at hq2
  have hq3 : q ≤ (depthAt L (i + 1)).toNat := by omega
  rw [List.take_append_of_le_length (by rw [List.length_take]; omega), List.take_take, Nat.min_eq_left hq3]
  by_cases hl : q < (pa L i).length
  · exact ha q hq1 hl
  · rw [List.take_of_length_le (by omega)]; exact hk
theorem alive_end {i : Nat} (hi : i < L.length) (h : endB L i < L.length) (ha : aliveP (pa L i) = true) : aliveP (pa L (endB L i)) = true := by
  obtain ⟨-, hd, -⟩ := right_parts hr
  have hb := endB_le L i hi
  have ho := end_out hi h
  obtain ⟨e, he⟩ : ∃ e, endB L i = e + 1 := ⟨endB L i - 1, by omega⟩
  have h2 := pa_len hd hi
  have h4 := dep_nn hd hi
  have h5 := dep_nn hd h
  have hkp := pa_keep hd (D := (depthAt L (endB L i)).toNat) (i := i) (k := e) (by omega) (by omega) (fun m m1 m2 => by
    have := end_in hi m1 (by omega : m < endB L i)
    omega)
  rw [alive_iff] at ha ⊢
  rw [he] at h hkp h5 ho ⊢
  have h6 := pa_len hd (show e < L.length by omega)
  have h7 := dep_step hd h
  rw [pa_succ h]
  intro q hq1 hq2
  rw [List.length_append, List.length_take, List.length_singleton] at hq2
  have hq3 : q ≤ (depthAt L (e + 1)).toNat := by omega
  rw [List.take_append_of_le_length (by rw [List.length_take]; omega), hkp, List.take_take, Nat.min_eq_left hq3]
  exact ha q hq1 (by omega)
theorem dead_in {i m : Nat} (hi : i < L.length) (h1 : i < m) (h2 : m < endB L i) (hk : known (pa L i) = false) : aliveP (pa L m) = false := by
  obtain ⟨-, hd, -⟩ := right_parts hr
  have hb := endB_le L i hi
  have hl := pa_len hd hi
  have hm := pa_len hd (show m < L.length by omega)
  have h4 := dep_nn hd hi
  have h5 := end_in hi h1 h2
  have hkp := pa_keep hd (D := (depthAt L i).toNat + 1) (i := i) (k := m) (by omega) (by omega) (fun x x1 x2 => by
    have := end_in hi x1 (by omega : x < endB L i)
    omega)
  rw [List.take_of_length_le (l := pa L i) (by omega)] at hkp
  cases ha : aliveP (pa L m) with
  | false => rfl
  | true =>
    rw [alive_iff] at ha
    have := ha ((depthAt L i).toNat + 1) (by omega) (by omega)
    rw [hkp, hk] at this
    cases this
omit hr in
theorem check_all : checkTo L L.length = checkB L := rfl
omit hr in
theorem check_zero : checkTo L 0 = [] := rfl
omit hr in
theorem check_known {i : Nat} {r : Rule} (ha : aliveP (pa L i) = true) (h : ruleOf (pa L i) = some r) : checkTo L (i + 1) = checkTo L i ++ lineF L i r (pa L i) := by
  unfold checkTo
  rw [List.range_succ, List.flatMap_append]
  congr 1
  unfold faultAt
  rw [List.flatMap_cons, List.flatMap_nil, List.append_nil, ha, h]; rfl
theorem check_skip {i : Nat} (hi : i < L.length) (ha : aliveP (pa L i) = true) (h : ruleOf (pa L i) = none) : checkTo L (endB L i) = checkTo L i ++ [(pa L i, unknownOf (pa L i))] := by
  have hb := endB_le L i hi
  have hk : known (pa L i) = false := by unfold known; rw [h]; rfl
  have key : ∀ n, i + 1 + n ≤ endB L i → checkTo L (i + 1 + n) = checkTo L i ++ [(pa L i, unknownOf (pa L i))] := by
    intro n
    induction n with
    | zero =>
      intro _
      unfold checkTo
      rw [Nat.add_zero, List.range_succ, List.flatMap_append]
      congr 1
      unfold faultAt
      rw [List.flatMap_cons, List.flatMap_nil, List.append_nil, ha, h]; rfl
    | succ n ih =>
      intro hn
      have e := ih (by omega)
      rw [← e]
      unfold checkTo
      rw [← Nat.add_assoc, List.range_succ, List.flatMap_append]
      have hdead := dead_in hr hi (show i < i + 1 + n by omega) (by omega) hk
      have : faultAt L (i + 1 + n) = [] := by unfold faultAt; rw [hdead]; rfl
      rw [List.flatMap_cons, this, List.flatMap_nil, List.append_nil, List.append_nil]
  have := key (endB L i - (i + 1)) (by omega)
  rwa [show i + 1 + (endB L i - (i + 1)) = endB L i by omega] at this
end

/-! By paths. -/
def memB {α : Type} [DecidableEq α] (x : α) (l : List α) : Bool := l.any fun y => decide (y = x)
theorem memB_iff {α : Type} [DecidableEq α] {x : α} {l : List α} : memB x l = true ↔ x ∈ l := by
  unfold memB
  rw [List.any_eq_true]
  simp
theorem memB_not {α : Type} [DecidableEq α] {x : α} {l : List α} : memB x l = false ↔ ¬ x ∈ l := by
  rw [← memB_iff]; simp
theorem flatMap_same {α β : Type} {f g : α → List β} : ∀ {l : List α}, (∀ x ∈ l, f x = g x) → l.flatMap f = l.flatMap g
  | [], _ => rfl
  | x :: l, h => by rw [List.flatMap_cons, List.flatMap_cons, h x (by simp), flatMap_same fun y hy => h y (by simp [hy])]
instance (a b : List ByteArray) : Decidable (pLt a b) := inferInstanceAs (Decidable (List.lt (key a) (key b)))
def thereS (S : List (List ByteArray)) (a b : ByteArray) : Bool := memB [a, b] S
def outS (S : List (List ByteArray)) (s vni : ByteArray) : Bool :=
  memB [wVnis, vni, wSubnet] S && match kw S [wVnis, vni, wSubnet] with
    | [] => false
    | u :: _ => decide (0 ≤ (pre u.data.toList).1) && !(isIn (pre u.data.toList).1 (pre u.data.toList).2 (max (ip s.data.toList) 0))
def twS (S : List (List ByteArray)) (P : List ByteArray) (s : ByteArray) : Bool := S.any fun Q => decide (pLt Q P) && matchB [wHosts, tName, wIp, s] Q
def meantS (S : List (List ByteArray)) (p P : List ByteArray) : Bool :=
  if glueB p = m1 then twS S P (P.getD 3 ⟨#[]⟩)
  else if glueB p = m2 ∨ glueB p = m3 then !(thereS S wHosts (P.getD 3 ⟨#[]⟩))
  else if glueB p = m4 then !(thereS S wVnis (P.getD 3 ⟨#[]⟩))
  else if glueB p = m5 then !(thereS S wVnis (P.getD 3 ⟨#[]⟩)) || outS S (P.getD 1 ⟨#[]⟩) (P.getD 3 ⟨#[]⟩)
  else false
def oneS (K : List ByteArray) (r : Rule) (P : List ByteArray) : List Fault :=
  if r.one && decide (K.length = 0) then [(P, 1)] else if r.one && decide (1 < K.length) then [(P, 4)] else []
def missS (K : List ByteArray) (P : List ByteArray) : List Fault := ((needsOf P).filter fun s => !(memB s K)).map fun s => (P ++ [s], 1)
def lineS (S : List (List ByteArray)) (r : Rule) (P : List ByteArray) : List Fault := oneS (kw S P) r P ++ missS (kw S P) P ++ (if meantS S r.path P then [(P, 7)] else [])
def faultsS (S : List (List ByteArray)) (P : List ByteArray) : List Fault :=
  if aliveP P then (match ruleOf P with | none => [(P, unknownOf P)] | some r => lineS S r P) else []
def checkS (S : List (List ByteArray)) : List Fault := S.flatMap (faultsS S)
section
variable {L : List Line} (hr : rightB L = true)
include hr
theorem there_paths (a b : ByteArray) : isThere L a b = thereS (paths L) a b := by
  unfold isThere thereS
  rw [Bool.eq_iff_iff, find_mem hr, memB_iff]
theorem kw_kids {i : Nat} (hi : i < L.length) : (kidsB L i).map (wordAt L) = kw (paths L) (pa L i) := kids_words hr hi
theorem out_paths (s vni : ByteArray) : outsideB L s vni = outS (paths L) s vni := by
  unfold outsideB outS
  cases hf : findB L [wVnis, vni, wSubnet] with
  | none =>
    have : ¬ [wVnis, vni, wSubnet] ∈ paths L := fun h => by
      have := (find_mem hr).2 h
      rw [hf] at this; cases this
    rw [memB_not.2 this]; rfl
  | some n =>
    have hm : [wVnis, vni, wSubnet] ∈ paths L := (find_mem hr).1 (by rw [hf]; rfl)
    obtain ⟨hn, hp⟩ := findB_some hr hf
    have hk := kids_words hr hn
    rw [hp] at hk
    rw [memB_iff.2 hm, ← hk]
    show (match kidsB L n with | [] => false | k :: _ => _) = _
    cases kidsB L n <;> rfl
omit hr in
theorem tw_from (s : ByteArray) : ∀ n k, twiceFrom L s k n = true ↔ ∃ j, k ≤ j ∧ j < k + n ∧ matchB [wHosts, tName, wIp, s] (pathB L j) = true := by
  intro n
  induction n with
  | zero => intro k; simp [twiceFrom]; intro j h1 h2; omega
  | succ n ih =>
    intro k
    unfold twiceFrom
    rw [Bool.or_eq_true, ih]
    constructor
    · rintro (h | ⟨j, h1, h2, h3⟩)
      · exact ⟨k, by omega, by omega, h⟩
      · exact ⟨j, by omega, by omega, h3⟩
    · rintro ⟨j, h1, h2, h3⟩
      by_cases hj : j = k
      · subst hj; exact .inl h3
      · exact .inr ⟨j, by omega, by omega, h3⟩
theorem up_iff {i k : Nat} (hi : i < L.length) (hk : k < L.length) : pLt (pa L i) (pa L k) ↔ i < k := by
  constructor
  · intro h
    rcases Nat.lt_trichotomy i k with h1 | h1 | h1
    · exact h1
    · subst h1; exact absurd h (pLt_irrefl _)
    · exact absurd (pLt_trans h (pa_up hr h1 hi)) (pLt_irrefl _)
  · intro h; exact pa_up hr h hk
omit hr in
theorem mem_paths {Q : List ByteArray} : Q ∈ paths L ↔ ∃ j, j < L.length ∧ pa L j = Q := by
  rw [paths_range, List.mem_map]
  simp [List.mem_range]
theorem tw_paths {i : Nat} (hi : i < L.length) (s : ByteArray) : twiceB L i s = twS (paths L) (pa L i) s := by
  unfold twiceB twS
  rw [Bool.eq_iff_iff, tw_from, List.any_eq_true]
  constructor
  · rintro ⟨j, -, h2, h3⟩
    have hj : j < L.length := by omega
    rw [path_pa (right_parts hr).2.1 hj] at h3
    refine ⟨pa L j, mem_paths.2 ⟨j, hj, rfl⟩, ?_⟩
    rw [h3, decide_eq_true (pa_up hr (by omega) hi)]; rfl
  · rintro ⟨Q, hQ, h⟩
    obtain ⟨j, hj, rfl⟩ := mem_paths.1 hQ
    rw [Bool.and_eq_true, decide_eq_true_eq] at h
    refine ⟨j, Nat.zero_le _, ?_, by rw [path_pa (right_parts hr).2.1 hj]; exact h.2⟩
    have := (up_iff hr hj hi).1 h.1
    omega
theorem meant_paths {i : Nat} (hi : i < L.length) (p : List ByteArray) : meantB L i p (pa L i) = meantS (paths L) p (pa L i) := by
  unfold meantB meantS
  rw [tw_paths hr hi, there_paths hr, there_paths hr, out_paths hr]
theorem line_paths {i : Nat} (hi : i < L.length) (r : Rule) : lineF L i r (pa L i) = lineS (paths L) r (pa L i) := by
  have hk := kids_words hr hi
  have hlen : (kw (paths L) (pa L i)).length = (kidsB L i).length := by rw [← hk, List.length_map]
  have hhas : ∀ s, kidHas L i s = memB s (kw (paths L) (pa L i)) := fun s => by
    unfold kidHas kidIs
    rw [← hk, Bool.eq_iff_iff, List.any_eq_true, memB_iff, List.mem_map]
    simp
  unfold lineF lineS oneF oneS missF missS meantF
  rw [meant_paths hr hi, hlen, show (fun s => !(kidHas L i s)) = fun s => !(memB s (kw (paths L) (pa L i))) from funext fun s => by rw [hhas]]
theorem check_paths : checkB L = checkS (paths L) := by
  unfold checkB checkS
  conv => rhs; arg 2; rw [paths_range]
  rw [List.flatMap_map]
  refine flatMap_same fun i hi => ?_
  have hi := List.mem_range.1 hi
  unfold faultAt faultsS
  cases ruleOf (pa L i) with
  | none => rfl
  | some r =>
    show (if aliveP (pa L i) = true then lineF L i r (pa L i) else []) = if aliveP (pa L i) = true then lineS (paths L) r (pa L i) else []
    rw [line_paths hr hi]
end
end Sch
