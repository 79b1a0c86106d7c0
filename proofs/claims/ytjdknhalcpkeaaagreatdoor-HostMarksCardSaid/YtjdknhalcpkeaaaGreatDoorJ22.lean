/- A walk: schema.line. A walk: schema.Check. -/
import Derived.Deep.RegionLaw
import Derived.Deep.CutBlock
import Derived.Deep.DeepCutAuto
import Derived.Test.YtjdknhalcpkeaaaGreatDoorJ20
import Derived.Test.YtjdknhalcpkeaaaGreatDoorJ21
namespace Go.Proofs.YtjdknhalcpkeaaaGreatDoor
open Go Go.RowKit Go.Sort Sch Adr Mtr Tre
theorem one_three : ∀ r ∈ rulesB, r.one = true → r.path.length = 3 := by decide +kernel
theorem one_needs {L : List Line} {i : Nat} {r : Rule} {P : List ByteArray} (hr : r ∈ rulesB) (hl : r.path.length = P.length) : needsOf P = [] ∨ oneF L i r P = [] := by
 cases h : r.one with
 | false => exact .inr (oneF_no h)
 | true => exact .inl (needs_other (by rw [← hl, one_three r hr h]; decide))
set_option maxHeartbeats 8000000 in
set_option maxRecDepth 100000 in
theorem line_any (A : Option Addr) (cap : Nat) (L : List Line) (i : Nat) (Ar : Option Addr) (cr : Nat) (r : Rule) (b c pb pc : Nat) (P : List ByteArray) (w : World) (hE : Env w) (hR : Rd w 3 A L.length (lines L)) (hcap : L.length ≤ cap) (hc : cap ≤ maxLen) (hr : rightB L = true) (hi : i < L.length)
 (hRu : Rules w Ar) (hru : r ∈ rulesB) (hrd : Rd w 1 (some ⟨b, 0, none⟩) r.path.length (sv r.path)) (hrc : r.path.length ≤ c) (hPv : Pv w (.slice (some ⟨pb, 0, none⟩) P.length pc) P) (hPl : r.path.length = P.length) (hpl : P.length ≤ 100) (hps : Shw P) :
 Calls Tryz.prog 60 #[.slice A L.length cap, .int .i64 i, .slice Ar 34 cr, .agg #[.slice (some ⟨b, 0, none⟩) r.path.length c, .bool r.one, .bool r.needed], .slice (some ⟨pb, 0, none⟩) P.length pc] w (LineEnd (lineF L i r P) w) := by
 obtain ⟨i0, hii, hz0, hz1, hz2⟩ := info_parts info_fault
 obtain ⟨s0, hsi, sz0, sz1, sz2⟩ := info_parts info_string
 obtain ⟨wb, hwb⟩ : ∃ wb, w.heap.size = wb := ⟨_, rfl⟩
 obtain ⟨w0, hw0⟩ : ∃ w0, (w.alloc (.cells #[.slice A L.length cap] 22)).alloc (.cells #[.slice (some ⟨b, 0, none⟩) r.path.length c, .bool r.one, .bool r.needed] 94) = w0 := ⟨_, rfl⟩
 have hb0 : Below w.heap.size w w0 := by rw [← hw0]; exact ((Below.refl _ _).alloc (Nat.le_refl _) _).alloc (by simp) _
 have hsz : w0.heap.size = wb + 2 := by rw [← hw0, ← hwb]; simp
 have t0 : w0.cell? ⟨wb, 0, none⟩ = some (.slice A L.length cap) := by
  rw [← hw0, ← hwb, World.cell?_alloc_lt _ _ _ (by simp), World.cell?_alloc_at _ _ _ _ rfl]; rfl
 have r0 : w0.cell? ⟨wb + 1, 0, none⟩ = some (.slice (some ⟨b, 0, none⟩) r.path.length c) := by rw [← hw0, World.cell?_alloc_at _ _ _ _ (by simp [hwb])]; rfl
 have r1 : w0.cell? ⟨wb + 1, 1, none⟩ = some (.bool r.one) := by rw [← hw0, World.cell?_alloc_at _ _ _ _ (by simp [hwb])]; rfl
 have h200 := right_len hr
 have hE0 := hE.below hb0
 have hR0 := hR.below hb0
 have hRu0 := hRu.below hb0
 have hrd0 := hrd.below hb0
 have hPv0 := hPv.below hb0
 have HKi := Lib.hid (kids_line A cap L i w0 hR0 hcap hc hr hi)
 have HNe := Lib.hid (fun W (hb : Below w0.heap.size w0 W) => needs_any Ar cr (some ⟨pb, 0, none⟩) pc P W (hE0.below hb) (hRu0.below hb) (hPv0.rd.1.below hb) (by omega) hps)
 have HMe := Lib.hid (fun W (hb : Below w0.heap.size w0 W) => meant_any A cap L i b c r (some ⟨pb, 0, none⟩) pc P W (hE0.below hb) (hR0.below hb) hcap hc hr (by omega) hru (hrd0.below hb) hrc (hPv0.rd.1.below hb) hPl (by omega) hps)
 have HCl := Lib.hid (fun W (hb : Below w0.heap.size w0 W) => Tryz.slices_Clone_string pb 0 P.length pc P W (Nat.le_refl _) (by omega) (fun j hj => by
  have := (hPv0.rd.1.below hb).2 (by omega)
  obtain ⟨ad, e, -, hx⟩ := this
  injection e with e
  subst e
  have h2 := hx j _ (sv_get hj)
  rw [add_plain] at h2
  rw [h2, List.getD_eq_getElem?_getD, List.getElem?_eq_getElem hj]; rfl))
 have HHK := Lib.hid (fun W (hb : Below w0.heap.size w0 W) pw s (hw : W.cell? ⟨pw, 0, none⟩ = some (.string s)) Ak ck (hRk : Rd W 1 Ak (kidsB L i).length (iv (kidsB L i))) (hkl : (kidsB L i).length ≤ 100000) =>
  hasKid_any A cap L wb pw s Ak ck (kidsB L i) W (hR0.below hb) hc hcap (fun k hk => by have := mem_kidsTo.1 hk; have h2 := endB_le L i hi; omega) ((hb.cell (p := ⟨wb, 0, none⟩) (by show wb < _; omega)).trans t0) hw hRk hkl)
 have HPv : Hid (Pv w0 (.slice (some ⟨pb, 0, none⟩) P.length pc) P) := hPv0
 have hkl : (kidsB L i).length ≤ 200 := by
  have h1 := kidsTo_len L (depthAt L i + 1) (i + 1) (endB L i)
  have h2 := endB_le L i hi
  unfold kidsB; omega
 have HF1 := Lib.hid (oneF_cases L i r P)
 have HLF : Hid (lineF L i r P = oneF L i r P ++ missF L i P (needsOf P) ++ meantF L i r P) := rfl
 have HMF : Hid (meantF L i r P = if meantB L i r.path P then [(P, 7)] else []) := rfl
 have HKH : Hid (∀ s, kidHas L i s = (kidsB L i).any (kidIs L s)) := fun s => rfl
 have HFW := Lib.hid (one_needs (L := L) (i := i) hru hPl)
 have HNL : Hid ((needsOf P).length ≤ 34) := by have := needsTo_len P 34; rw [needsTo_all] at this; exact this
 have HB := Lib.hid hb0
 have HSZ := Lib.hid hsz
 have HWB := Lib.hid hwb
 have HT0 := Lib.hid t0
 have HR0 := Lib.hid r0
 have HR1 := Lib.hid r1
 clear hE hR hRu hru hrd hrc hPv hPl hps hb0 hsz t0 r0 r1 hE0 hR0 hRu0 hrd0 hPv0 hr hi
 have HF1L : Hid ((oneF L i r P).length ≤ 1) := by
  rcases HF1.out with ⟨-, h⟩ | ⟨-, -, h⟩ | ⟨-, -, h⟩ | ⟨-, -, h⟩ <;> (show _ ≤ _; rw [h]; simp)
 generalize oneF L i r P = F0 at *
 generalize meantF L i r P = F2 at *
 generalize meantB L i r.path P = mb at *
 generalize needsOf P = W at *
 unfold KidsEnd at HKi
 generalize kidsB L i = K at *
 obtain ⟨ro, hro⟩ : ∃ ro, r.one = ro := ⟨_, rfl⟩
 rw [hro] at hw0 HR1 HF1 ⊢
 clear hro
 have t0 := HT0.out
 go_enter Tryz.func60, Tryz.ntmps60
 go_wp2_with fail
 clear t0
 refine HKi.out.mono ?_
 rintro e w1 ⟨Ak, ck, rfl, hk1, hk2, hrk, hb1⟩
 have r1 := (hb1.cell (p := ⟨wb + 1, 1, none⟩) (by show wb + 1 < _; rw [HSZ.out]; omega)).trans HR1.out
 have HPv1 := Lib.hid (HPv.out.below hb1)
 have HB1 := Lib.hid hb1
 have HRk := Lib.hid hrk
 clear HKi HR1 hb1 hrk
 go_upto_block 0 with fail
 go_cut [11, 12] (fun v y wx => Pl wx w0.heap.size 99 2 v (F0.map fitem) ∧ Below w0.heap.size w0 wx ∧ Below w1.heap.size w1 wx ∧ y = .slice Ak K.length ck)
 case first =>
  rcases HF1.out with ⟨rfl, h2⟩ | ⟨rfl, hk, h2⟩ | ⟨rfl, hk, h2⟩ | ⟨rfl, hk, h2⟩
  · have HH := Lib.hid h2
    clear h2
    go_wp2_with fail
    go_meet
    case rel => rw [HH.out]; exact ⟨Pl.nil _ _ _ _, HB1.out, Below.refl _ _, rfl⟩
  · have HH := Lib.hid h2
    clear h2
    go_wp2_with (at_builtin; refine app_item rfl _ _ 55 rfl w1 w1 99 i0 _ 2 32 Tryz.underlying55 hii hz0 hz1 hz2 rfl (by decide) (by decide) (Pl.nil _ _ _ _) (Below.refl _ _) rfl (.slice (some ⟨pb, 0, none⟩) P.length pc) (fitem (P, 1)) rfl (fitem_cells _) HPv1.out rfl (by simp) ?_; intro v' w' hown' hb')
    go_meet
    case rel => rw [HH.out]; exact ⟨hown'.base HB1.out.size, HB1.out.trans (hb'.mono HB1.out.size), hb', by rw [hk]⟩
  · have HH := Lib.hid h2
    clear h2
    go_wp2_with fail
    go_meet
    case rel => rw [HH.out]; exact ⟨Pl.nil _ _ _ _, HB1.out, Below.refl _ _, by rw [hk]⟩
  · have HH := Lib.hid h2
    have hk0 : ¬ K.length = 0 := by omega
    have hki : (1 : Int) < (K.length : Int) := by omega
    clear h2
    go_wp2_with (at_builtin; refine app_item rfl _ _ 55 rfl w1 w1 99 i0 _ 2 32 Tryz.underlying55 hii hz0 hz1 hz2 rfl (by decide) (by decide) (Pl.nil _ _ _ _) (Below.refl _ _) rfl (.slice (some ⟨pb, 0, none⟩) P.length pc) (fitem (P, 4)) rfl (fitem_cells _) HPv1.out rfl (by simp) ?_; intro v' w' hown' hb')
    go_meet
    case rel => rw [HH.out]; exact ⟨hown'.base HB1.out.size, HB1.out.trans (hb'.mono HB1.out.size), hb', rfl⟩
 case rest =>
  clear HF1 r1 HPv1
  obtain ⟨hP2, hb2, hb12, rfl⟩ := hcut
  have HP2 := Lib.hid hP2
  have HB2 := Lib.hid hb2
  have HRk2 := Lib.hid (HRk.out.below hb12)
  clear hP2 hb2 hb12 HRk HB1
  go_wp2_with fail
  refine (HNe.out wc HB2.out).mono ?_
  rintro e w3 ⟨An, cn, rfl, hn1, hn2, hrn, -, hb3⟩
  have HB3 := Lib.hid (below_step HB2.out hb3)
  have HP3 := Lib.hid (HP2.out.below hb3)
  have HRk3 := Lib.hid (HRk2.out.below hb3)
  have HRn := Lib.hid hrn
  have hwl := HNL.out
  clear HNe HP2 HB2 HRk2 hb3 hrn
  have HMW : Hid ((missF L i P W).length ≤ W.length) := missF_len L i P W
  go_upto_block 1 with fail
  go_cut [11] (fun v wx => Pl wx w0.heap.size 99 2 v ((F0 ++ missF L i P W).map fitem) ∧ Below w0.heap.size w0 wx)
  case first =>
   rcases HFW.out with rfl | rfl
   · have HX : Hid (((F0 ++ missF L i P []).map fitem) = F0.map fitem) := by show _ = _; simp [missF]
     clear HFW HHK HRk3 HRn
     go_wp2_with fail
     go_loopw [11, 48] (fun v vi wr => vi = .int .i64 0 ∧ Hid (Pl wr w0.heap.size 99 2 v (F0.map fitem)) ∧ Hid (Below w0.heap.size w0 wr)) (fun _ _ _ => 0)
     case atStart => exact ⟨rfl, HP3, HB3⟩
     case round =>
      obtain ⟨rfl, HP, HB⟩ := hrel
      go_wp2_with fail
      go_meet
      case rel => rw [HX.out]; exact ⟨HP.out, HB.out⟩
   · obtain rfl : u11 = .slice none 0 0 := HP3.out.2.1 rfl
     clear HFW HP3
     go_wp2_with fail
     go_loopw [11, 48] (fun v vi wr => ∃ k : Nat, k ≤ W.length ∧ vi = .int .i64 k ∧ Hid (Pl wr w3.heap.size 99 2 v ((missF L i P (W.take k)).map fitem)) ∧ Hid (Below w3.heap.size w3 wr)) (fun _ vi _ => W.length - (intOf vi).toNat)
     case atStart => exact ⟨0, Nat.zero_le _, rfl, by show Pl _ _ _ _ _ _; simpa [missF] using Pl.nil _ _ _ _, Below.refl _ _⟩
     case round =>
      obtain ⟨k, hk, rfl, HP, HB⟩ := hrel
      by_cases hlt : k < W.length
      · obtain ⟨B, O, rfl, hab, hadd, x0⟩ := (HRn.out.below HB.out).strAt hlt
        have hst : Hid (missF L i P (W.take (k + 1)) = missF L i P (W.take k) ++ (if K.any (kidIs L W[k]) then [] else [(P ++ [W[k]], 1)])) := by
         show _ = _
         rw [List.take_succ_eq_append_getElem hlt, missF_snoc, HKH.out]
        have hlen : Hid ((missF L i P (W.take k)).length ≤ k) := by
         have := missF_len L i P (W.take k)
         rw [List.length_take] at this
         show _ ≤ _; omega
        generalize W[k] = s at *
        generalize missF L i P (W.take k) = M at *
        obtain ⟨q, hq⟩ : ∃ q, wr.heap.size = q := ⟨_, rfl⟩
        obtain ⟨wo, hwo⟩ : ∃ wo, wr.alloc (.cells #[.string s] 9) = wo := ⟨_, rfl⟩
        have hbo : Below wr.heap.size wr wo := by rw [← hwo]; exact (Below.refl _ _).alloc (Nat.le_refl _) _
        have y0 : wo.cell? ⟨q, 0, none⟩ = some (.string s) := by rw [← hwo, World.cell?_alloc_at _ _ _ _ hq.symm]; rfl
        have HBo := Lib.hid (below_step HB.out hbo)
        have HPo := Lib.hid (HP.out.below hbo)
        have HY := Lib.hid y0
        have HC := Lib.hid (HHK.out wo (below_step HB3.out HBo.out) q s y0 Ak ck (HRk3.out.below HBo.out) (by omega))
        have hql : q < wo.heap.size := by rw [← hwo, ← hq]; simp
        generalize K.any (kidIs L s) = kb at *
        clear hbo y0 HP HB
        cases kb with
        | true =>
          have hs2 : Hid (missF L i P (W.take (k + 1)) = M) := by show _ = _; rw [hst.out]; simp
          clear hst
          go_wp2_with fail
          refine HC.out.mono ?_
          rintro e w4 ⟨rfl, hb4⟩
          have HB4 := Lib.hid (below_step HBo.out hb4)
          have HP4 := Lib.hid (HPo.out.below hb4)
          clear HC hb4 HBo HPo hwo x0
          go_wp2_with fail
          go_roundw
          case rel => exact ⟨k + 1, by omega, by go_num, by show Pl _ _ _ _ _ _; rw [hs2.out]; exact HP4.out, HB4⟩
          case measure => simp [intOf]; omega
        | false =>
          have hs2 : Hid (missF L i P (W.take (k + 1)) = M ++ [(P ++ [s], 1)]) := by show _ = _; rw [hst.out]; simp
          clear hst
          go_wp2_with fail
          refine HC.out.mono ?_
          rintro e w4 ⟨rfl, hb4⟩
          have HB4 := Lib.hid (below_step HBo.out hb4)
          have HP4 := Lib.hid (HPo.out.below hb4)
          have HY4 := Lib.hid ((hb4.cell (p := ⟨q, 0, none⟩) hql).trans HY.out)
          have y4 := HY4.out
          clear HC hb4 HBo HPo hwo x0 HY hql
          have HB04 := Lib.hid (below_step HB3.out HB4.out)
          have HCL : Hid (∀ W, Below w4.heap.size w4 W → Calls Tryz.prog 101 #[.slice (some ⟨pb, 0, none⟩) P.length pc] W fun e w' => ∃ v', e = .returned v' ∧ w'.ownsRow w4.heap.size 9 1 v' P.length (sv P) ∧ Below w4.heap.size w4 w' ∧ Below W.heap.size W w') := fun W hb =>
           (HCl.out W (below_step HB04.out hb)).mono fun e w' ⟨v', h1, h2, _, h4⟩ => ⟨v', h1, by rw [List.take_length] at h2; exact own_base h2 hb.size, below_step hb h4, h4⟩
          have HPF := HP4
          have HLP : P.length ≤ 1000000 := by omega
          have HLI : Hid ((M.map fitem).length + 1 ≤ 1000000000) := by
           have h2 := hlen.out
           show _ ≤ _
           rw [List.length_map]; omega
          have HQ4 := Lib.hid (Lib.lt_of_cell y4)
          clear HCl HNL HLF HKH
          go_upto_region 11 with fail
          go_region_law (first
           | (go_simp; go_at_call 101; refine Calls.mono (HCL.out _ (Below.refl _ _).drew) ?_; rintro e wcl ⟨vc, rfl, hoc, hbc, hbw⟩; have HOc := Lib.hid hoc; have HBc := Lib.hid hbc; have HLc := Lib.hid hbw; have yc := (hbc.cell (p := ⟨q, 0, none⟩) HQ4.out).trans y4; clear hoc hbc hbw)
           | (go_simp; go_at_call 101; refine Calls.mono (HCL.out _ ((Below.refl _ _).alloc (Nat.le_refl _) _).drew) ?_; rintro e wcl ⟨vc, rfl, hoc, hbc, hbw⟩; have HOc := Lib.hid hoc; have HBc := Lib.hid hbc; have HLc := Lib.hid hbw; have yc := (hbc.cell (p := ⟨q, 0, none⟩) HQ4.out).trans y4; clear hoc hbc hbw)
           | (refine step_push rfl (.tmp 58) (.tmp 60) 42 rfl 9 s0 _ Tryz.underlying42 hsi sz0 sz1 sz2 rfl (w0 := w4) rfl HOc.out HBc.out HLP s _ 1 rfl ((HLc.out.cell (p := ⟨w4.heap.size, 0, none⟩) (by simp)).trans (by simp)) ?_; intro g c' w5 hpv hb5)
           | (refine step_push rfl (.tmp 58) (.tmp 60) 42 rfl 9 s0 _ Tryz.underlying42 hsi sz0 sz1 sz2 rfl (w0 := w4) rfl (own_below HOc.out (below_new _ _)) (below_step HBc.out (below_new _ _)) HLP s _ 1 rfl (World.cell?_alloc_at _ _ _ _ rfl) ?_; intro g c' w5 hpv hb5)
           | (refine step_item rfl (.tmp 56) (.tmp 63) 55 rfl 99 i0 _ 2 32 Tryz.underlying55 hii hz0 hz1 hz2 rfl (Nat.succ_pos 1) (Nat.le_of_ble_eq_true rfl) (w0 := w3) rfl (HPF.out.below (below_step hb5 (below_new _ _))) (below_step HB4.out (below_step hb5 (below_new _ _))) _ (fitem (P ++ [s], 1)) rfl (fitem_cells _) (hpv.below (below_new _ _)) _ 1 rfl (cells_at _ _ _) HLI.out ?_; intro v6 w6 hP6 hb6))
          all_goals
           have HPN : Hid (Pl w6 w3.heap.size 99 2 v6 ((missF L i P (W.take (k + 1))).map fitem)) := by show Pl _ _ _ _ _ _; rw [hs2.out, List.map_append]; exact hP6
           have HBN := Lib.hid hb6
           clear hs2 hpv hb5 hP6 hb6 HOc HBc HLc yc y4 HY4 HCL
           go_wp2_with fail
           go_roundw
           case rel => exact ⟨k + 1, by omega, by go_num, HPN, HBN⟩
           case measure => simp [intOf]; omega
      · obtain rfl : k = W.length := by omega
        have HPN := HP.out
        rw [List.take_length] at HPN
        have HBN := Lib.hid (below_step HB3.out HB.out)
        have HPM := Lib.hid (HPN.base HB3.out.size)
        clear HP HB HPN
        go_wp2_with fail
        go_meet
        case rel => exact ⟨HPM.out, HBN.out⟩
  case rest =>
   clear HFW HHK HRk3 HRn HP3 HB3 HCl HKH HMW hn1 hn2 hk1 hk2
   obtain ⟨hP5, hb5⟩ := hcut
   have HP5 := Lib.hid hP5
   have HB5 := Lib.hid hb5
   have t5 := (hb5.cell (p := ⟨wb, 0, none⟩) (by show wb < _; rw [HSZ.out]; omega)).trans HT0.out
   have r5 := (hb5.cell (p := ⟨wb + 1, 0, none⟩) (by show wb + 1 < _; rw [HSZ.out]; omega)).trans HR0.out
   clear hP5 hb5
   have HML : Hid (((F0 ++ missF L i P W).map fitem).length + 1 ≤ 1000000000) := by
    have h1 := HF1L.out
    have h2 := missF_len L i P W
    show _ ≤ _
    rw [List.length_map, List.length_append]; omega
   have HLF2 : Hid (lineF L i r P = F0 ++ missF L i P W ++ F2) := HLF.out
   generalize missF L i P W = M at *
   clear HLF
   go_wp2_with fail
   refine (HMe.out _ HB5.out).mono ?_
   rintro e w6 ⟨rfl, hb6⟩
   have HB6 := Lib.hid (below_step HB5.out hb6)
   have HP6 := Lib.hid (HP5.out.below hb6)
   have HPv6 := Lib.hid (HPv.out.below HB6.out)
   clear HMe HP5 HB5 hb6 t5 r5
   cases mb with
   | false =>
     have HX : Hid ((lineF L i r P).map fitem = (F0 ++ M).map fitem) := by show _ = _; rw [HLF2.out, HMF.out]; simp
     clear HLF2 HMF
     go_wp2_with fail
     go_ret
     refine ⟨⟨_, rfl, ?_⟩, below_step HB.out HB6.out⟩
     rw [HX.out]
     exact HP6.out.base HB.out.size
   | true =>
     have HX : Hid ((lineF L i r P).map fitem = (F0 ++ M).map fitem ++ [fitem (P, 7)]) := by show _ = _; rw [HLF2.out, HMF.out, if_pos rfl, List.map_append (l₁ := F0 ++ M)]; rfl
     clear HLF2 HMF
     go_wp2_with (at_builtin; refine app_item rfl _ _ 55 rfl w0 w6 99 i0 _ 2 32 Tryz.underlying55 hii hz0 hz1 hz2 rfl (by decide) (by decide) HP6.out HB6.out rfl (.slice (some ⟨pb, 0, none⟩) P.length pc) (fitem (P, 7)) rfl (fitem_cells _) HPv6.out rfl HML.out ?_; intro v' w' hown' hb')
     go_ret
     refine ⟨⟨_, rfl, ?_⟩, below_step HB.out hb'⟩
     rw [HX.out]
     exact hown'.base HB.out.size
end Go.Proofs.YtjdknhalcpkeaaaGreatDoor
namespace Go.Proofs.YtjdknhalcpkeaaaGreatDoor
open Go Go.RowKit Go.Sort Sch Adr Mtr Tre
theorem path_pv {w : World} {A : Option Addr} {P : List ByteArray} {c : Nat} (h : Rd w 1 A P.length (sv P)) (hz : Zd A) (hp : 0 < P.length) (h1 : P.length ≤ c) (h2 : c ≤ maxLen) : ∃ b, A = some ⟨b, 0, none⟩ ∧ Pv w (.slice (some ⟨b, 0, none⟩) P.length c) P := by
 obtain ⟨ad, e, -⟩ := h.2 hp
 obtain ⟨b, e2⟩ := hz ad e
 subst e; subst e2
 exact ⟨b, rfl, b, c, rfl, h1, h2, hp, h⟩
theorem end_at (A : Option Addr) (cap : Nat) (L : List Line) (k : Nat) (w : World) (hR : Rd w 3 A L.length (lines L)) (hcap : L.length ≤ cap) (hc : cap ≤ maxLen) (hr : rightB L = true) (hk : k < L.length) :
 Calls Tryz.prog 59 #[.slice A L.length cap, .int .i64 k] w fun e w' => e = .returned (.int .i64 (endB L k : Nat)) ∧ Below w.heap.size w w' := by
 have := end_lines A cap L k w hR hcap hc
 rw [thereB_lt hr hk, if_pos rfl, Int.toNat_natCast] at this
 exact this
theorem check_no (A : Option Addr) (cap : Nat) (L : List Line) (w : World) (hR : Rd w 3 A L.length (lines L)) (hcap : L.length ≤ cap) (hc : cap ≤ maxLen) (hr : rightB L = false) :
 Calls Tryz.prog 26 #[.slice A L.length cap] w fun e w' => e = .returned (.tuple #[.slice none 0 0, .int .i64 1]) ∧ Below w.heap.size w w' := by
 have HC := right_lines A cap L w hR hcap hc
 rw [hr] at HC
 have HC2 := Lib.hid HC
 clear HC hR
 go_enter Tryz.func26, Tryz.ntmps26
 go_wp2_with fail
 refine HC2.out.mono ?_
 rintro e w2 ⟨rfl, hb2⟩
 go_wp2_with fail
 refine bodyPost_ret (results_tmp2 rfl _ _ _) rfl ?_
 exact ⟨rfl, hb2⟩
theorem pa_short {L : List Line} (hr : rightB L = true) {k : Nat} (hk : k < L.length) : (pa L k).length ≤ 16 ∧ 0 < (pa L k).length ∧ Shw (pa L k) := by
 have hd := (right_parts hr).2.1
 have h1 := pa_len hd hk
 have h2 := dep_nn hd hk
 exact ⟨by omega, by omega, by rw [← path_pa hd hk]; exact path_short hr hk⟩
theorem rule_len {P : List ByteArray} {r : Rule} (h : ruleOf P = some r) : r.path.length = P.length := match_len (by have := List.find?_some h; exact this)
theorem needs_le (P : List ByteArray) : (needsOf P).length ≤ 34 := by have := needsTo_len P 34; rwa [needsTo_all] at this
theorem lineF_len (L : List Line) (i : Nat) (r : Rule) (P : List ByteArray) : (lineF L i r P).length ≤ 36 := by
 have h1 := missF_len L i P (needsOf P)
 have h2 := needs_le P
 have h3 : (oneF L i r P).length ≤ 1 := by
  rcases oneF_cases L i r P with ⟨-, h⟩ | ⟨-, -, h⟩ | ⟨-, -, h⟩ | ⟨-, -, h⟩ <;> rw [h] <;> simp
 have h4 : (meantF L i r P).length ≤ 1 := by unfold meantF; split <;> simp
 unfold lineF
 rw [List.length_append, List.length_append]; omega
theorem faultAt_len (L : List Line) (i : Nat) : (faultAt L i).length ≤ 36 := by
 unfold faultAt
 split
 · split
   · simp
   · exact lineF_len _ _ _ _
 · simp
theorem check_len (L : List Line) (k : Nat) : (checkTo L k).length ≤ 36 * k := by
 induction k with
 | zero => simp [check_zero]
 | succ k ih =>
   have := faultAt_len L k
   unfold checkTo at ih ⊢
   rw [List.range_succ, List.flatMap_append, List.length_append, List.flatMap_cons, List.flatMap_nil, List.append_nil]; omega
theorem items_cells (F : List Fault) : ∀ y ∈ F.map fitem, ∀ u ∈ y.2, u.oneCell' = true := by
 intro y hy
 obtain ⟨f, -, rfl⟩ := List.mem_map.1 hy
 exact fitem_cells f
set_option maxHeartbeats 8000000 in
set_option maxRecDepth 100000 in
theorem check_yes (A : Option Addr) (cap : Nat) (L : List Line) (w : World) (hE : Env w) (hR : Rd w 3 A L.length (lines L)) (hcap : L.length ≤ cap) (hc : cap ≤ maxLen) (hr : rightB L = true) :
 Calls Tryz.prog 26 #[.slice A L.length cap] w fun e w' => (∃ v, e = .returned (.tuple #[v, .int .i64 0]) ∧ Pl w' w.heap.size 99 2 v ((checkB L).map fitem)) ∧ Below w.heap.size w w' := by
 obtain ⟨i0, hii, hz0, hz1, hz2⟩ := info_parts info_fault
 have HRg := right_lines A cap L w hR hcap hc
 rw [hr] at HRg
 have h200 := right_len hr
 have HRi := Lib.hid HRg
 have HRu := Lib.hid (fun W (hb : Below w.heap.size w W) => rules_any W (hE.below hb))
 have HPa := Lib.hid (fun (k : Nat) (hk : k < L.length) W (hb : Below w.heap.size w W) => path_lines A cap L k W (hR.below hb) hcap hc hr hk)
 have HEn := Lib.hid (fun (k : Nat) (hk : k < L.length) W (hb : Below w.heap.size w W) => end_at A cap L k W (hR.below hb) hcap hc hr hk)
 have HLi := Lib.hid (fun (k : Nat) (hk : k < L.length) Ar cr r b c pb pc P W (hb : Below w.heap.size w W) => line_any A cap L k Ar cr r b c pb pc P W (hE.below hb) (hR.below hb) hcap hc hr hk)
 have HFi := Lib.hid (fun Ar cr A2 c2 P W (hb : Below w.heap.size w W) => find_any Ar cr A2 c2 P W (hE.below hb))
 have HUn := Lib.hid (fun Ar cr A2 c2 P W (hb : Below w.heap.size w W) => unknown_any Ar cr A2 c2 P W (hE.below hb))
 have HPP : Hid (∀ k, k < L.length → pathB L k = pa L k) := fun k hk => path_pa (right_parts hr).2.1 hk
 have HSh := Lib.hid (fun (k : Nat) (hk : k < L.length) => pa_short hr hk)
 have HA0 : Hid (0 < L.length → aliveP (pa L 0) = true) := fun h => alive_zero hr h
 have HKn : Hid (∀ k, k < L.length → aliveP (pa L k) = true → ∀ r, ruleOf (pa L k) = some r → checkTo L (k + 1) = checkTo L k ++ lineF L k r (pa L k) ∧ (k + 1 < L.length → aliveP (pa L (k + 1)) = true)) := fun k hk ha r h =>
  ⟨check_known ha h, fun h2 => alive_step hr h2 ha (by unfold known; rw [h]; rfl)⟩
 have HSk : Hid (∀ k, k < L.length → aliveP (pa L k) = true → ruleOf (pa L k) = none → checkTo L (endB L k) = checkTo L k ++ [(pa L k, unknownOf (pa L k))] ∧ (endB L k < L.length → aliveP (pa L (endB L k)) = true)) := fun k hk ha h =>
  ⟨check_skip hr hk ha h, fun h2 => alive_end hr hk h2 ha⟩
 have HEb := Lib.hid (fun (k : Nat) (hk : k < L.length) => endB_le L k hk)
 have HCL := Lib.hid (check_len L)
 have HLL := Lib.hid (lineF_len L)
 have HAll := Lib.hid (check_all (L := L))
 clear hE hR HRg hr
 go_enter Tryz.func26, Tryz.ntmps26
 go_wp2_with fail
 refine HRi.out.mono ?_
 rintro e w1 ⟨rfl, hb1⟩
 have HB1 := Lib.hid hb1
 clear HRi hb1
 go_wp2_with fail
 refine (HRu.out w1 HB1.out).mono ?_
 rintro e w2 ⟨⟨v2, rfl, hv2⟩, hb2⟩
 have HB2 := Lib.hid (below_step HB1.out hb2)
 obtain ⟨Ar, cr, rfl, hcr1, hcr2, hRu⟩ := rules_read hv2
 have HRl := Lib.hid hRu
 clear HRu hv2 hRu hb2 HB1
 go_wp2
 go_loopw [5, 6] (fun v vi wr => ∃ k : Nat, k ≤ L.length ∧ vi = .int .i64 k ∧ Hid (k < L.length → aliveP (pa L k) = true) ∧ Hid (Pl wr w2.heap.size 99 2 v ((checkTo L k).map fitem)) ∧ Hid (Below w2.heap.size w2 wr)) (fun _ vi _ => L.length - (intOf vi).toNat)
 case atStart => exact ⟨0, Nat.zero_le _, rfl, HA0, Pl.nil _ _ _ _, Below.refl _ _⟩
 case round =>
  clear HA0
  obtain ⟨k, hk, rfl, HA, HP, HB⟩ := hrel
  by_cases hlt : k < L.length
  · have ha := HA.out hlt
    have HBw := Lib.hid (below_step HB2.out HB.out)
    have HPk := HPa.out k hlt wr HBw.out
    have hks := HKn.out k hlt ha
    have hss := HSk.out k hlt ha
    have hsh := HSh.out k hlt
    have HEk := Lib.hid (HEn.out k hlt)
    have HLk := Lib.hid (HLi.out k hlt)
    have HEB := HEb.out k hlt
    have hcl := HCL.out k
    have hll := fun r => HLL.out k r (pa L k)
    rw [HPP.out k hlt] at HPk
    generalize pa L k = P at *
    have HKS := Lib.hid hks
    have HSS := Lib.hid hss
    have HSP := Lib.hid hsh.2.2
    have HLG := Lib.hid hll
    obtain ⟨hp16, hp0, -⟩ := hsh
    unfold PathEnd at HPk
    clear HA ha hks hss hll
    go_wp2_with fail
    refine HPk.mono ?_
    rintro e w3 ⟨A3, c3, rfl, hc31, hc32, hrd, hz, hb3⟩
    obtain ⟨pb, rfl, hpv⟩ := path_pv hrd hz hp0 hc31 hc32
    have HPv := Lib.hid hpv
    have HB3 := Lib.hid (below_step HB.out hb3)
    have HBw3 := Lib.hid (below_step HB2.out HB3.out)
    have HP3 := Lib.hid (HP.out.below hb3)
    have HF := Lib.hid (HFi.out Ar cr (some ⟨pb, 0, none⟩) c3 P w3 HBw3.out (HRl.out.below HB3.out) hrd (by omega) HSP.out)
    clear HPk HP HB HBw hpv hrd hz hb3
    go_wp2_with fail
    refine HF.out.mono ?_
    clear HF
    unfold FindEnd
    rintro e w4 ⟨⟨hno, rfl⟩ | ⟨r, b, c, hyes, hmem, rfl, hrc1, hrc2, hrrd⟩, hb4⟩
    · have hS := HSS.out hno
      have HB4 := below_step HB3.out hb4
      have HP4 := HP3.out.below hb4
      have HPv4 := HPv.out.below hb4
      clear HKS HSS HP3 HB3 HPv hb4 HBw3
      obtain ⟨wo, hwo⟩ : ∃ wo, w4.alloc (.cells #[.slice none 0 0, .bool false, .bool false] 94) = wo := ⟨_, rfl⟩
      have hbo : Below w4.heap.size w4 wo := by rw [← hwo]; exact (Below.refl _ _).alloc (Nat.le_refl _) _
      have HBo := Lib.hid (below_step HB4 hbo)
      have HPo := Lib.hid (HP4.below hbo)
      have HPvo := Lib.hid (HPv4.below hbo)
      have HUk := Lib.hid (HUn.out Ar cr (some ⟨pb, 0, none⟩) c3 P wo (below_step HB2.out HBo.out) (HRl.out.below HBo.out) HPvo.out.rd.1 (by omega) hc31 hc32 (by omega) HSP.out)
      have HST := Lib.hid hS.1
      have HAL := Lib.hid hS.2
      generalize unknownOf P = u at *
      have HWO := Lib.hid hwo
      clear HB4 HP4 HPv4 hbo hS hno hwo
      go_wp2_with fail
      rw [HWO.out]
      refine HUk.out.mono ?_
      rintro e w5 ⟨rfl, hb5⟩
      have HB5 := Lib.hid (below_step HBo.out hb5)
      have HP5 := Lib.hid (HPo.out.below hb5)
      have HPv5 := Lib.hid (HPvo.out.below hb5)
      clear HUk HPo HPvo HBo hb5 HWO
      go_wp2_with (at_builtin; refine app_item rfl _ _ 55 rfl w2 w5 99 i0 _ 2 32 Tryz.underlying55 hii hz0 hz1 hz2 rfl (by decide) (by decide) HP5.out HB5.out rfl (.slice (some ⟨pb, 0, none⟩) P.length c3) (fitem (P, u)) rfl (fitem_cells _) HPv5.out rfl (by rw [List.length_map]; omega) ?_; intro v' w' hown' hb')
      have HB6 := Lib.hid hb'
      have HP6 := Lib.hid hown'
      clear hown' hb' HP5 HB5 HPv5
      refine (HEk.out _ (below_step HB2.out HB6.out)).mono ?_
      rintro e w7 ⟨rfl, hb7⟩
      obtain ⟨q, hq⟩ : ∃ q, endB L k = q + 1 := ⟨endB L k - 1, by omega⟩
      rw [hq] at HST HAL HEB ⊢
      have hq1 : ((q + 1 : Nat) : Int) - 1 = (q : Int) := by omega
      have HB7 := Lib.hid (below_step HB6.out hb7)
      have HP7 : Hid (Pl w7 w2.heap.size 99 2 v' ((checkTo L (q + 1)).map fitem)) := by
       show Pl _ _ _ _ _ _
       rw [HST.out, List.map_append]; exact HP6.out.below hb7
      clear HP6 HB6 hb7 hq HST HEk
      go_wp2_with fail
      go_roundw
      case rel => exact ⟨q + 1, by omega, by go_num, HAL, HP7, HB7⟩
      case measure => simp [intOf]; omega
    · have hS := HKS.out r hyes
      have HB4 := below_step HB3.out hb4
      have HP4 := HP3.out.below hb4
      have HPv4 := HPv.out.below hb4
      have hrl := rule_len hyes
      have hcl2 := HLG.out r
      clear HKS HSS HP3 HB3 HPv hb4 HBw3 HLG
      obtain ⟨wo, hwo⟩ : ∃ wo, w4.alloc (.cells #[.slice (some ⟨b, 0, none⟩) r.path.length c, .bool r.one, .bool r.needed] 94) = wo := ⟨_, rfl⟩
      have hbo : Below w4.heap.size w4 wo := by rw [← hwo]; exact (Below.refl _ _).alloc (Nat.le_refl _) _
      have HBo := Lib.hid (below_step HB4 hbo)
      have HPo := Lib.hid (HP4.below hbo)
      have HPvo := HPv4.below hbo
      have HLk2 := Lib.hid (HLk.out Ar cr r b c pb c3 P wo (below_step HB2.out HBo.out) (HRl.out.below HBo.out) hmem (hrrd.below hbo) hrc1 HPvo hrl (by omega) HSP.out)
      have HST := Lib.hid hS.1
      have HAL := Lib.hid hS.2
      generalize lineF L k r P = lf at *
      have HWO := Lib.hid hwo
      clear HB4 HP4 HPv4 HPvo hbo hS hyes hwo hrrd hrl HLk
      go_wp2_with fail
      rw [HWO.out]
      refine HLk2.out.mono ?_
      rintro e w5 ⟨⟨v5, rfl, hv5⟩, hb5⟩
      have hyc := items_cells lf
      have hyl : (lf.map fitem).length = lf.length := List.length_map _
      obtain ⟨ys, hys⟩ : ∃ ys, lf.map fitem = ys := ⟨_, rfl⟩
      rw [hys] at hv5 hyc hyl
      have HYS := Lib.hid hys
      have HYC := Lib.hid hyc
      have HYL : Hid (((checkTo L k).map fitem).length + ys.length ≤ 1000000000) := by show _ ≤ _; rw [List.length_map]; omega
      obtain ⟨A5, c5, rfl, hc51, hc52, hpd5, hn5⟩ := hv5.read
      have HB5 := Lib.hid (below_step HBo.out hb5)
      have HP5 := Lib.hid (HPo.out.below hb5)
      have HPD := Lib.hid hpd5
      have HN5 := Lib.hid hn5
      clear HLk2 HPo HBo hb5 HWO hv5 hpd5 hn5 hys hyc hyl
      go_wp2_with (at_builtin; refine app_items rfl _ _ 55 rfl w2 w5 99 i0 _ 2 32 Tryz.underlying55 hii hz0 hz1 hz2 rfl (by decide) (by decide) HP5.out HB5.out rfl A5 c5 ys rfl HPD.out HN5.out HYC.out HYL.out ?_; intro v' w' hown' hb')
      have HB6 := Lib.hid hb'
      have HP6 : Hid (Pl w' w2.heap.size 99 2 v' ((checkTo L (k + 1)).map fitem)) := by
       show Pl _ _ _ _ _ _
       rw [HST.out, List.map_append, HYS.out]; exact hown'
      clear hown' hb' HP5 HB5 HPD HN5 HST HYS HYC HYL
      go_roundw
      case rel => exact ⟨k + 1, by omega, by go_num, HAL, HP6, HB6⟩
      case measure => simp [intOf]; omega
  · obtain rfl : k = L.length := by omega
    have HPF := HP.out
    rw [HAll.out] at HPF
    have HPG := Lib.hid (HPF.base HB2.out.size)
    have HBG := Lib.hid (below_step HB2.out HB.out)
    clear HP HB HPF HA
    go_wp2_with fail
    refine bodyPost_ret (results_tmp2 rfl _ _ _) rfl ?_
    exact ⟨⟨_, rfl, HPG.out⟩, HBG.out⟩
end Go.Proofs.YtjdknhalcpkeaaaGreatDoor
