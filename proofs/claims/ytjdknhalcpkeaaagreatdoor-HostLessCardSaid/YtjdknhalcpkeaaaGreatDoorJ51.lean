/- The law HostLess, of routes. -/
import Derived.Test.YtjdknhalcpkeaaaGreatDoorJ46
namespace Go.Proofs.YtjdknhalcpkeaaaGreatDoor
open Go Go.RowKit Go.Sort Rte Sch Tre Hst
set_option maxHeartbeats 8000000 in
set_option maxRecDepth 100000 in
theorem hostLessR_any (A : Option Addr) (cap : Nat) (L : List Line) (i : Int) (hi : 0 ≤ i ∧ i ≤ 255) (w : World) (hE : Env w) (hR : Rd w 3 A L.length (lines L)) (hcap : L.length ≤ cap) (hc : cap ≤ maxLen) :
 Calls Tryz.prog 8 #[.slice A L.length cap, .int .u8 i, .bool false] w fun e w' => e = .returned (.bool true) ∧ Below w.heap.size w w' := by
 have HA := Lib.hid (fun W (hb : Below w.heap.size w W) => awake14_any W (hE.below hb))
 have HSm := Lib.hid (small_lines A cap L w hR hcap hc)
 have HRi := Lib.hid (fun W (hb : Below w.heap.size w W) => refRight_lines A cap L W (hR.below hb) hcap hc)
 rw [right_ref] at HRi
 have HCm := Lib.hid (fun W (hb : Below w.heap.size w W) => compile_any A cap L W (hE.below hb) (hR.below hb) hcap hc)
 obtain ⟨i0, hi0, hz0, hz1, hz2⟩ := info_parts info_rent
 obtain ⟨j0, hj, hy0, hy1, hy2⟩ := info_parts info_pline
 have HK := Lib.hid (fun (hr : rightB L = true) => refK A cap L w hR hcap hc hr)
 have HFn := Lib.hid (fun (hr : rightB L = true) => reffind_any A cap L w hR hcap hc hr)
 have HRE := Lib.hid (refend_any A cap L w hR hcap hc)
 have HRL := Lib.hid (fun W (hb : Below w.heap.size w W) => hR.below hb)
 have HEv := Lib.hid (fun W (hb : Below w.heap.size w W) => hE.below hb)
 clear hE hR
 obtain ⟨hi1, hi2⟩ := hi
 cases hs : smallB L with
 | false =>
   rw [hs] at HSm
   clear hs HRi HCm HK HFn HRE HRL HEv
   go_enter Tryz.func8, Tryz.ntmps8
   go_wp2_with fail
   refine HSm.out.mono ?_
   rintro e w1 ⟨rfl, hb1⟩
   go_wp2_with fail
   refine (HA.out _ hb1).mono ?_
   rintro e w2 ⟨rfl, hb2⟩
   go_wp2_with fail
   go_ret
   exact ⟨rfl, below_step hb1 hb2⟩
 | true =>
   rw [hs] at HSm
   clear hs
   by_cases h60 : 60 < L.length
   · have h60' : (60 : Int) < (L.length : Int) := by omega
     clear HRi HCm HK HFn HRE HRL HEv
     go_enter Tryz.func8, Tryz.ntmps8
     go_wp2_with fail
     refine HSm.out.mono ?_
     rintro e w1 ⟨rfl, hb1⟩
     go_wp2_with fail
     refine (HA.out _ hb1).mono ?_
     rintro e w2 ⟨rfl, hb2⟩
     go_wp2_with fail
     go_ret
     exact ⟨rfl, below_step hb1 hb2⟩
   · have h60' : ¬ (60 : Int) < (L.length : Int) := by omega
     have h60'' : (L.length : Int) ≤ 60 := by omega
     cases hr : rightB L with
     | false =>
       rw [hr] at HRi
       clear HCm HK HFn HRE HRL HEv hr
       go_enter Tryz.func8, Tryz.ntmps8
       go_wp2_with fail
       refine HSm.out.mono ?_
       rintro e w1 ⟨rfl, hb1⟩
       go_wp2_with fail
       refine (HRi.out w1 hb1).mono ?_
       rintro e w2 ⟨rfl, hb2⟩
       go_wp2_with fail
       refine (HA.out _ (below_step hb1 hb2)).mono ?_
       rintro e w3 ⟨rfl, hb3⟩
       go_wp2_with fail
       go_ret
       exact ⟨rfl, below_step (below_step hb1 hb2) hb3⟩
     | true =>
       rw [hr] at HRi
       have hN := HK.out hr
       have HU := Lib.hid hN.under
       have hk1 := hN.few [wRoutes]
       have HFD := Lib.hid (HFn.out hr)
       have HLs := Lib.hid (fun (hf : checkB L = []) w0 hw => less_facts hr hf (a := wRoutes) (.inl rfl) 4 (fun S w => all_routes w) w0 hw)
       have HHr := Lib.hid hr
       have hsl := all_len_set hr
       have hl200 := right_len hr
       clear hr hN HK HFn
       go_enter Tryz.func8, Tryz.ntmps8
       go_wp2_with fail
       refine HSm.out.mono ?_
       rintro e w1 ⟨rfl, hb1⟩
       have HB1 := Lib.hid hb1
       clear hb1 HSm
       go_wp2_with fail
       refine (HRi.out w1 HB1.out).mono ?_
       rintro e w2 ⟨rfl, hb2⟩
       have HB2 := Lib.hid (below_step HB1.out hb2)
       clear hb2 HRi HB1
       go_wp2_with fail
       refine (HCm.out w2 HB2.out).mono ?_
       unfold CompileEnd
       rintro e w3 (⟨hr', rfl, hb3⟩ | ⟨-, hf, rfl, hb3⟩ | ⟨-, hf, A3, c3, rfl, g1, g2, g3, g4, hb3⟩)
       · rw [HHr.out] at hr'; cases hr'
       · have HB3 := Lib.hid (below_step HB2.out hb3)
         clear hb3 HB2 HCm hf HRL
         go_wp2_with fail
         refine (HU.out [wRoutes] (by simp) (by simp) _ (HB3.out.alloc HB3.out.size _) _ (rd_words _ _ [wRoutes] rfl)).mono ?_
         unfold StrsOwn
         rintro e w4 ⟨⟨v4, rfl, hv4⟩, hb4⟩
         obtain ⟨A4, c4, rfl, k41, k42, -, -, -⟩ := own_rd_nil hv4
         have HB4 := Lib.hid (below_step (HB3.out.alloc HB3.out.size _) hb4)
         clear hb4 hv4 HB3
         go_wp2_with fail
         refine (HA.out _ HB4.out).mono ?_
         rintro e w99 ⟨rfl, hb99⟩
         go_wp2_with fail
         go_ret
         exact ⟨rfl, below_step HB4.out hb99⟩
       · have HB3 := Lib.hid (below_step HB2.out hb3)
         have HG3 := Lib.hid g3
         clear hb3 HB2 HCm g3
         have HLa := Lib.hid (HLs.out hf)
         clear HLs hf HHr
         generalize setE (allU (paths L)) = M at *
         generalize paths L = S at *
         generalize hK : kw S [wRoutes] = K at *
         have HKe := Lib.hid hK
         clear hK
         go_wp2_with fail
         refine (HU.out [wRoutes] (by simp) (by simp) _ (HB3.out.alloc HB3.out.size _) _ (rd_words _ _ [wRoutes] rfl)).mono ?_
         rw [HKe.out]
         unfold StrsOwn
         rintro e w4 ⟨⟨v4, rfl, hv4⟩, hb4⟩
         obtain ⟨A4, c4, rfl, k41, k42, hr4, -, -⟩ := own_rd_nil hv4
         have HB4 := Lib.hid (below_step (HB3.out.alloc HB3.out.size _) hb4)
         have HM4 := Lib.hid ((HG3.out.alloc (.cells (sv [wRoutes]).toArray 9)).below hb4)
         have HK4 := Lib.hid hr4
         clear hb4 hv4 hr4 HB3 HG3
         by_cases h0 : K.length = 0
         · obtain rfl := List.eq_nil_of_length_eq_zero h0
           clear h0 HLa
           go_wp2_with fail
           refine (HA.out _ HB4.out).mono ?_
           rintro e w99 ⟨rfl, hb99⟩
           go_wp2_with fail
           go_ret
           exact ⟨rfl, below_step HB4.out hb99⟩
         · have hKp : 0 < K.length := by omega
           have hKi : (0 : Int) < (K.length : Int) := by omega
           have hKi2 : ((K.length : Int) == 0) = false := beq_eq_false_iff_ne.2 (by omega)
           obtain ⟨m, hm⟩ := Int.eq_ofNat_of_zero_le (Int.emod_nonneg i (by omega : (K.length : Int) ≠ 0))
           have hml : m < K.length := by have := Int.emod_lt_of_pos i hKi; omega
           obtain ⟨Bk, Ok, rfl, hab, hadd, hx⟩ := HK4.out.strAt hml
           have hw0 := HLa.out K[m] (List.getElem_mem hml)
           generalize K[m] = w0 at *
           obtain ⟨z, hz, hfz, hr2, hc2, hs2⟩ := hw0
           have hfi : fndI L [wRoutes, w0] = (z : Int) := by unfold fndI; rw [hfz]
           have HFI := Lib.hid hfi
           have HR2 := Lib.hid hr2
           have HC2 := Lib.hid hc2
           have HS2 := Lib.hid hs2
           have HEn := Lib.hid (fun W hb => HRE.out z hz W hb)
           have hen := endB_le L z hz
           obtain ⟨hen1, hen2⟩ := hen
           have HL0 := HRL.out w (Below.refl _ _)
           have HCx : Hid (lines (cutL L z) = [] ++ lines (L.take z) ++ lines (L.drop (endB L z))) := by show _ = _; unfold cutL; rw [lines_append, List.nil_append]
           have HCl : Hid ((cutL L z).length = 0 + z + (L.length - endB L z)) := by show _ = _; unfold cutL; rw [List.length_append, List.length_take, List.length_drop, Nat.min_eq_left (by omega)]; omega
           obtain ⟨B, O, hAe, -, -, -, -, -⟩ := HL0.line hz
           subst hAe
           clear hfz hr2 hc2 hs2 hfi HLa HRE HL0 h0
           have hzi : (z : Int) ≤ (cap : Int) := by omega
           have hzz : (0 : Int) ≤ (z : Int) := by omega
           generalize endB L z = en at *
           go_wp2_with fail
           refine (HFD.out [wRoutes, w0] (by simp) _ (HB4.out.alloc HB4.out.size _) _ (rd_words _ _ [wRoutes, w0] rfl)).mono ?_
           rw [HFI.out]
           rintro e w5 ⟨rfl, hb5⟩
           have HB5 := Lib.hid (below_step (HB4.out.alloc HB4.out.size _) hb5)
           have HM5 := Lib.hid ((HM4.out.alloc (.cells (sv [wRoutes, w0]).toArray 9)).below hb5)
           have HR5 := Lib.hid (HRL.out w5 HB5.out)
           have H13 := Lib.hid (rd_take HR5.out (n := z) (by omega))
           have H13c := Lib.hid (lines_cells2 (L.take z))
           have H15c := Lib.hid (lines_cells2 (L.drop en))
           clear hb5 HB4 HM4 hx hadd hab HK4 HFI HFD HKe HU
           go_wp2_with (at_builtin; refine app_src rfl _ _ 22 rfl w5 w5 52 j0 _ 3 32 Tryz.underlying22 hj hy0 hy1 hy2 rfl (by decide) (by decide) (World.ownsRow_nil _ _ _ _) (Below.refl _ _) rfl (some ⟨B, O, none⟩) z cap (lines (L.take z)) rfl H13.out (fun h => by cases h) H13c.out (by omega) ?_; intro v1 w6 hown1 hb6)
           refine (HEn.out _ (below_step HB5.out hb6)).mono ?_
           rintro e w7 ⟨rfl, hb67⟩
           have h57 := below_step hb6 hb67
           by_cases hce : cap = en
           · have hle : L.length = en := by omega
             have H15 : Hid (Rd w7 3 (some ⟨B, O, none⟩) 0 (lines (L.drop en))) := by
              rw [show L.drop en = [] from List.drop_of_length_le (by omega)]
              exact ⟨rfl, fun h => absurd h (by omega)⟩
             replace HCl : Hid ((cutL L z).length = 0 + z + 0) := by show _ = _; rw [HCl.out]; omega
             subst hce
             rw [hle]
             go_wp2_with (at_builtin; refine app_src rfl _ _ 22 rfl w5 w7 52 j0 _ 3 32 Tryz.underlying22 hj hy0 hy1 hy2 rfl (by decide) (by decide) (own_below hown1 hb67) (below_step hb6 hb67) rfl (some ⟨B, O, none⟩) 0 0 (lines (L.drop cap)) rfl H15.out (fun h => by cases h) H15c.out (by omega) ?_; intro v2 w8 hown2 hb8)
             have hO8 : w8.ownsRow w5.heap.size 52 3 v2 (cutL L z).length (lines (cutL L z)) := by
              rw [HCl.out, HCx.out]; exact hown2
             obtain ⟨A8, c8, rfl, k81, k82, hr8, -, -⟩ := own_rd_nil hO8
             have HB8 := Lib.hid (below_step HB5.out hb8)
             have HM8 := Lib.hid (HM5.out.below hb8)
             have HR8 := Lib.hid hr8
             have HCO : Hid (∀ W, Below w8.heap.size w8 W → Calls Tryz.prog 11 #[.slice A8 (cutL L z).length c8] W (CompileEnd (cutL L z) W)) := fun W hb => compile_any A8 c8 (cutL L z) W (HEv.out W (below_step HB8.out hb)) (HR8.out.below hb) k81 k82
             clear hown1 hown2 hb6 hb67 hb8 hO8 hr8 H13 H15 H13c H15c HCx HCl HB5 HM5 k81 k82 HEv HR8
             go_wp2_with fail
             go_loopw [15, 87] (fun v vi wr => ∃ k : Nat, k ≤ M.length ∧ vi = .int .i64 k ∧ Hid (wr.ownsRow w8.heap.size 36 4 v ((M.take k).filter (keepE 4 w0)).length (ents ((M.take k).filter (keepE 4 w0)))) ∧ Hid (Below w8.heap.size w8 wr)) (fun _ vi _ => M.length - (intOf vi).toNat)
             case atStart => exact ⟨0, Nat.zero_le _, rfl, World.ownsRow_nil _ _ _ _, Below.refl _ _⟩
             case round =>
              obtain ⟨k, hk, rfl, HO, HB⟩ := hrel
              by_cases hlt : k < M.length
              · obtain ⟨B2, O2, rfl, hab2, hadd2, y0, y1, y2, y3⟩ := (HM8.out.below HB.out).ent hlt
                have HYe := Lib.hid (fun h => filter_yes (keepE 4 w0) M hlt h)
                have HNo := Lib.hid (fun h => filter_no (keepE 4 w0) M hlt h)
                have hlen : ((M.take k).filter (keepE 4 w0)).length + 1 ≤ 1000000000 := by
                 have := List.length_filter_le (keepE 4 w0) (M.take k)
                 rw [List.length_take] at this; omega
                generalize M[k] = x at *
                generalize (M.take k).filter (keepE 4 w0) = T1 at *
                generalize hT : (M.take (k + 1)).filter (keepE 4 w0) = T2 at *
                have HT := Lib.hid hT
                have HO2 := Lib.hid (HO.out.alloc (.cells #[.string x.host, .int .i64 x.kind, .string x.key, .string x.val] 35))
                have HB2 := Lib.hid (HB.out.alloc HB.out.size (.cells #[.string x.host, .int .i64 x.kind, .string x.key, .string x.val] 35))
                clear hT HO
                by_cases h1 : x.kind = 4
                · have q1 : (x.kind != 4) = false := by rw [h1]; rfl
                  by_cases h2 : x.key = w0
                  · have q2 : (x.key.toList == w0.toList) = true := by rw [h2]; exact beq_self_eq_true _
                    have q3 : (x.key.toList != w0.toList) = false := by rw [h2]; exact bne_self_eq_false _
                    have HST := Lib.hid (HNo.out (keep_no h1 h2))
                    clear h1 h2 HYe HNo
                    go_wp2
                    go_roundw
                    case rel => exact ⟨k + 1, by omega, by go_num, by rw [HT.out, HST.out]; exact HO2, HB2⟩
                    case measure => simp [intOf]; omega
                  · obtain ⟨q2, q3⟩ := ne_list h2
                    have q4 : (x.key.toList != w0.toList) = true := by rw [bne, q2]; rfl
                    have HST := Lib.hid (HYe.out (keep_w h2))
                    clear h1 h2 HYe HNo
                    go_wp2_with (at_builtin; refine app_new rfl _ _ 29 rfl w8 (wr.alloc (.cells #[.string x.host, .int .i64 x.kind, .string x.key, .string x.val] 35)) 36 i0 _ 4 56 Tryz.underlying29 hi0 hz0 hz1 hz2 rfl (by decide) (by decide) HO2.out HB2.out rfl 1 1 [.string x.host, .int .i64 x.kind, .string x.key, .string x.val] (by show Value.slice (some ⟨wr.heap.size + 1, 0, none⟩) 1 1 = _; simp) rfl (cells_ent x) (by omega) ?_; intro v4 w4' h4 b4)
                    have HO4 := Lib.hid (own_push_ent h4)
                    have HB4 := Lib.hid b4
                    rw [← HST.out] at HO4
                    clear h4 b4 y0 y1 y2 y3 HO2 HB2
                    go_roundw
                    case rel => exact ⟨k + 1, by omega, by go_num, by rw [HT.out]; exact HO4, HB4⟩
                    case measure => simp [intOf]; omega
                · have q1 : (x.kind != 4) = true := by rw [bne_iff_ne]; exact h1
                  have q1' : (x.kind == 4) = false := beq_eq_false_iff_ne.2 h1
                  have HST := Lib.hid (HYe.out (keep_k h1))
                  clear h1 HYe HNo
                  go_wp2_with (at_builtin; refine app_new rfl _ _ 29 rfl w8 (wr.alloc (.cells #[.string x.host, .int .i64 x.kind, .string x.key, .string x.val] 35)) 36 i0 _ 4 56 Tryz.underlying29 hi0 hz0 hz1 hz2 rfl (by decide) (by decide) HO2.out HB2.out rfl 1 1 [.string x.host, .int .i64 x.kind, .string x.key, .string x.val] (by show Value.slice (some ⟨wr.heap.size + 1, 0, none⟩) 1 1 = _; simp) rfl (cells_ent x) (by omega) ?_; intro v4 w4' h4 b4)
                  have HO4 := Lib.hid (own_push_ent h4)
                  have HB4 := Lib.hid b4
                  rw [← HST.out] at HO4
                  clear h4 b4 y0 y1 y2 y3 HO2 HB2
                  go_roundw
                  case rel => exact ⟨k + 1, by omega, by go_num, by rw [HT.out]; exact HO4, HB4⟩
                  case measure => simp [intOf]; omega
              · have hke : M.take k = M := by rw [show k = M.length by omega, List.take_length]
                rw [hke] at HO
                obtain ⟨A9, c9, rfl, k91, k92, hr9, -, -⟩ := own_rd_nil HO.out
                have HR9 := Lib.hid hr9
                have HB9w := Lib.hid (below_step HB8.out HB.out)
                have HCOe := Lib.hid (HCO.out wr HB.out)
                clear hr9 HO HCO hke
                go_wp2_with fail
                refine HCOe.out.mono ?_
                unfold CompileEnd
                rw [HS2.out]
                rintro e w10 (⟨hr', rfl, hb10⟩ | ⟨-, hf', rfl, hb10⟩ | ⟨-, -, A10, c10, rfl, g1, g2, g3, g4, hb10⟩)
                · rw [HR2.out] at hr'; cases hr'
                · exact absurd HC2.out hf'
                · have HB10 := Lib.hid (below_step HB9w.out hb10)
                  have HR10 := Lib.hid (HR9.out.below hb10)
                  have hfl : (M.filter (keepE 4 w0)).length ≤ 900000000 := Nat.le_trans (List.length_filter_le _ _) hsl
                  have HRf := Lib.hid (hrefs_any A10 c10 (M.filter (keepE 4 w0)) w10 g3 hfl)
                  clear hb10 HB9w HR9 HCOe g3
                  generalize M.filter (keepE 4 w0) = M2 at *
                  go_wp2_with fail
                  refine HRf.out.mono ?_
                  unfold EntsRd
                  rintro e w11 ⟨A11, c11, rfl, f1, f2, f3, f4, hb11⟩
                  have HB11 := Lib.hid (below_step HB10.out hb11)
                  have HSa := Lib.hid (rsame_any A11 A9 c11 c9 M2 M2 w11 f3 (HR10.out.below hb11) (by omega))
                  rw [decide_eq_true rfl] at HSa
                  clear hb11 HB10 f3 HR10 HRf
                  go_wp2_with fail
                  refine HSa.out.mono ?_
                  rintro e w12 ⟨rfl, hb12⟩
                  have HB12 := Lib.hid (below_step HB11.out hb12)
                  clear hb12 HB11 HSa
                  go_wp2_with fail
                  refine (HA.out _ HB12.out).mono ?_
                  rintro e w13 ⟨rfl, hb13⟩
                  go_wp2_with fail
                  go_ret
                  exact ⟨rfl, below_step HB12.out hb13⟩
           · have hne : ¬ (en = cap) := fun e => hce e.symm
             have H15 := Lib.hid ((rd_drop HR5.out (n := en) hen2).below h57)
             have hsub : (L.length : Int) - (en : Int) = ((L.length - en : Nat) : Int) := by omega
             have hsub2 : (cap : Int) - (en : Int) = ((cap - en : Nat) : Int) := by omega
             have hle2 : (en : Int) ≤ (L.length : Int) := by omega
             have hle3 : (en : Int) ≤ (cap : Int) := by omega
             go_wp2_with (at_builtin; refine app_src rfl _ _ 22 rfl w5 w7 52 j0 _ 3 32 Tryz.underlying22 hj hy0 hy1 hy2 rfl (by decide) (by decide) (own_below hown1 hb67) (below_step hb6 hb67) rfl (some ⟨B, O + en * 3, none⟩) (L.length - en) (cap - en) (lines (L.drop en)) rfl H15.out (fun h => by cases h) H15c.out (by omega) ?_; intro v2 w8 hown2 hb8)
             have hO8 : w8.ownsRow w5.heap.size 52 3 v2 (cutL L z).length (lines (cutL L z)) := by
              rw [HCl.out, HCx.out]; exact hown2
             obtain ⟨A8, c8, rfl, k81, k82, hr8, -, -⟩ := own_rd_nil hO8
             have HB8 := Lib.hid (below_step HB5.out hb8)
             have HM8 := Lib.hid (HM5.out.below hb8)
             have HR8 := Lib.hid hr8
             have HCO : Hid (∀ W, Below w8.heap.size w8 W → Calls Tryz.prog 11 #[.slice A8 (cutL L z).length c8] W (CompileEnd (cutL L z) W)) := fun W hb => compile_any A8 c8 (cutL L z) W (HEv.out W (below_step HB8.out hb)) (HR8.out.below hb) k81 k82
             clear hown1 hown2 hb6 hb67 hb8 hO8 hr8 H13 H15 H13c H15c HCx HCl HB5 HM5 k81 k82 HEv HR8
             go_wp2_with fail
             go_loopw [15, 87] (fun v vi wr => ∃ k : Nat, k ≤ M.length ∧ vi = .int .i64 k ∧ Hid (wr.ownsRow w8.heap.size 36 4 v ((M.take k).filter (keepE 4 w0)).length (ents ((M.take k).filter (keepE 4 w0)))) ∧ Hid (Below w8.heap.size w8 wr)) (fun _ vi _ => M.length - (intOf vi).toNat)
             case atStart => exact ⟨0, Nat.zero_le _, rfl, World.ownsRow_nil _ _ _ _, Below.refl _ _⟩
             case round =>
              obtain ⟨k, hk, rfl, HO, HB⟩ := hrel
              by_cases hlt : k < M.length
              · obtain ⟨B2, O2, rfl, hab2, hadd2, y0, y1, y2, y3⟩ := (HM8.out.below HB.out).ent hlt
                have HYe := Lib.hid (fun h => filter_yes (keepE 4 w0) M hlt h)
                have HNo := Lib.hid (fun h => filter_no (keepE 4 w0) M hlt h)
                have hlen : ((M.take k).filter (keepE 4 w0)).length + 1 ≤ 1000000000 := by
                 have := List.length_filter_le (keepE 4 w0) (M.take k)
                 rw [List.length_take] at this; omega
                generalize M[k] = x at *
                generalize (M.take k).filter (keepE 4 w0) = T1 at *
                generalize hT : (M.take (k + 1)).filter (keepE 4 w0) = T2 at *
                have HT := Lib.hid hT
                have HO2 := Lib.hid (HO.out.alloc (.cells #[.string x.host, .int .i64 x.kind, .string x.key, .string x.val] 35))
                have HB2 := Lib.hid (HB.out.alloc HB.out.size (.cells #[.string x.host, .int .i64 x.kind, .string x.key, .string x.val] 35))
                clear hT HO
                by_cases h1 : x.kind = 4
                · have q1 : (x.kind != 4) = false := by rw [h1]; rfl
                  by_cases h2 : x.key = w0
                  · have q2 : (x.key.toList == w0.toList) = true := by rw [h2]; exact beq_self_eq_true _
                    have q3 : (x.key.toList != w0.toList) = false := by rw [h2]; exact bne_self_eq_false _
                    have HST := Lib.hid (HNo.out (keep_no h1 h2))
                    clear h1 h2 HYe HNo
                    go_wp2
                    go_roundw
                    case rel => exact ⟨k + 1, by omega, by go_num, by rw [HT.out, HST.out]; exact HO2, HB2⟩
                    case measure => simp [intOf]; omega
                  · obtain ⟨q2, q3⟩ := ne_list h2
                    have q4 : (x.key.toList != w0.toList) = true := by rw [bne, q2]; rfl
                    have HST := Lib.hid (HYe.out (keep_w h2))
                    clear h1 h2 HYe HNo
                    go_wp2_with (at_builtin; refine app_new rfl _ _ 29 rfl w8 (wr.alloc (.cells #[.string x.host, .int .i64 x.kind, .string x.key, .string x.val] 35)) 36 i0 _ 4 56 Tryz.underlying29 hi0 hz0 hz1 hz2 rfl (by decide) (by decide) HO2.out HB2.out rfl 1 1 [.string x.host, .int .i64 x.kind, .string x.key, .string x.val] (by show Value.slice (some ⟨wr.heap.size + 1, 0, none⟩) 1 1 = _; simp) rfl (cells_ent x) (by omega) ?_; intro v4 w4' h4 b4)
                    have HO4 := Lib.hid (own_push_ent h4)
                    have HB4 := Lib.hid b4
                    rw [← HST.out] at HO4
                    clear h4 b4 y0 y1 y2 y3 HO2 HB2
                    go_roundw
                    case rel => exact ⟨k + 1, by omega, by go_num, by rw [HT.out]; exact HO4, HB4⟩
                    case measure => simp [intOf]; omega
                · have q1 : (x.kind != 4) = true := by rw [bne_iff_ne]; exact h1
                  have q1' : (x.kind == 4) = false := beq_eq_false_iff_ne.2 h1
                  have HST := Lib.hid (HYe.out (keep_k h1))
                  clear h1 HYe HNo
                  go_wp2_with (at_builtin; refine app_new rfl _ _ 29 rfl w8 (wr.alloc (.cells #[.string x.host, .int .i64 x.kind, .string x.key, .string x.val] 35)) 36 i0 _ 4 56 Tryz.underlying29 hi0 hz0 hz1 hz2 rfl (by decide) (by decide) HO2.out HB2.out rfl 1 1 [.string x.host, .int .i64 x.kind, .string x.key, .string x.val] (by show Value.slice (some ⟨wr.heap.size + 1, 0, none⟩) 1 1 = _; simp) rfl (cells_ent x) (by omega) ?_; intro v4 w4' h4 b4)
                  have HO4 := Lib.hid (own_push_ent h4)
                  have HB4 := Lib.hid b4
                  rw [← HST.out] at HO4
                  clear h4 b4 y0 y1 y2 y3 HO2 HB2
                  go_roundw
                  case rel => exact ⟨k + 1, by omega, by go_num, by rw [HT.out]; exact HO4, HB4⟩
                  case measure => simp [intOf]; omega
              · have hke : M.take k = M := by rw [show k = M.length by omega, List.take_length]
                rw [hke] at HO
                obtain ⟨A9, c9, rfl, k91, k92, hr9, -, -⟩ := own_rd_nil HO.out
                have HR9 := Lib.hid hr9
                have HB9w := Lib.hid (below_step HB8.out HB.out)
                have HCOe := Lib.hid (HCO.out wr HB.out)
                clear hr9 HO HCO hke
                go_wp2_with fail
                refine HCOe.out.mono ?_
                unfold CompileEnd
                rw [HS2.out]
                rintro e w10 (⟨hr', rfl, hb10⟩ | ⟨-, hf', rfl, hb10⟩ | ⟨-, -, A10, c10, rfl, g1, g2, g3, g4, hb10⟩)
                · rw [HR2.out] at hr'; cases hr'
                · exact absurd HC2.out hf'
                · have HB10 := Lib.hid (below_step HB9w.out hb10)
                  have HR10 := Lib.hid (HR9.out.below hb10)
                  have hfl : (M.filter (keepE 4 w0)).length ≤ 900000000 := Nat.le_trans (List.length_filter_le _ _) hsl
                  have HRf := Lib.hid (hrefs_any A10 c10 (M.filter (keepE 4 w0)) w10 g3 hfl)
                  clear hb10 HB9w HR9 HCOe g3
                  generalize M.filter (keepE 4 w0) = M2 at *
                  go_wp2_with fail
                  refine HRf.out.mono ?_
                  unfold EntsRd
                  rintro e w11 ⟨A11, c11, rfl, f1, f2, f3, f4, hb11⟩
                  have HB11 := Lib.hid (below_step HB10.out hb11)
                  have HSa := Lib.hid (rsame_any A11 A9 c11 c9 M2 M2 w11 f3 (HR10.out.below hb11) (by omega))
                  rw [decide_eq_true rfl] at HSa
                  clear hb11 HB10 f3 HR10 HRf
                  go_wp2_with fail
                  refine HSa.out.mono ?_
                  rintro e w12 ⟨rfl, hb12⟩
                  have HB12 := Lib.hid (below_step HB11.out hb12)
                  clear hb12 HB11 HSa
                  go_wp2_with fail
                  refine (HA.out _ HB12.out).mono ?_
                  rintro e w13 ⟨rfl, hb13⟩
                  go_wp2_with fail
                  go_ret
                  exact ⟨rfl, below_step HB12.out hb13⟩
end Go.Proofs.YtjdknhalcpkeaaaGreatDoor
