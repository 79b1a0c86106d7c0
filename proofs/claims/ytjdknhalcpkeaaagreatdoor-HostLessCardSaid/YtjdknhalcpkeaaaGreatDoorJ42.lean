/- A walk of the reference: Compile. A parameter that is a slice of lines, or of strings: what lies in its cells, as a list. The entries as the document's, as a slice. -/
import Derived.Deep.Slices
import Derived.Deep.Fields
import Derived.ChangeSame
import Derived.Test.YtjdknhalcpkeaaaGreatDoorJ38
import Derived.Test.YtjdknhalcpkeaaaGreatDoorJ41
import Derived.Test.YtjdknhalcpkeaaaGreatDoorJ04
import Derived.Test.YtjdknhalcpkeaaaGreatDoorJ37
namespace Go.Proofs.YtjdknhalcpkeaaaGreatDoor
open Go Go.RowKit Go.Sort Rte Sch Tre Hst
theorem cell_lt {w : World} {B o : Nat} {v : Value} (h : w.cell? ⟨B, o, none⟩ = some v) : B < w.heap.size := by
 by_cases h0 : B < w.heap.size
 · exact h0
 · unfold World.cell? at h
   rw [Array.getElem?_eq_none (Nat.le_of_not_lt h0)] at h
   cases h
def RCompEnd (L : List Line) (w : World) (e : Ending) (w' : World) : Prop :=
 (checkB L ≠ [] ∧ e = .returned (.tuple #[.slice none 0 0, .int .i64 7]) ∧ Below w.heap.size w w') ∨
 (checkB L = [] ∧ ∃ A c, e = .returned (.tuple #[.slice A (setE (allD (paths L))).length c, .int .i64 0]) ∧ (setE (allD (paths L))).length ≤ c ∧ c ≤ maxLen ∧ Rd w' 4 A (setE (allD (paths L))).length (ents (setE (allD (paths L)))) ∧ (A = none → c = 0) ∧ Below w.heap.size w w')
set_option maxHeartbeats 2000000 in
set_option maxRecDepth 100000 in
theorem rcompile_faults (A : Option Addr) (cap : Nat) (L : List Line) (w : World) (hR : Rd w 3 A L.length (lines L)) (hcap : L.length ≤ cap) (hc : cap ≤ maxLen) (hr : rightB L = true) (hf : checkB L ≠ []) :
 Calls Tryz.prog 13 #[.slice A L.length cap] w (RCompEnd L w) := by
 have HC := Lib.hid (refCheck_any A cap L w hR hcap hc hr)
 have HR := Lib.hid hf
 have hn : 0 < ((checkB L).map fitem).length := by
  rw [List.length_map]
  cases h : checkB L with
  | nil => exact absurd h hf
  | cons a l => simp
 clear hR hr hf
 go_enter Tryz.func13, Tryz.ntmps13
 go_wp2_with fail
 refine HC.out.mono ?_
 rintro e w1 ⟨⟨v, rfl, hv⟩, hb1⟩
 obtain ⟨A1, c1, rfl⟩ := pl_len hv
 clear hv
 generalize ((checkB L).map fitem).length = n at *
 go_wp2_with fail
 refine bodyPost_ret (results_tmp2 rfl _ _ _) rfl ?_
 exact .inl ⟨HR.out, rfl, hb1⟩
set_option maxHeartbeats 8000000 in
set_option maxRecDepth 100000 in
theorem rcompile_yes (A : Option Addr) (cap : Nat) (L : List Line) (w : World) (hR : Rd w 3 A L.length (lines L)) (hcap : L.length ≤ cap) (hc : cap ≤ maxLen) (hr : rightB L = true) (hf : checkB L = []) :
 Calls Tryz.prog 13 #[.slice A L.length cap] w (RCompEnd L w) := by
 obtain ⟨i0, hi, hz0, hz1, hz2⟩ := info_parts info_rent
 have HC := Lib.hid (refCheck_any A cap L w hR hcap hc hr)
 rw [hf] at HC
 have hN := refK A cap L w hR hcap hc hr
 have HPa := Lib.hid (fun h g W (hb : Below w.heap.size w W) => pairs_any A cap L (paths L) h g W (hN.later hb))
 have HU := Lib.hid hN.under
 have HW := Lib.hid hN.word
 have hk1 := hN.few [wHosts]
 have hk2 := hN.few [wPolicy]
 have HSh := Lib.hid (fun P o (ho : o.size ≤ 40) => hN.oneShort o P ho)
 have HPL := Lib.hid (fun h g => pairs_len (paths L) h g hN.few)
 have HR := Lib.hid hf
 unfold RCompEnd
 have HAll : Hid (allD (paths L) = (kw (paths L) [wHosts]).flatMap fun h => (kw (paths L) [wHosts]).flatMap (pairsD (paths L) h) ++ (kw (paths L) [wPolicy]).map (polU (paths L) h)) := rfl
 have HPo : Hid (∀ h p, polU (paths L) h p = ⟨h, 5, p, spB (spB (oneU (paths L) emB [wPolicy, p, wAction]) (oneU (paths L) wAny [wPolicy, p, wFrom])) (oneU (paths L) wAny [wPolicy, p, wTo])⟩) := fun _ _ => rfl
 clear hR hr hN hf
 generalize allD (paths L) = ALL at *
 generalize paths L = S at *
 generalize pairsD S = pd at *
 generalize polU S = pl at *
 generalize hK1 : kw S [wHosts] = K at *
 generalize hK2 : kw S [wPolicy] = K2 at *
 have HK1 := Lib.hid hK1
 have HK2 := Lib.hid hK2
 clear hK1 hK2
 have hPn : ∀ h (I : List ByteArray), (I.flatMap (pd h)).length ≤ 800 * I.length := fun h I => by
  induction I with
  | nil => simp
  | cons g I ih =>
    have := HPL.out h g
    rw [List.flatMap_cons, List.length_append, List.length_cons]
    omega
 have HPN := Lib.hid hPn
 have hDn : ∀ I : List ByteArray, (I.flatMap fun h => K.flatMap (pd h) ++ K2.map (pl h)).length ≤ 160200 * I.length := fun I => by
  induction I with
  | nil => simp
  | cons h I ih =>
    have := hPn h K
    rw [List.flatMap_cons, List.length_append, List.length_cons, List.length_append, List.length_map]
    omega
 have HDN := Lib.hid hDn
 have HS1 := Lib.hid (fun (i : Nat) (hi : i < K.length) => flat_succ (fun h => K.flatMap (pd h) ++ K2.map (pl h)) K hi)
 have HS2 := Lib.hid (fun h (i : Nat) (hi : i < K.length) => flat_succ (pd h) K hi)
 have HS3 := Lib.hid (fun h (i : Nat) (hi : i < K2.length) => map_succ (pl h) K2 hi)
 clear hPn hDn
 go_enter Tryz.func13, Tryz.ntmps13
 go_wp2_with fail
 refine HC.out.mono ?_
 rintro e w1 ⟨⟨v, rfl, hv⟩, hb1⟩
 obtain ⟨A1, c1, rfl⟩ := pl_len hv
 clear hv
 have HB1 := Lib.hid hb1
 simp only [List.map_nil, List.length_nil]
 clear hb1 HC
 go_wp2_with fail
 refine (HU.out [wHosts] (by simp) (by simp) _ (HB1.out.alloc HB1.out.size _) _ (rd_words _ _ [wHosts] rfl)).mono ?_
 rw [HK1.out]
 unfold StrsOwn
 rintro e w2 ⟨⟨v2, rfl, hv2⟩, hb⟩
 obtain ⟨A2, c2, rfl, hc1, hc2, -, -⟩ := own_rd_nil hv2
 have HB2 := Lib.hid (below_step (HB1.out.alloc HB1.out.size _) hb)
 have HV1 := Lib.hid hv2
 clear hb hv2 HB1
 go_wp2_with fail
 go_loopw [4, 6] (fun v vi wr => ∃ i : Nat, i ≤ K.length ∧ vi = .int .i64 i ∧ Hid (wr.ownsRow w.heap.size 36 4 v ((K.take i).flatMap fun h => K.flatMap (pd h) ++ K2.map (pl h)).length (ents ((K.take i).flatMap fun h => K.flatMap (pd h) ++ K2.map (pl h)))) ∧ Hid (Below w.heap.size w wr) ∧ Hid (KeepT 36 w2 wr)) (fun _ vi _ => K.length - (intOf vi).toNat)
 case atStart => exact ⟨0, Nat.zero_le _, rfl, World.ownsRow_nil _ _ _ _, HB2.out, KeepT.refl _ _⟩
 case round =>
  obtain ⟨i, hi', rfl, HO, HB, HK⟩ := hrel
  by_cases hlt : i < K.length
  · obtain ⟨Bh, rfl, hadd, hx0⟩ := own_word (HK.out.own (by decide) HV1.out) rfl hlt
    have HXk : Hid (∀ k (hk : k < K.length) W, KeepT 36 w2 W → W.cell? ⟨Bh, k, none⟩ = some (.string K[k])) := fun k hk W hkp => by
     obtain ⟨B', e, -, hx⟩ := own_word (hkp.own (by decide) HV1.out) rfl hk
     injection e with e
     injection e with e
     subst e
     exact hx
    have HXh : Hid (∀ W, KeepT 36 w2 W → W.cell? ⟨Bh, i, none⟩ = some (.string K[i])) := fun W hk => HXk.out i hlt W hk
    have hFn : ((K.take i).flatMap fun h => K.flatMap (pd h) ++ K2.map (pl h)).length ≤ 160200 * 200 := by
     have := HDN.out (K.take i)
     rw [List.length_take] at this
     omega
    have HSi := Lib.hid (HS1.out i hlt)
    generalize K[i] = h at *
    generalize hF : ((K.take i).flatMap fun h => K.flatMap (pd h) ++ K2.map (pl h)) = F at *
    have HS2h := Lib.hid (HS2.out h)
    have HS3h := Lib.hid (HS3.out h)
    have HPNh := Lib.hid (HPN.out h)
    have HPoh := Lib.hid (HPo.out h)
    have HPah := Lib.hid (HPa.out h)
    generalize pd h = pdh at *
    generalize pl h = plh at *
    clear hF hx0
    generalize wr = w3 at *
    go_wp2_with fail
    go_loopw [4, 7] (fun v vi wr => ∃ k : Nat, k ≤ K.length ∧ vi = .int .i64 k ∧ Hid (wr.ownsRow w.heap.size 36 4 v (F ++ (K.take k).flatMap pdh).length (ents (F ++ (K.take k).flatMap pdh))) ∧ Hid (Below w.heap.size w wr) ∧ Hid (KeepT 36 w2 wr)) (fun _ vi _ => K.length - (intOf vi).toNat)
    case atStart => exact ⟨0, Nat.zero_le _, rfl, by rw [List.take_zero, List.flatMap_nil, List.append_nil]; exact HO, HB, HK⟩
    case round =>
     clear HO HB HK
     obtain ⟨k, hk, rfl, HO, HB, HK⟩ := hrel
     by_cases hlk : k < K.length
     · have hxh := HXh.out _ HK.out
       have hxg := HXk.out k hlk _ HK.out
       have HXg := Lib.hid (fun W => HXk.out k hlk W)
       have hsj := HS2h.out k hlk
       have haddk : (⟨Bh, 0, none⟩ : Addr).add k = ⟨Bh, k, none⟩ := by rw [add_plain, Nat.zero_add]
       have hq : Bh < wr.heap.size := cell_lt hxh
       have hGn : (F ++ (K.take k).flatMap pdh).length ≤ 160200 * 200 + 160000 := by
        have := HPNh.out (K.take k)
        rw [List.length_take] at this
        rw [List.length_append]
        omega
       generalize K[k] = g at *
       have hPg := HPL.out
       have HPg := Lib.hid (HPah.out g)
       have HST : Hid (F ++ (K.take (k + 1)).flatMap pdh = (F ++ (K.take k).flatMap pdh) ++ pdh g) := by show _ = _; rw [hsj, List.append_assoc]
       have hpn : (pdh g).length ≤ 800 := by have := HPNh.out [g]; simpa using this
       generalize hG : F ++ (K.take k).flatMap pdh = G at *
       generalize pdh g = pg at *
       clear hsj hG hPg
       have HBd := Lib.hid HB.out.drew
       go_upto_region 11 with fail
       go_region_held3 (fun W => W.cell? ⟨Bh, i, none⟩ = some (.string h) ∧ W.cell? ⟨Bh, k, none⟩ = some (.string g)) (first | exact z6.1 | exact z6.2 | exact z5.1 | exact z5.2 | exact hxh | exact hxg | go_keep) (first | (go_at_call 34; refine (HPg.out _ HBd.out).mono ?_; unfold REnd; rintro e w5 ⟨⟨v5, rfl, hv5⟩, hb5⟩; obtain ⟨A5, c5, rfl, g1, g2, g3, g4, -⟩ := own_rd_nil hv5; have HB5 := Lib.hid (below_step HBd.out hb5); have HO5 := Lib.hid (own_below HO.out.drew hb5); have HK5 := Lib.hid (HK.out.below ((Below.refl _ _).drew.trans hb5)); have HR5 := Lib.hid g3; have z5 := And.intro (HXh.out _ HK5.out) (HXg.out _ HK5.out); clear hb5 hv5 g1 g2 g3) | (refine step_typedA rfl _ _ 29 rfl w w5 36 i0 _ 4 56 Tryz.underlying29 hi hz0 hz1 hz2 rfl (by decide) (by decide) HO5.out HB5.out rfl A5 pg.length c5 (ents pg) rfl HR5.out g4 (ents_c pg) (by omega) ?_; intro v6 w6 hown6 hb6 hk6; have z6 := And.intro (HXh.out _ (HK5.out.trans hk6)) (HXg.out _ (HK5.out.trans hk6))))
       have HO6 : Hid (w6.ownsRow w.heap.size 36 4 v6 (G ++ pg).length (ents (G ++ pg))) := by show World.ownsRow _ _ _ _ _ _ _; rw [ents_append, List.length_append]; exact hown6
       have HB6 := Lib.hid hb6
       have HK6 := Lib.hid (HK5.out.trans hk6)
       clear hown6 hb6 hk6 HO5 HB5 HK5 HR5 z5 z6 hxh hxg
       go_wp2_with fail
       go_roundw
       case rel => exact ⟨k + 1, by omega, by go_num, by show World.ownsRow _ _ _ _ _ _ _; rw [HST.out]; exact HO6.out, HB6, HK6⟩
       case measure => simp [intOf]; omega
     · have hke : k = K.length := by omega
       have HO0 := HO.out
       rw [hke, List.take_length] at HO0
       have HN1 := Lib.hid HO0
       have hGn : (F ++ K.flatMap pdh).length ≤ 160200 * 200 + 160000 := by
        have := HPNh.out K
        rw [List.length_append]
        omega
       have HSi2 : Hid (((K.take (i + 1)).flatMap fun h => K.flatMap (pd h) ++ K2.map (pl h)) = (F ++ K.flatMap pdh) ++ K2.map plh) := by show _ = _; rw [HSi.out, List.append_assoc]
       generalize F ++ K.flatMap pdh = G at *
       clear HO HO0 HS2h HPNh HPah
       generalize wr = w4 at *
       go_wp2_with fail
       refine (HU.out [wPolicy] (by simp) (by simp) _ (HB.out.alloc HB.out.size _) _ (rd_words _ _ [wPolicy] rfl)).mono ?_
       rw [HK2.out]
       unfold StrsOwn
       rintro e w5 ⟨⟨v5, rfl, hv5⟩, hb⟩
       obtain ⟨A5, c5, rfl, hc51, hc52, -, -⟩ := own_rd_nil hv5
       have HB5 := Lib.hid (below_step (HB.out.alloc HB.out.size _) hb)
       have HO5 := Lib.hid (own_below (HN1.out.alloc _) hb)
       have HK5 := Lib.hid ((HK.out.alloc _).below hb)
       have HV5 := Lib.hid hv5
       clear hb hv5 HB HN1 HK
       go_wp2_with fail
       go_loopw [4, 9] (fun v vi wr => ∃ q : Nat, q ≤ K2.length ∧ vi = .int .i64 q ∧ Hid (wr.ownsRow w.heap.size 36 4 v (G ++ (K2.take q).map plh).length (ents (G ++ (K2.take q).map plh))) ∧ Hid (Below w.heap.size w wr) ∧ Hid (KeepT 36 w2 wr) ∧ Hid (KeepT 36 w5 wr)) (fun _ vi _ => K2.length - (intOf vi).toNat)
       case atStart => exact ⟨0, Nat.zero_le _, rfl, by rw [List.take_zero, List.map_nil, List.append_nil]; exact HO5, HB5, HK5, KeepT.refl _ _⟩
       case round =>
        clear HO5 HB5 HK5
        obtain ⟨q, hq', rfl, HOv, HBv, HKh, HKv⟩ := hrel
        by_cases hlq : q < K2.length
        · obtain ⟨Bp, rfl, haddp, hx⟩ := own_word (HKv.out.own (by decide) HV5.out) rfl hlq
          have hX : ∀ W, KeepT 36 w5 W → W.cell? ⟨Bp, q, none⟩ = some (.string K2[q]) := fun W hk => by
           obtain ⟨B', e, -, hx⟩ := own_word (hk.own (by decide) HV5.out) rfl hlq
           injection e with e
           injection e with e
           subst e
           exact hx
          have hl4 : (G ++ (K2.take q).map plh).length + 1 ≤ 1000000000 := by
           rw [List.length_append, List.length_map, List.length_take]
           omega
          have hsj := HS3h.out q hlq
          have hq4 : Bp < wr.heap.size := cell_lt hx
          generalize K2[q] = p at *
          rw [HPoh.out p] at hsj
          have HX := Lib.hid hX
          have ha40 := HSh.out [wPolicy, p, wAction] emB (by decide)
          have hf40 := HSh.out [wPolicy, p, wFrom] wAny (by decide)
          have ht40 := HSh.out [wPolicy, p, wTo] wAny (by decide)
          generalize hac : oneU S emB [wPolicy, p, wAction] = ac at *
          generalize hfr : oneU S wAny [wPolicy, p, wFrom] = fr at *
          generalize hto : oneU S wAny [wPolicy, p, wTo] = tw at *
          have HST : Hid (G ++ (K2.take (q + 1)).map plh = (G ++ (K2.take q).map plh) ++ [⟨h, 5, p, spB (spB ac fr) tw⟩]) := by show _ = _; rw [hsj, List.append_assoc]
          generalize hFF : G ++ (K2.take q).map plh = FF at *
          have HAC := Lib.hid hac
          have HFR := Lib.hid hfr
          have HTO := Lib.hid hto
          have hs1 : ¬ (9223372036854775807 < ac.size + 1) := by omega
          have hs2 : ¬ (9223372036854775807 < ac.size + 1 + fr.size) := by omega
          have hs3 : ¬ (9223372036854775807 < ac.size + 1 + fr.size + 1) := by omega
          have hs4 : ¬ (9223372036854775807 < ac.size + 1 + fr.size + 1 + tw.size) := by omega
          clear hac hfr hto hFF hsj hX
          generalize wr = wv at *
          have HKp : Hid (∀ o1 o2 o3, (((wv.alloc o1).alloc o2).alloc o3).drew.cell? ⟨Bp, q, none⟩ = some (.string p)) := fun o1 o2 o3 => HX.out _ (HKv.out.below (below_d3 _ o1 o2 o3))
          go_upto_region 16 with fail
          go_region_held3 (fun W => W.cell? ⟨Bp, q, none⟩ = some (.string p)) (first | exact HKp.out _ _ _ | exact y7 | exact y6 | exact y5 | go_keep) (first | (go_at_call 35; first | (refine (HW.out wAny [wPolicy, p, wTo] (by simp) (by simp) _ (below_step HB6.out (by first | with_reducible exact Below.refl _ _ | with_reducible exact below_a1 _ _ | with_reducible exact below_a2 _ _ _)) _ ?hpw).mono ?_; (case hpw => repeat (first | ((with_reducible refine rd_words _ _ [wPolicy, p, wTo] ?_); rfl) | ((with_reducible refine rd_words2 _ _ _ [wPolicy, p, wTo] ?_); rfl) | ((with_reducible refine rd_words3 _ _ _ _ [wPolicy, p, wTo] ?_); rfl) | with_reducible refine Rd.drew ?_ | with_reducible refine Rd.alloc ?_ _ | with_reducible refine Rd.below ?_ HL6.out | with_reducible refine Rd.below ?_ HL5.out)); rw [HTO.out]; rintro e x7 ⟨rfl, hb7⟩; have HB47 : Hid (Below wv.heap.size wv x7) := below_step (below_step HB46.out (by first | with_reducible exact Below.refl _ _ | with_reducible exact below_a1 _ _ | with_reducible exact below_a2 _ _ _)) hb7; have y7 := HX.out _ (HKv.out.below HB47.out); have hq7 : Bp < x7.heap.size := Nat.lt_of_lt_of_le hq4 HB47.out.size; clear hb7) | (refine (HW.out wAny [wPolicy, p, wFrom] (by simp) (by simp) _ (below_step HB5.out (by first | with_reducible exact Below.refl _ _ | with_reducible exact below_a1 _ _ | with_reducible exact below_a2 _ _ _)) _ ?hpw).mono ?_; (case hpw => repeat (first | ((with_reducible refine rd_words _ _ [wPolicy, p, wFrom] ?_); rfl) | ((with_reducible refine rd_words2 _ _ _ [wPolicy, p, wFrom] ?_); rfl) | ((with_reducible refine rd_words3 _ _ _ _ [wPolicy, p, wFrom] ?_); rfl) | with_reducible refine Rd.drew ?_ | with_reducible refine Rd.alloc ?_ _ | with_reducible refine Rd.below ?_ HL5.out)); rw [HFR.out]; rintro e x6 ⟨rfl, hb6⟩; have HL6 := Lib.hid hb6; have HB46 : Hid (Below wv.heap.size wv x6) := below_step (below_step HB45.out (by first | with_reducible exact Below.refl _ _ | with_reducible exact below_a1 _ _ | with_reducible exact below_a2 _ _ _)) hb6; have HB6 := Lib.hid (below_step HBv.out HB46.out); have y6 := HX.out _ (HKv.out.below HB46.out); have hq6 : Bp < x6.heap.size := Nat.lt_of_lt_of_le hq4 HB46.out.size; clear hb6) | (refine (HW.out emB [wPolicy, p, wAction] (by simp) (by simp) _ (below_step HBv.out (by first | with_reducible exact below_d1 _ _ | with_reducible exact below_d2 _ _ _ | with_reducible exact below_d3 _ _ _ _)) _ ?hpw).mono ?_; (case hpw => repeat (first | ((with_reducible refine rd_words _ _ [wPolicy, p, wAction] ?_); rfl) | ((with_reducible refine rd_words2 _ _ _ [wPolicy, p, wAction] ?_); rfl) | ((with_reducible refine rd_words3 _ _ _ _ [wPolicy, p, wAction] ?_); rfl) | with_reducible refine Rd.drew ?_ | with_reducible refine Rd.alloc ?_ _)); rw [HAC.out]; rintro e x5 ⟨rfl, hb5⟩; have HL5 := Lib.hid hb5; have HB45 : Hid (Below wv.heap.size wv x5) := below_step (by first | with_reducible exact below_d1 _ _ | with_reducible exact below_d2 _ _ _ | with_reducible exact below_d3 _ _ _ _) hb5; have HB5 := Lib.hid (below_step HBv.out HB45.out); have y5 := HX.out _ (HKv.out.below HB45.out); have hq5 : Bp < x5.heap.size := Nat.lt_of_lt_of_le hq4 HB45.out.size; clear hb5)))
          all_goals
           have HB8 := Lib.hid (below_step HBv.out HB47.out)
           have HO8 := Lib.hid (own_below HOv.out HB47.out)
           have HH8 := Lib.hid (HKh.out.below HB47.out)
           have HK8 := Lib.hid (HKv.out.below HB47.out)
           have hxh := HXh.out _ HH8.out
           clear y5 y6 y7 hq4 hq5 hq6 hq7 HB45 HB46 HB47 HB5 HB6 HL5 HL6 hx
           have hxp := HX.out _ HK8.out
           have HOd := Lib.hid (HO8.out.alloc (.cells #[.string h, .int .i64 5, .string p, .string (spB (spB ac fr) tw)] 36)).drew
           have HBd := Lib.hid ((HB8.out.alloc HB8.out.size (.cells #[.string h, .int .i64 5, .string p, .string (spB (spB ac fr) tw)] 36)).drew)
           have HRd := Lib.hid ((rd_ent_new x7 36 ⟨h, 5, p, spB (spB ac fr) tw⟩).drew)
           have HKd := Lib.hid ((HK8.out.alloc (.cells #[.string h, .int .i64 5, .string p, .string (spB (spB ac fr) tw)] 36)).below (Below.refl _ _).drew)
           have HHd := Lib.hid ((HH8.out.alloc (.cells #[.string h, .int .i64 5, .string p, .string (spB (spB ac fr) tw)] 36)).below (Below.refl _ _).drew)
           go_upto_region 17 with fail
           go_region_held3 (fun W => W.cell? ⟨Bh, i, none⟩ = some (.string h) ∧ W.cell? ⟨Bp, q, none⟩ = some (.string p)) (first | exact z9.1 | exact z9.2 | exact hxh | exact hxp | exact HXh.out _ HHd.out | exact HX.out _ HKd.out | go_keep) (first | (refine step_typedA rfl _ _ 29 rfl w _ 36 i0 _ 4 56 Tryz.underlying29 hi hz0 hz1 hz2 rfl (by decide) (by decide) HOd.out HBd.out rfl (some ⟨x7.heap.size, 0, none⟩) 1 1 (Ent.cells ⟨h, 5, p, spB (spB ac fr) tw⟩) rfl HRd.out (fun h => by cases h) (Rte.cells_one _) hl4 ?_; intro va xa howna hba hka; have z9 := And.intro (HXh.out _ (HHd.out.trans hka)) (HX.out _ (HKd.out.trans hka))))
           have HOa := Lib.hid (own_push_ent howna)
           have HBa := Lib.hid hba
           have HKa := Lib.hid (HKd.out.trans hka)
           have HHa := Lib.hid (HHd.out.trans hka)
           clear howna hba hka z9
           go_wp2_with fail
           go_roundw
           case rel => exact ⟨q + 1, by omega, by go_num, by show World.ownsRow _ _ _ _ _ _ _; rw [HST.out]; exact HOa.out, HBa, HHa, HKa⟩
           case measure => simp [intOf]; omega
        · have hqe : q = K2.length := by omega
          have HO0 := HOv.out
          rw [hqe, List.take_length, ← HSi2.out] at HO0
          have HOn := Lib.hid HO0
          clear HOv HO0
          go_wp2
          go_roundw
          case rel => exact ⟨i + 1, by omega, by go_num, HOn, HBv, HKh⟩
          case measure => simp [intOf]; omega
  · have hie : i = K.length := by omega
    have HO0 := HO.out
    rw [hie, List.take_length, ← HAll.out] at HO0
    have hAn : ALL.length ≤ 900000000 := by
     have := HDN.out K
     rw [← HAll.out] at this
     omega
    obtain ⟨A9, c9, rfl, g1, g2, g3, g4, -⟩ := own_rd_nil HO0
    have HS := Lib.hid (rset_any A9 c9 ALL wr g3 hAn)
    clear HO HO0 g3
    go_wp2_with fail
    refine HS.out.mono ?_
    unfold EntsRd
    rintro e w9 ⟨A10, c10, rfl, f1, f2, f3, f4, f5⟩
    have HF := Lib.hid (And.intro f3 (And.intro f4 (below_step HB.out f5)))
    clear f3 f5
    go_wp2_with fail
    refine bodyPost_ret (results_tmp2 rfl _ _ _) rfl ?_
    exact .inr ⟨HR.out, A10, c10, rfl, f1, f2, HF.out.1, HF.out.2.1, HF.out.2.2⟩
theorem rcompile_any (A : Option Addr) (cap : Nat) (L : List Line) (w : World) (hR : Rd w 3 A L.length (lines L)) (hcap : L.length ≤ cap) (hc : cap ≤ maxLen) (hr : rightB L = true) :
 Calls Tryz.prog 13 #[.slice A L.length cap] w (RCompEnd L w) := by
 by_cases hf : checkB L = []
 · exact rcompile_yes A cap L w hR hcap hc hr hf
 · exact rcompile_faults A cap L w hR hcap hc hr hf
end Go.Proofs.YtjdknhalcpkeaaaGreatDoor
namespace Go.Proofs.YtjdknhalcpkeaaaGreatDoor
open Go Go.ChangeShapes Go.WideShapes Go.Deep Go.RowKit Tre
theorem add_twice (a : Addr) (i j : Nat) : (a.add i).add j = a.add (i + j) := by
  unfold Addr.add
  by_cases hi : i = 0
  · simp [hi]
  · by_cases hj : j = 0
    · simp [hi, hj]
    · simp [hi, hj, Nat.add_assoc]
section
variable {H : Type} {enc : TypeId × Value → H} {P : Program} {w : World} {base : Nat} {spare : Nat → Bool} {held : Bool}
theorem field_at {e : TypeId} {fs : Array Field} {n : Nat} {b : Addr} {x : DataW H × List MemPlace} {cs : List Value} (he : P.underlying e = some (.struct fs)) (hone : oneCellFields P fs = true) (hC : P.cellsOf e = fs.size)
 (hc : w.cells? base b (P.cellsOf e) = some cs) (ht : DataW.trod enc P w base spare held n e cs = some x) (j : Nat) (f : Field) (hj : fs[j]? = some f) :
 ∃ v y m, w.cell? (b.add j) = some v ∧ DataW.trod enc P w base spare held m f.type [v] = some y := by
 obtain ⟨ys, m, -, -, -, hyl, hf⟩ := DataW.trod_struct he ht
 obtain ⟨-, hl, hat⟩ := World.cells?_some hc
 obtain ⟨ho, hk⟩ := hone_of hone j f hj
 have hjs : j < fs.size := (Array.getElem?_eq_some_iff.1 hj).1
 have hjc : j < cs.length := by omega
 have hd : (cs.drop j).take 1 = [cs[j]] := by rw [List.drop_eq_getElem_cons hjc]; rfl
 have h1 := hf j f hj
 rw [ho, hk, hd] at h1
 exact ⟨cs[j], ys[j]'(by omega), m, (hat j (by omega)).trans (List.getElem?_eq_getElem hjc), h1.trans (List.getElem?_eq_getElem (by omega))⟩
theorem open_lines {r : Reach} {b0 : Nat} {t e : TypeId} {f0 f1 f2 : Field} {v : Value} {d : DataW H} {p : List MemPlace} (ht : P.underlying t = some (.slice e)) (he : P.underlying e = some (.struct #[f0, f1, f2]))
 (hone : oneCellFields P #[f0, f1, f2] = true) (hC : P.cellsOf e = 3) (u0 : P.underlying f0.type = some (.int .i64)) (u1 : P.underlying f1.type = some .string) (u2 : P.underlying f2.type = some (.int .i64))
 (hv : Value.okWide P w r b0 t v) (h : DataW.Trod enc P w base spare held t v d p) :
 ∃ (A : Option Addr) (cap : Nat) (L : List Line), v = .slice A L.length cap ∧ L.length ≤ cap ∧ cap ≤ maxLen ∧ Rd w 3 A L.length (lines L) := by
 obtain ⟨a0, len, cap, rfl⟩ := okWide_slice ht hv
 obtain ⟨fuel, hf⟩ := h
 rcases open_slice ht hf with ⟨hcs, -⟩ | ⟨a, len', cap', m, n, D, Pl, hcs, -, hl, hm, hmm, -, hi⟩
 · simp [Value.cells] at hcs
   obtain ⟨rfl, rfl, rfl⟩ := hcs
   exact ⟨none, 0, [], rfl, Nat.le_refl _, by unfold maxLen; omega, Rd.nil⟩
 · simp [Value.cells] at hcs
   obtain ⟨rfl, rfl, rfl⟩ := hcs
   have hlm : len ≤ m := by rw [hmm]; split <;> omega
   have each : ∀ i, ∃ x : Line, i < len → w.cell? (a.add (i * 3)) = some (.int .i64 x.depth) ∧ w.cell? (a.add (i * 3 + 1)) = some (.string x.word) ∧ w.cell? (a.add (i * 3 + 2)) = some (.int .i64 x.mark) := by
    intro i
    by_cases hlt : i < len
    · obtain ⟨cs, hc, htr⟩ := hi i (by omega)
      have F := field_at he hone hC hc htr
      obtain ⟨v0, y0, m0, c0, t0⟩ := F 0 f0 rfl
      obtain ⟨v1, y1, m1, c1, t1⟩ := F 1 f1 rfl
      obtain ⟨v2, y2, m2, c2, t2⟩ := F 2 f2 rfl
      obtain ⟨k0, e0, -⟩ := DataW.trod_int u0 t0
      obtain ⟨s1, e1, -⟩ := DataW.trod_string u1 t1
      obtain ⟨k2, e2, -⟩ := DataW.trod_int u2 t2
      injection e0 with e0
      injection e1 with e1
      injection e2 with e2
      rw [add_twice, hC] at c0 c1 c2
      exact ⟨⟨k0, s1, k2⟩, fun _ => ⟨by rw [← e0]; exact c0, by rw [← e1]; exact c1, by rw [← e2]; exact c2⟩⟩
    · exact ⟨⟨0, ⟨#[]⟩, 0⟩, fun h => absurd h hlt⟩
   obtain ⟨f, hfx⟩ := Classical.axiomOfChoice each
   refine ⟨some a, cap, (List.range len).map f, by simp, by simpa using hl, hm, by rw [lines_length], fun hn => ?_⟩
   have hn' : 0 < len := by simpa using hn
   refine ⟨a, rfl, Lib.lt_of_cell (a := a) (by have := (hfx 0 hn').1; simpa [Addr.add] using this), fun j u hu => ?_⟩
   have hj : j < ((List.range len).map f).length * 3 := by
    have := (List.getElem?_eq_some_iff.1 hu).1
    rwa [lines_length] at this
   have hj' : j < len * 3 := by simpa using hj
   obtain ⟨i, q, rfl, hq⟩ : ∃ i q, j = i * 3 + q ∧ q < 3 := ⟨j / 3, j % 3, by omega, by omega⟩
   have hil : i < len := by omega
   rw [lines_get _ i q (by simpa using hil) hq] at hu
   obtain ⟨g0, g1, g2⟩ := hfx i hil
   simp only [List.getElem_map, List.getElem_range, Line.cells] at hu
   match q, hq with
   | 0, _ => rw [← hu]; simpa using g0
   | 1, _ => rw [← hu]; simpa using g1
   | 2, _ => rw [← hu]; simpa using g2
end
end Go.Proofs.YtjdknhalcpkeaaaGreatDoor
namespace Go.Proofs.YtjdknhalcpkeaaaGreatDoor
open Go Go.RowKit Go.Sort Rte Hst
theorem hrefs_any (A : Option Addr) (c : Nat) (L : List Ent) (w : World) (hR : Rd w 4 A L.length (ents L)) (hL : L.length ≤ 900000000) :
 Calls Tryz.prog 15 #[.slice A L.length c] w (EntsRd w L) :=
 (refs_own A c L w hR hL).mono fun e w' ⟨⟨v, h1, h2⟩, h3⟩ => by
  obtain ⟨A3, c3, hv3, g1, g2, g3, g4, -⟩ := own_rd_nil h2
  exact ⟨A3, c3, by rw [h1, hv3], g1, g2, g3, g4, h3⟩
theorem hrefs_none (w : World) : Calls Tryz.prog 15 #[.slice none 0 0] w (EntsRd w []) := hrefs_any none 0 [] w Rd.nil (by simp)
end Go.Proofs.YtjdknhalcpkeaaaGreatDoor
