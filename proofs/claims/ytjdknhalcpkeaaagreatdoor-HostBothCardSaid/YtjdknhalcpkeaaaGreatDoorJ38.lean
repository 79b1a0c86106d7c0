/- Walks of the reference: pairs. -/
import Derived.Test.YtjdknhalcpkeaaaGreatDoorJ37
import Derived.Test.YtjdknhalcpkeaaaGreatDoorJ34
namespace Hst
open Go Go.Lib Rte Sch Tre
section
variable (S : List (List ByteArray)) (h g : ByteArray)
def netF (V : List ByteArray) : List Ent := (V.filter fun v => !(decide (h = g)) && inU S h v && inU S g v).map fun v => ⟨h, 1, v, addrU S g⟩
theorem netF_no {V : List ByteArray} {i : Nat} (hi : i < V.length) (hn : h = g ∨ inU S h V[i] = false ∨ inU S g V[i] = false) : netF S h g (V.take (i + 1)) = netF S h g (V.take i) := by
 unfold netF
 rw [List.take_succ_eq_append_getElem hi, List.filter_append, List.map_append, List.filter_cons_of_neg, List.filter_nil, List.map_nil, List.append_nil]
 rcases hn with hn | hn | hn
 · simp [hn]
 · simp [hn]
 · simp [hn]
theorem netF_yes {V : List ByteArray} {i : Nat} (hi : i < V.length) (h0 : h ≠ g) (h1 : inU S h V[i] = true) (h2 : inU S g V[i] = true) : netF S h g (V.take (i + 1)) = netF S h g (V.take i) ++ [⟨h, 1, V[i], addrU S g⟩] := by
 unfold netF
 rw [List.take_succ_eq_append_getElem hi, List.filter_append, List.map_append, List.filter_cons_of_pos (by simp [h0, h1, h2]), List.filter_nil, List.map_singleton]
theorem netF_len (V : List ByteArray) : (netF S h g V).length ≤ V.length := by
 unfold netF
 rw [List.length_map]; exact List.length_filter_le _ _
theorem bindD_own {i : ByteArray} (h0 : ownU S i ≠ g) : bindD S h g i = [] := by unfold bindD; simp [h0]
theorem bindD_out {i : ByteArray} (h0 : inU S h (vniU S i) = false) : bindD S h g i = [] := by unfold bindD; simp [h0]
theorem bindD_self {i : ByteArray} (h0 : ownU S i = g) (h1 : inU S h (vniU S i) = true) (h2 : g = h) : bindD S h g i = [⟨h, 2, spB (vniU S i) i, macU S i⟩] := by unfold bindD; simp [h0, h1, h2]
theorem bindD_far {i : ByteArray} (h0 : ownU S i = g) (h1 : inU S h (vniU S i) = true) (h2 : g ≠ h) : bindD S h g i = [⟨h, 2, spB (vniU S i) i, macU S i⟩] ++ [⟨h, 3, spB (vniU S i) (macU S i), addrU S g⟩] := by unfold bindD; simp [h0, h1, h2]
theorem bindD_len : ∀ (I : List ByteArray), (I.flatMap (bindD S h g)).length ≤ 2 * I.length
 | [] => by simp
 | i :: I => by
   have := bindD_len I
   rw [List.flatMap_cons, List.length_append, List.length_cons]
   have h2 : (bindD S h g i).length ≤ 2 := by
    unfold bindD
    split
    · simp
    · split <;> simp
   omega
theorem routeD_no {p : ByteArray} (h0 : viaU S p ≠ g) : routeD S h g p = [] := by unfold routeD; rw [if_neg h0]
theorem routeD_self {p : ByteArray} (h0 : viaU S p = g) (h2 : g = h) : routeD S h g p = [⟨h, 4, p, spB wLocal (oneU S wZero [wRoutes, p, wMetric])⟩] := by unfold routeD; rw [if_pos h0, if_pos h2]
theorem routeD_far {p : ByteArray} (h0 : viaU S p = g) (h2 : g ≠ h) : routeD S h g p = [⟨h, 4, p, spB (addrU S g) (oneU S wZero [wRoutes, p, wMetric])⟩] := by unfold routeD; rw [if_pos h0, if_neg h2]
theorem routeD_len : ∀ (I : List ByteArray), (I.flatMap (routeD S h g)).length ≤ I.length
 | [] => by simp
 | i :: I => by
   have := routeD_len I
   rw [List.flatMap_cons, List.length_append, List.length_cons]
   have h2 : (routeD S h g i).length ≤ 1 := by
    unfold routeD
    split <;> simp
   omega
theorem pairs_len (hf : ∀ P, (kw S P).length ≤ 200) : (pairsD S h g).length ≤ 800 := by
 have h1 := netF_len S h g (kw S [wVnis])
 have h2 := bindD_len S h g (kw S [wBind])
 have h3 := routeD_len S h g (kw S [wRoutes])
 have := hf [wVnis]
 have := hf [wBind]
 have := hf [wRoutes]
 unfold pairsD bindsD routesD
 rw [List.length_append, List.length_append, show netsD S h g = netF S h g (kw S [wVnis]) from rfl]
 omega
end
end Hst
namespace Go.Proofs.YtjdknhalcpkeaaaGreatDoor
open Go Go.RowKit Go.Sort Rte Sch Tre Hst
structure RefK (A : Option Addr) (cap : Nat) (L : List Line) (S : List (List ByteArray)) (w : World) : Prop where
 under : ∀ P, P ≠ [] → P.length ≤ 1000 → ∀ W, Below w.heap.size w W → ∀ b, Rd W 1 (some ⟨b, 0, none⟩) P.length (sv P) → Calls Tryz.prog 20 #[.slice A L.length cap, .slice (some ⟨b, 0, none⟩) P.length P.length] W (StrsOwn W (kw S P))
 word : ∀ other P, P ≠ [] → P.length ≤ 1000 → ∀ W, Below w.heap.size w W → ∀ b, Rd W 1 (some ⟨b, 0, none⟩) P.length (sv P) → Calls Tryz.prog 35 #[.slice A L.length cap, .slice (some ⟨b, 0, none⟩) P.length P.length, .string other] W fun e w' => e = .returned (.string (oneU S other P)) ∧ Below W.heap.size W w'
 isin : ∀ g v W, Below w.heap.size w W → Calls Tryz.prog 73 #[.slice A L.length cap, .string g, .string v] W fun e w' => e = .returned (.bool (inU S g v)) ∧ Below W.heap.size W w'
 few : ∀ P, (kw S P).length ≤ 200
 short : ∀ P, ∀ x ∈ kw S P, x.size ≤ 40
theorem refK (A : Option Addr) (cap : Nat) (L : List Line) (w : World) (hR : Rd w 3 A L.length (lines L)) (hcap : L.length ≤ cap) (hc : cap ≤ maxLen) (hr : rightB L = true) : RefK A cap L (paths L) w where
 under P hP0 hl W hb b hP := runder_own A cap L (some ⟨b, 0, none⟩) P.length P W (hR.below hb) hcap hc hr hP0 hP (by omega)
 word other P hP0 hl W hb b hP := rword_any A cap L other (some ⟨b, 0, none⟩) P.length P W (hR.below hb) hcap hc hr hP0 hP (by omega)
 isin g v W hb := rin_any A cap L g v W (hR.below hb) hcap hc hr
 few P := kw_few hr P
 short P x hx := kw_short hr hx
theorem RefK.later {A : Option Addr} {cap : Nat} {L : List Line} {S : List (List ByteArray)} {w w' : World} (h : RefK A cap L S w) (hb : Below w.heap.size w w') : RefK A cap L S w' where
 under P h0 hl W hb2 := h.under P h0 hl W (below_step hb hb2)
 word o P h0 hl W hb2 := h.word o P h0 hl W (below_step hb hb2)
 isin g v W hb2 := h.isin g v W (below_step hb hb2)
 few := h.few
 short := h.short
theorem RefK.oneShort {A : Option Addr} {cap : Nat} {L : List Line} {S : List (List ByteArray)} {w : World} (h : RefK A cap L S w) (o : ByteArray) (P : List ByteArray) (ho : o.size ≤ 40) : (oneU S o P).size ≤ 40 := by
 unfold oneU
 cases hk : kw S P with
 | nil => exact ho
 | cons x l => exact h.short P x (by rw [hk]; simp)
theorem rd_ent_new (w : World) (T : TypeId) (x : Ent) : Rd (w.alloc (.cells #[.string x.host, .int .i64 x.kind, .string x.key, .string x.val] T)) 4 (some ⟨w.heap.size, 0, none⟩) 1 x.cells := by
 have := rd_ent_at w T x
 rwa [ents_one] at this
def REnd (w : World) (l : List Ent) (e : Ending) (w' : World) : Prop :=
 (∃ v, e = .returned v ∧ w'.ownsRow w.heap.size 36 4 v l.length (ents l)) ∧ Below w.heap.size w w'
set_option maxHeartbeats 8000000 in
set_option maxRecDepth 100000 in
theorem pairs_any (A : Option Addr) (cap : Nat) (L : List Line) (S : List (List ByteArray)) (h g : ByteArray) (w : World) (hN : RefK A cap L S w) :
 Calls Tryz.prog 34 #[.slice A L.length cap, .string h, .string g] w (REnd w (pairsD S h g)) := by
 obtain ⟨i0, hi, hz0, hz1, hz2⟩ := info_parts info_rent
 have HU := Lib.hid hN.under
 have HW := Lib.hid hN.word
 have HI := Lib.hid hN.isin
 have hk1 := hN.few [wVnis]
 have hk2 := hN.few [wBind]
 have hk3 := hN.few [wRoutes]
 have HSh := Lib.hid (fun P o (ho : o.size ≤ 40) => hN.oneShort o P ho)
 have HSk := Lib.hid hN.short
 have HF : Hid (pairsD S h g = netF S h g (kw S [wVnis]) ++ (kw S [wBind]).flatMap (bindD S h g) ++ (kw S [wRoutes]).flatMap (routeD S h g)) := rfl
 have HAd : Hid (addrU S g = oneU S emB [wHosts, g, wIp]) := rfl
 have HVn : Hid (∀ p, vniU S p = oneU S emB [wBind, p, wVni]) := fun _ => rfl
 have HMc : Hid (∀ p, macU S p = oneU S emB [wBind, p, wMac]) := fun _ => rfl
 have HOw : Hid (∀ p, ownU S p = oneU S emB [wBind, p, wHost]) := fun _ => rfl
 have HVia : Hid (∀ p, viaU S p = oneU S emB [wRoutes, p, wVia]) := fun _ => rfl
 have NY := Lib.hid (fun (j : Nat) (hj : j < (kw S [wVnis]).length) => netF_yes S h g hj)
 have NN := Lib.hid (fun (j : Nat) (hj : j < (kw S [wVnis]).length) => netF_no S h g hj)
 have NL := Lib.hid (netF_len S h g)
 have BA := Lib.hid (fun i => @bindD_own S h g i)
 have BO := Lib.hid (fun i => @bindD_out S h g i)
 have BS := Lib.hid (fun i => @bindD_self S h g i)
 have BF := Lib.hid (fun i => @bindD_far S h g i)
 have BL := Lib.hid (bindD_len S h g)
 have RN := Lib.hid (fun i => @routeD_no S h g i)
 have RS := Lib.hid (fun i => @routeD_self S h g i)
 have RF := Lib.hid (fun i => @routeD_far S h g i)
 have RL := Lib.hid (routeD_len S h g)
 have BSu := Lib.hid (fun (j : Nat) (hj : j < (kw S [wBind]).length) => flat_succ (bindD S h g) (kw S [wBind]) hj)
 have RSu := Lib.hid (fun (j : Nat) (hj : j < (kw S [wRoutes]).length) => flat_succ (routeD S h g) (kw S [wRoutes]) hj)
 have BSh := Lib.hid (fun (j : Nat) (hj : j < (kw S [wBind]).length) => hN.short [wBind] _ (List.getElem_mem hj))
 have ha40 : (addrU S g).size ≤ 40 := HSh.out _ emB (by decide)
 have hqhg : (h ≠ g ∧ (h.toList == g.toList) = false ∧ (g.toList == h.toList) = false ∧ ¬ h.toList = g.toList ∧ ¬ g.toList = h.toList) ∨ (h = g ∧ (h.toList == g.toList) = true ∧ (g.toList == h.toList) = true) := by
  by_cases e : h = g
  · exact .inr ⟨e, by rw [e]; exact beq_self_eq_true _, by rw [e]; exact beq_self_eq_true _⟩
  · exact .inl ⟨e, (ne_list e).1, (ne_list fun x => e x.symm).1, (ne_list e).2, (ne_list fun x => e x.symm).2⟩
 have HQ := Lib.hid hqhg
 clear hN hqhg
 generalize pairsD S h g = R at *
 generalize hK1 : kw S [wVnis] = K1 at *
 generalize hK2 : kw S [wBind] = K2 at *
 generalize hK3 : kw S [wRoutes] = K3 at *
 have HK1 := Lib.hid hK1
 have HK2 := Lib.hid hK2
 have HK3 := Lib.hid hK3
 clear hK1 hK2 hK3
 go_enter Tryz.func34, Tryz.ntmps34
 go_wp2_with fail
 refine (HW.out emB [wHosts, g, wIp] (by simp) (by simp) _ ((Below.refl _ _).alloc (Nat.le_refl _) _) _ (rd_words _ _ [wHosts, g, wIp] rfl)).mono ?_
 rw [← HAd.out]
 rintro e w1 ⟨rfl, hb1⟩
 have HB1 := Lib.hid (below_step ((Below.refl _ _).alloc (Nat.le_refl _) _) hb1)
 clear hb1
 generalize addrU S g = ad at *
 go_wp2_with fail
 refine (HU.out [wVnis] (by simp) (by simp) _ (HB1.out.alloc HB1.out.size _) _ (rd_words _ _ [wVnis] rfl)).mono ?_
 rw [HK1.out]
 unfold StrsOwn
 rintro e w2 ⟨⟨v2, rfl, hv2⟩, hb⟩
 obtain ⟨A2, c2, rfl, hc1, hc2, -, -⟩ := own_rd_nil hv2
 have HB2 := Lib.hid (below_step (HB1.out.alloc HB1.out.size _) hb)
 have HV1 := Lib.hid hv2
 clear hb hv2 HB1
 go_wp2_with fail
 go_loopw [7, 10] (fun v vi wr => ∃ j : Nat, j ≤ K1.length ∧ vi = .int .i64 j ∧ Hid (wr.ownsRow w.heap.size 36 4 v (netF S h g (K1.take j)).length (ents (netF S h g (K1.take j)))) ∧ Hid (Below w.heap.size w wr) ∧ Hid (KeepT 36 w2 wr)) (fun _ vi _ => K1.length - (intOf vi).toNat)
 case atStart => exact ⟨0, Nat.zero_le _, rfl, World.ownsRow_nil _ _ _ _, HB2.out, KeepT.refl _ _⟩
 case round =>
  obtain ⟨j, hj, rfl, HO, HB, HK⟩ := hrel
  by_cases hlt : j < K1.length
  · obtain ⟨B, rfl, hadd, hx⟩ := own_word (HK.out.own (by decide) HV1.out) rfl hlt
    have hl4 : (netF S h g (K1.take j)).length + 1 ≤ 1000000000 := by
     have := NL.out (K1.take j)
     rw [List.length_take] at this
     omega
    have hy := NY.out j hlt
    have hn := NN.out j hlt
    generalize K1[j] = v at *
    generalize hF : netF S h g (K1.take j) = F at *
    clear hF
    rcases HQ.out with ⟨h0, q1, q2, q3, q4⟩ | ⟨h0, q1, q2⟩
    · have HN0 := Lib.hid h0
      clear h0
      go_wp2_with fail
      refine (HI.out h v _ HB.out).mono ?_
      rintro e w3 ⟨rfl, hb3⟩
      have HB3 := Lib.hid (below_step HB.out hb3)
      have HO3 := Lib.hid (own_below HO.out hb3)
      have HK3 := Lib.hid (HK.out.below hb3)
      clear hb3
      cases hih : inU S h v with
      | false =>
        have HST := Lib.hid (hn (.inr (.inl hih)))
        clear hy hn hih hx
        go_wp2
        go_roundw
        case rel => exact ⟨j + 1, by omega, by go_num, by show World.ownsRow _ _ _ _ _ _ _; rw [HST.out]; exact HO3.out, HB3, HK3⟩
        case measure => simp [intOf]; omega
      | true =>
        go_wp2_with fail
        refine (HI.out g v _ HB3.out).mono ?_
        rintro e w4 ⟨rfl, hb4⟩
        have HB4 := Lib.hid (below_step HB3.out hb4)
        have HO4 := Lib.hid (own_below HO3.out hb4)
        have HK4 := Lib.hid (HK3.out.below hb4)
        clear hb4
        cases hig : inU S g v with
        | false =>
          have HST := Lib.hid (hn (.inr (.inr hig)))
          clear hy hn hih hig hx
          go_wp2
          go_roundw
          case rel => exact ⟨j + 1, by omega, by go_num, by show World.ownsRow _ _ _ _ _ _ _; rw [HST.out]; exact HO4.out, HB4, HK4⟩
          case measure => simp [intOf]; omega
        | true =>
          have HST := Lib.hid (hy HN0.out hih hig)
          clear hy hn hih hig hx
          go_wp2_with (at_builtin; refine app_typed rfl _ _ 29 rfl w _ 36 i0 _ 4 56 Tryz.underlying29 hi hz0 hz1 hz2 rfl (by decide) (by decide) HO4.out HB4.out rfl 1 1 (Ent.cells ⟨h, 1, v, ad⟩) rfl rfl (Rte.cells_one _) hl4 ?_; intro v5 w5 hown5 hb5 hk5)
          have HO5 := Lib.hid (own_push_ent hown5)
          have HB5 := Lib.hid hb5
          have HK5 := Lib.hid (HK4.out.trans hk5)
          clear hown5 hb5 hk5
          go_roundw
          case rel => exact ⟨j + 1, by omega, by go_num, by show World.ownsRow _ _ _ _ _ _ _; rw [HST.out]; exact HO5.out, HB5, HK5⟩
          case measure => simp [intOf]; omega
    · have HST := Lib.hid (hn (.inl h0))
      clear hy hn h0
      go_wp2
      go_roundw
      case rel => exact ⟨j + 1, by omega, by go_num, by show World.ownsRow _ _ _ _ _ _ _; rw [HST.out]; exact HO.out, HB, HK⟩
      case measure => simp [intOf]; omega
  · have hje : j = K1.length := by omega
    have HO0 := HO.out
    rw [hje, List.take_length] at HO0
    have HN1 := Lib.hid HO0
    have hl1 : (netF S h g K1).length ≤ 200 := Nat.le_trans (NL.out K1) hk1
    generalize netF S h g K1 = F1 at *
    clear HO HO0 NY NN NL HV1 HK
    go_wp2_with fail
    refine (HU.out [wBind] (by simp) (by simp) _ (HB.out.alloc HB.out.size _) _ (rd_words _ _ [wBind] rfl)).mono ?_
    rw [HK2.out]
    unfold StrsOwn
    rintro e w3 ⟨⟨v3, rfl, hv3⟩, hb⟩
    obtain ⟨A3, c3, rfl, hc31, hc32, -, -⟩ := own_rd_nil hv3
    have HB3 := Lib.hid (below_step (HB.out.alloc HB.out.size _) hb)
    have HO3 := Lib.hid (own_below (HN1.out.alloc _) hb)
    have HV3 := Lib.hid hv3
    clear hb hv3 HB HN1 HB2
    go_wp2_with fail
    go_loopw [7, 13] (fun v vi wr => ∃ j : Nat, j ≤ K2.length ∧ vi = .int .i64 j ∧ Hid (wr.ownsRow w.heap.size 36 4 v (F1 ++ (K2.take j).flatMap (bindD S h g)).length (ents (F1 ++ (K2.take j).flatMap (bindD S h g)))) ∧ Hid (Below w.heap.size w wr) ∧ Hid (KeepT 36 w3 wr)) (fun _ vi _ => K2.length - (intOf vi).toNat)
    case atStart => exact ⟨0, Nat.zero_le _, rfl, by rw [List.take_zero, List.flatMap_nil, List.append_nil]; exact HO3, HB3, KeepT.refl _ _⟩
    case round =>
     obtain ⟨j, hj, rfl, HO, HB, HK⟩ := hrel
     by_cases hlt : j < K2.length
     · obtain ⟨B, rfl, hadd, hx⟩ := own_word (HK.out.own (by decide) HV3.out) rfl hlt
       have hl4 : (F1 ++ (K2.take j).flatMap (bindD S h g)).length + 2 ≤ 1000000000 := by
        have := BL.out (K2.take j)
        rw [List.length_take] at this
        rw [List.length_append]
        omega
       have hsj := BSu.out j hlt
       have hp40 := BSh.out j hlt
       have hX : ∀ W, KeepT 36 w3 W → W.cell? ⟨B, j, none⟩ = some (.string K2[j]) := fun W hk => by
        obtain ⟨B', e, -, hx⟩ := own_word (hk.own (by decide) HV3.out) rfl hlt
        injection e with e
        injection e with e
        subst e
        exact hx
       generalize K2[j] = p at *
       have b1 := BA.out p
       have b2 := BO.out p
       have b3 := BS.out p
       have b4 := BF.out p
       have hvn := HVn.out p
       have hmc := HMc.out p
       have how := HOw.out p
       have hv40 : (vniU S p).size ≤ 40 := HSh.out _ emB (by decide)
       have hm40 : (macU S p).size ≤ 40 := HSh.out _ emB (by decide)
       generalize bindD S h g p = bp at *
       generalize vniU S p = vn at *
       generalize macU S p = mc at *
       generalize ownU S p = ow at *
       have hsj2 : F1 ++ (K2.take (j + 1)).flatMap (bindD S h g) = (F1 ++ (K2.take j).flatMap (bindD S h g)) ++ bp := by rw [hsj, List.append_assoc]
       generalize hF : F1 ++ (K2.take j).flatMap (bindD S h g) = F at *
       have HVN := Lib.hid hvn
       have HMC := Lib.hid hmc
       have HOW := Lib.hid how
       have HSJ := Lib.hid hsj2
       clear hvn hmc how hF hsj hsj2
       have HX := Lib.hid hX
       clear hX
       go_wp2_with fail
       refine (HW.out emB [wBind, p, wVni] (by simp) (by simp) _ (HB.out.alloc HB.out.size _) _ (rd_words _ _ [wBind, p, wVni] rfl)).mono ?_
       rw [← HVN.out]
       rintro e w4 ⟨rfl, hb4⟩
       have HB4 := Lib.hid (below_step (HB.out.alloc HB.out.size _) hb4)
       have HO4 := Lib.hid (own_below (HO.out.alloc _) hb4)
       have HK4 := Lib.hid ((HK.out.alloc _).below hb4)
       clear hb4
       have hx := HX.out _ HK4.out
       go_wp2_with fail
       refine (HW.out emB [wBind, p, wMac] (by simp) (by simp) _ (HB4.out.alloc HB4.out.size _) _ (rd_words _ _ [wBind, p, wMac] rfl)).mono ?_
       rw [← HMC.out]
       rintro e w5 ⟨rfl, hb5⟩
       have HB5 := Lib.hid (below_step (HB4.out.alloc HB4.out.size _) hb5)
       have HO5 := Lib.hid (own_below (HO4.out.alloc _) hb5)
       have HK5 := Lib.hid ((HK4.out.alloc _).below hb5)
       clear hb5
       have hx := HX.out _ HK5.out
       go_wp2_with fail
       refine (HW.out emB [wBind, p, wHost] (by simp) (by simp) _ (HB5.out.alloc HB5.out.size _) _ (rd_words _ _ [wBind, p, wHost] rfl)).mono ?_
       rw [← HOW.out]
       rintro e w6 ⟨rfl, hb6⟩
       have HB6 := Lib.hid (below_step (HB5.out.alloc HB5.out.size _) hb6)
       have HO6 := Lib.hid (own_below (HO5.out.alloc _) hb6)
       have HK6 := Lib.hid ((HK5.out.alloc _).below hb6)
       clear hb6
       have hx := HX.out _ HK6.out
       by_cases hog : ow = g
       · have qo : (ow.toList == g.toList) = true := by rw [hog]; exact beq_self_eq_true _
         have b2 := b2
         have HOG := Lib.hid hog
         clear hog b1
         have HB3' := Lib.hid b3
         have HB4' := Lib.hid b4
         have HB2' := Lib.hid b2
         clear b2 b3 b4
         go_wp2_with fail
         refine (HI.out h vn _ HB6.out).mono ?_
         rintro e w7 ⟨rfl, hb7⟩
         have HB7 := Lib.hid (below_step HB6.out hb7)
         have HO7 := Lib.hid (own_below HO6.out hb7)
         have HK7 := Lib.hid (HK6.out.below hb7)
         clear hb7
         have hx := HX.out _ HK7.out
         cases hin : inU S h vn with
         | false =>
           have HST : Hid (F1 ++ (K2.take (j + 1)).flatMap (bindD S h g) = F) := by show _ = _; rw [HSJ.out, HB2'.out hin, List.append_nil]
           clear hin hx
           go_wp2
           go_roundw
           case rel => exact ⟨j + 1, by omega, by go_num, by show World.ownsRow _ _ _ _ _ _ _; rw [HST.out]; exact HO7.out, HB7, HK7⟩
           case measure => simp [intOf]; omega
         | true =>
           have hl5 : F.length + 1 ≤ 1000000000 := by omega
           have hl6 : (F ++ [(⟨h, 2, spB vn p, mc⟩ : Ent)]).length + 1 ≤ 1000000000 := by rw [List.length_append, List.length_singleton]; omega
           rcases HQ.out with ⟨h0, q1, q2, q3, q4⟩ | ⟨h0, q1, q2⟩
           · have HST : Hid (F1 ++ (K2.take (j + 1)).flatMap (bindD S h g) = (F ++ [⟨h, 2, spB vn p, mc⟩]) ++ [⟨h, 3, spB vn mc, ad⟩]) := by show _ = _; rw [HSJ.out, HB4'.out HOG.out hin (fun e => h0 e.symm), List.append_assoc]
             clear hin h0
             go_wp2_with (at_builtin; first | (refine app_typed rfl _ _ 29 rfl w _ 36 i0 _ 4 56 Tryz.underlying29 hi hz0 hz1 hz2 rfl (by decide) (by decide) HO7.out HB7.out rfl 1 1 (Ent.cells ⟨h, 2, spB vn p, mc⟩) rfl rfl (Rte.cells_one _) hl5 ?_; intro v8 w8 hown8 hb8 hk8; have HO8 := Lib.hid (own_push_ent hown8); have HB8 := Lib.hid hb8; have HK8 := Lib.hid (HK7.out.trans hk8); clear hown8 hb8 hk8) | (refine app_typed rfl _ _ 29 rfl w _ 36 i0 _ 4 56 Tryz.underlying29 hi hz0 hz1 hz2 rfl (by decide) (by decide) HO8.out HB8.out rfl 1 1 (Ent.cells ⟨h, 3, spB vn mc, ad⟩) rfl rfl (Rte.cells_one _) hl6 ?_; intro v9 w9 hown9 hb9 hk9))
             have HO9 := Lib.hid (own_push_ent hown9)
             have HB9 := Lib.hid hb9
             have HK9 := Lib.hid (HK8.out.trans hk9)
             clear hown9 hb9 hk9
             go_roundw
             case rel => exact ⟨j + 1, by omega, by go_num, by show World.ownsRow _ _ _ _ _ _ _; rw [HST.out]; exact HO9.out, HB9, HK9⟩
             case measure => simp [intOf]; omega
           · have HST : Hid (F1 ++ (K2.take (j + 1)).flatMap (bindD S h g) = F ++ [⟨h, 2, spB vn p, mc⟩]) := by show _ = _; rw [HSJ.out, HB3'.out HOG.out hin h0.symm]
             clear hin h0
             go_wp2_with (at_builtin; refine app_typed rfl _ _ 29 rfl w _ 36 i0 _ 4 56 Tryz.underlying29 hi hz0 hz1 hz2 rfl (by decide) (by decide) HO7.out HB7.out rfl 1 1 (Ent.cells ⟨h, 2, spB vn p, mc⟩) rfl rfl (Rte.cells_one _) hl5 ?_; intro v8 w8 hown8 hb8 hk8)
             have HO8 := Lib.hid (own_push_ent hown8)
             have HB8 := Lib.hid hb8
             have HK8 := Lib.hid (HK7.out.trans hk8)
             clear hown8 hb8 hk8
             go_roundw
             case rel => exact ⟨j + 1, by omega, by go_num, by show World.ownsRow _ _ _ _ _ _ _; rw [HST.out]; exact HO8.out, HB8, HK8⟩
             case measure => simp [intOf]; omega
       · have HST : Hid (F1 ++ (K2.take (j + 1)).flatMap (bindD S h g) = F) := by show _ = _; rw [HSJ.out, b1 hog, List.append_nil]
         obtain ⟨qo, qo'⟩ := ne_list hog
         clear b1 b2 b3 b4 hog hx
         go_wp2
         go_roundw
         case rel => exact ⟨j + 1, by omega, by go_num, by show World.ownsRow _ _ _ _ _ _ _; rw [HST.out]; exact HO6.out, HB6, HK6⟩
         case measure => simp [intOf]; omega
     · have hje : j = K2.length := by omega
       have HO0 := HO.out
       rw [hje, List.take_length] at HO0
       have HN1 := Lib.hid HO0
       have hl2 : (F1 ++ K2.flatMap (bindD S h g)).length ≤ 600 := by
        have := BL.out K2
        rw [List.length_append]; omega
       generalize F1 ++ K2.flatMap (bindD S h g) = F12 at *
       clear HO HO0 BA BO BS BF BL BSu BSh HV3 HK HO3 HVn HMc HOw
       go_wp2_with fail
       refine (HU.out [wRoutes] (by simp) (by simp) _ (HB.out.alloc HB.out.size _) _ (rd_words _ _ [wRoutes] rfl)).mono ?_
       rw [HK3.out]
       unfold StrsOwn
       rintro e w4 ⟨⟨v4, rfl, hv4⟩, hb⟩
       obtain ⟨A4, c4, rfl, hc41, hc42, -, -⟩ := own_rd_nil hv4
       have HB4 := Lib.hid (below_step (HB.out.alloc HB.out.size _) hb)
       have HO4 := Lib.hid (own_below (HN1.out.alloc _) hb)
       have HV4 := Lib.hid hv4
       clear hb hv4 HB HN1 HB3
       go_wp2_with fail
       go_loopw [7, 16] (fun v vi wr => ∃ j : Nat, j ≤ K3.length ∧ vi = .int .i64 j ∧ Hid (wr.ownsRow w.heap.size 36 4 v (F12 ++ (K3.take j).flatMap (routeD S h g)).length (ents (F12 ++ (K3.take j).flatMap (routeD S h g)))) ∧ Hid (Below w.heap.size w wr) ∧ Hid (KeepT 36 w4 wr)) (fun _ vi _ => K3.length - (intOf vi).toNat)
       case atStart => exact ⟨0, Nat.zero_le _, rfl, by rw [List.take_zero, List.flatMap_nil, List.append_nil]; exact HO4, HB4, KeepT.refl _ _⟩
       case round =>
        obtain ⟨j, hj, rfl, HO, HB, HK⟩ := hrel
        by_cases hlt : j < K3.length
        · obtain ⟨B, rfl, hadd, hx⟩ := own_word (HK.out.own (by decide) HV4.out) rfl hlt
          have hX : ∀ W, KeepT 36 w4 W → W.cell? ⟨B, j, none⟩ = some (.string K3[j]) := fun W hk => by
           obtain ⟨B', e, -, hx⟩ := own_word (hk.own (by decide) HV4.out) rfl hlt
           injection e with e
           injection e with e
           subst e
           exact hx
          have hl4 : (F12 ++ (K3.take j).flatMap (routeD S h g)).length + 1 ≤ 1000000000 := by
           have := RL.out (K3.take j)
           rw [List.length_take] at this
           rw [List.length_append]
           omega
          have hsj := RSu.out j hlt
          generalize K3[j] = p at *
          have b1 := RN.out p
          have b3 := RS.out p
          have b4 := RF.out p
          have hvia := HVia.out p
          have hm40 := HSh.out [wRoutes, p, wMetric] wZero (by decide)
          generalize routeD S h g p = bp at *
          generalize viaU S p = vi at *
          generalize hm : oneU S wZero [wRoutes, p, wMetric] = m at *
          have hsj2 : F12 ++ (K3.take (j + 1)).flatMap (routeD S h g) = (F12 ++ (K3.take j).flatMap (routeD S h g)) ++ bp := by rw [hsj, List.append_assoc]
          generalize hF : F12 ++ (K3.take j).flatMap (routeD S h g) = F at *
          have HVI := Lib.hid hvia
          have HM := Lib.hid hm
          have HSJ := Lib.hid hsj2
          have HX := Lib.hid hX
          clear hvia hm hF hsj hsj2 hX
          go_wp2_with fail
          refine (HW.out emB [wRoutes, p, wVia] (by simp) (by simp) _ (HB.out.alloc HB.out.size _) _ (rd_words _ _ [wRoutes, p, wVia] rfl)).mono ?_
          rw [← HVI.out]
          rintro e w5 ⟨rfl, hb5⟩
          have HB5 := Lib.hid (below_step (HB.out.alloc HB.out.size _) hb5)
          have HO5 := Lib.hid (own_below (HO.out.alloc _) hb5)
          have HK5 := Lib.hid ((HK.out.alloc _).below hb5)
          clear hb5
          have hs1 : ¬ (9223372036854775807 < ad.size + 1) := by omega
          have hs2 : ¬ (9223372036854775807 < ad.size + 1 + m.size) := by omega
          have hs3 : ¬ (9223372036854775807 < 6 + m.size) := by omega
          have hs4 : ¬ (9223372036854775807 < 5 + 1 + m.size) := by omega
          have hx := HX.out _ HK5.out
          have HKp : Hid (∀ o1, (w5.alloc o1).drew.cell? ⟨B, j, none⟩ = some (.string p)) := fun o1 => HX.out _ (HK5.out.below (below_d1 _ o1))
          by_cases hvg : vi = g
          · have qv : (vi.toList == g.toList) = true := by rw [hvg]; exact beq_self_eq_true _
            have HVG := Lib.hid hvg
            have b3' := Lib.hid b3
            have b4' := Lib.hid b4
            clear hvg b1 b3 b4
            rcases HQ.out with ⟨h0, q1, q2, q3, q4⟩ | ⟨h0, q1, q2⟩
            · have HST : Hid (F12 ++ (K3.take (j + 1)).flatMap (routeD S h g) = F ++ [⟨h, 4, p, spB ad m⟩]) := by show _ = _; rw [HSJ.out, b4'.out HVG.out (fun e => h0 e.symm)]
              clear h0
              go_upto_region 28 with fail
              go_region_held3 (fun W => W.cell? ⟨B, j, none⟩ = some (.string p)) (first | exact x10 | exact x6 | exact HKp.out _ | exact hx | go_keep) (first | (go_at_call 35; refine (HW.out wZero [wRoutes, p, wMetric] (by simp) (by simp) _ (below_step HB5.out (by first | with_reducible exact below_d1 _ _ | with_reducible exact below_d2 _ _ _)) _ ?hpw).mono ?_; (case hpw => repeat (first | ((with_reducible refine rd_words _ _ [wRoutes, p, wMetric] ?_); rfl) | ((with_reducible refine rd_words2 _ _ _ [wRoutes, p, wMetric] ?_); rfl) | with_reducible refine Rd.drew ?_ | with_reducible refine Rd.alloc ?_ _)); rw [HM.out]; rintro e w6 ⟨rfl, hb6⟩; have HB56 : Hid (Below w5.heap.size w5 w6) := below_step (by first | with_reducible exact below_d1 _ _ | with_reducible exact below_d2 _ _ _) hb6; have HB6 := Lib.hid (below_step HB5.out HB56.out); have HO6 := Lib.hid (own_below HO5.out HB56.out); have HK6 := Lib.hid (HK5.out.below HB56.out); have x6 := HX.out _ HK6.out; clear hb6) | (refine step_typedA rfl _ _ 29 rfl w _ 36 i0 _ 4 56 Tryz.underlying29 hi hz0 hz1 hz2 rfl (by decide) (by decide) (HO6.out.alloc _) (HB6.out.alloc HB6.out.size _) (by rfl) (some ⟨w6.heap.size, 0, none⟩) 1 1 (Ent.cells ⟨h, 4, p, spB ad m⟩) rfl (rd_ent_new _ _ _) (fun h => by cases h) (Rte.cells_one _) hl4 ?_; intro v10 w10 hown10 hb10 hk10; have x10 := HX.out _ ((HK6.out.alloc _).trans hk10)))
              all_goals
               have HO10 := Lib.hid (own_push_ent hown10)
               have HB10 := Lib.hid hb10
               have HK10 := Lib.hid ((HK6.out.alloc _).trans hk10)
               clear hown10 hb10 hk10 x10 x6 hx
               go_wp2_with fail
               go_roundw
               case rel => exact ⟨j + 1, by omega, by go_num, by show World.ownsRow _ _ _ _ _ _ _; rw [HST.out]; exact HO10.out, HB10, HK10⟩
               case measure => simp [intOf]; omega
            · have HST : Hid (F12 ++ (K3.take (j + 1)).flatMap (routeD S h g) = F ++ [⟨h, 4, p, spB wLocal m⟩]) := by show _ = _; rw [HSJ.out, b3'.out HVG.out h0.symm]
              clear h0
              go_upto_region 28 with fail
              go_region_held3 (fun W => W.cell? ⟨B, j, none⟩ = some (.string p)) (first | exact x10 | exact x6 | exact HKp.out _ | exact hx | go_keep) (first | (go_at_call 35; refine (HW.out wZero [wRoutes, p, wMetric] (by simp) (by simp) _ (below_step HB5.out (by first | with_reducible exact below_d1 _ _ | with_reducible exact below_d2 _ _ _)) _ ?hpw).mono ?_; (case hpw => repeat (first | ((with_reducible refine rd_words _ _ [wRoutes, p, wMetric] ?_); rfl) | ((with_reducible refine rd_words2 _ _ _ [wRoutes, p, wMetric] ?_); rfl) | with_reducible refine Rd.drew ?_ | with_reducible refine Rd.alloc ?_ _)); rw [HM.out]; rintro e w6 ⟨rfl, hb6⟩; have HB56 : Hid (Below w5.heap.size w5 w6) := below_step (by first | with_reducible exact below_d1 _ _ | with_reducible exact below_d2 _ _ _) hb6; have HB6 := Lib.hid (below_step HB5.out HB56.out); have HO6 := Lib.hid (own_below HO5.out HB56.out); have HK6 := Lib.hid (HK5.out.below HB56.out); have x6 := HX.out _ HK6.out; clear hb6) | (refine step_typedA rfl _ _ 29 rfl w _ 36 i0 _ 4 56 Tryz.underlying29 hi hz0 hz1 hz2 rfl (by decide) (by decide) (HO6.out.alloc _) (HB6.out.alloc HB6.out.size _) (by rfl) (some ⟨w6.heap.size, 0, none⟩) 1 1 (Ent.cells ⟨h, 4, p, spB wLocal m⟩) rfl (rd_ent_new _ _ _) (fun h => by cases h) (Rte.cells_one _) hl4 ?_; intro v10 w10 hown10 hb10 hk10; have x10 := HX.out _ ((HK6.out.alloc _).trans hk10)))
              all_goals
               have HO10 := Lib.hid (own_push_ent hown10)
               have HB10 := Lib.hid hb10
               have HK10 := Lib.hid ((HK6.out.alloc _).trans hk10)
               clear hown10 hb10 hk10 x10 x6 hx
               go_wp2_with fail
               go_roundw
               case rel => exact ⟨j + 1, by omega, by go_num, by show World.ownsRow _ _ _ _ _ _ _; rw [HST.out]; exact HO10.out, HB10, HK10⟩
               case measure => simp [intOf]; omega
          · have HST : Hid (F12 ++ (K3.take (j + 1)).flatMap (routeD S h g) = F) := by show _ = _; rw [HSJ.out, b1 hvg, List.append_nil]
            obtain ⟨qo, qo'⟩ := ne_list hvg
            clear b1 b3 b4 hvg hx
            go_wp2
            go_roundw
            case rel => exact ⟨j + 1, by omega, by go_num, by show World.ownsRow _ _ _ _ _ _ _; rw [HST.out]; exact HO5.out, HB5, HK5⟩
            case measure => simp [intOf]; omega
        · have hje : j = K3.length := by omega
          have HO0 := HO.out
          rw [hje, List.take_length, ← HF.out] at HO0
          have HOE := Lib.hid HO0
          clear HO HO0
          go_wp2
          go_ret
          exact ⟨⟨_, rfl, HOE.out⟩, HB.out⟩
end Go.Proofs.YtjdknhalcpkeaaaGreatDoor
