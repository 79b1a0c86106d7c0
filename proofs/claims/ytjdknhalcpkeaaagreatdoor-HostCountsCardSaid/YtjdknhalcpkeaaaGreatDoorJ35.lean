/- A walk: host.Compile. Plain: layer 14's fixed answer. -/
import Derived.Deep.RegionHeld3
import Derived.Test.YtjdknhalcpkeaaaGreatDoorJ33
import Derived.Test.YtjdknhalcpkeaaaGreatDoorJ34
import Derived.Test.YtjdknhalcpkeaaaGreatDoorJ22
import Derived.Test.YtjdknhalcpkeaaaGreatDoorJ29
namespace Hst
open Go Go.Lib Rte Sch Tre
theorem hostU_flat (S : List (List ByteArray)) (h : ByteArray) : hostU S h = [floodsU S h, bindingsU S h, routesU S h, polsU S h].flatten := by
 unfold hostU
 simp [List.append_assoc]
theorem host_len (S : List (List ByteArray)) (h : ByteArray) (hf : ∀ P, (kw S P).length ≤ 200) : (hostU S h).length ≤ 41000 := by
 have h1 : (floodsU S h).length ≤ 40000 := by
  have := flTo_len S h (kw S [wHosts, h, wVnis])
  rw [floods_to]
  exact Nat.le_trans this (Nat.le_trans (Nat.mul_le_mul (hf _) (hf _)) (by decide))
 have h2 : (bindingsU S h).length ≤ 400 := by
  have := bind_len S h (kw S [wBind])
  have := hf [wBind]
  unfold bindingsU; omega
 have h3 : (routesU S h).length ≤ 200 := by unfold routesU; rw [List.length_map]; exact hf _
 have h4 : (polsU S h).length ≤ 200 := by unfold polsU; rw [List.length_map]; exact hf _
 unfold hostU
 rw [List.length_append, List.length_append, List.length_append]
 omega
theorem all_len (S : List (List ByteArray)) (hf : ∀ P, (kw S P).length ≤ 200) : ∀ (I : List ByteArray), (I.flatMap (hostU S)).length ≤ 41000 * I.length
 | [] => by simp
 | h :: I => by
   have := all_len S hf I
   have := host_len S h hf
   rw [List.flatMap_cons, List.length_append, List.length_cons]
   omega
end Hst
namespace Go.Proofs.YtjdknhalcpkeaaaGreatDoor
open Go Go.RowKit Go.Sort Rte Sch Tre Hst
def CompileEnd (L : List Line) (w : World) (e : Ending) (w' : World) : Prop :=
 (rightB L = false ∧ e = .returned (.tuple #[.slice none 0 0, .int .i64 1]) ∧ Below w.heap.size w w') ∨
 (rightB L = true ∧ checkB L ≠ [] ∧ e = .returned (.tuple #[.slice none 0 0, .int .i64 7]) ∧ Below w.heap.size w w') ∨
 (rightB L = true ∧ checkB L = [] ∧ ∃ A c, e = .returned (.tuple #[.slice A (setE (allU (paths L))).length c, .int .i64 0]) ∧ (setE (allU (paths L))).length ≤ c ∧ c ≤ maxLen ∧ Rd w' 4 A (setE (allU (paths L))).length (ents (setE (allU (paths L)))) ∧ (A = none → c = 0) ∧ Below w.heap.size w w')
set_option maxHeartbeats 2000000 in
set_option maxRecDepth 100000 in
theorem compile_no (A : Option Addr) (cap : Nat) (L : List Line) (w : World) (_ : Env w) (hR : Rd w 3 A L.length (lines L)) (hcap : L.length ≤ cap) (hc : cap ≤ maxLen) (hr : rightB L = false) :
 Calls Tryz.prog 11 #[.slice A L.length cap] w (CompileEnd L w) := by
 have HC := Lib.hid (check_no A cap L w hR hcap hc hr)
 have HR := Lib.hid hr
 clear hR hr
 go_enter Tryz.func11, Tryz.ntmps11
 go_wp2_with fail
 refine HC.out.mono ?_
 rintro e w1 ⟨rfl, hb1⟩
 go_wp2_with fail
 refine bodyPost_ret (results_tmp2 rfl _ _ _) rfl ?_
 exact .inl ⟨HR.out, rfl, hb1⟩
theorem pl_len {w : World} {base k : Nat} {T : TypeId} {v : Value} {xs : List Item} (h : Pl w base T k v xs) : ∃ A c, v = .slice A xs.length c := by
 obtain ⟨A5, c5, rfl, -, -, -, -⟩ := h.read
 exact ⟨_, _, rfl⟩
set_option maxHeartbeats 2000000 in
set_option maxRecDepth 100000 in
theorem compile_faults (A : Option Addr) (cap : Nat) (L : List Line) (w : World) (hE : Env w) (hR : Rd w 3 A L.length (lines L)) (hcap : L.length ≤ cap) (hc : cap ≤ maxLen) (hr : rightB L = true) (hf : checkB L ≠ []) :
 Calls Tryz.prog 11 #[.slice A L.length cap] w (CompileEnd L w) := by
 have HC := Lib.hid (check_yes A cap L w hE hR hcap hc hr)
 have HR := Lib.hid (And.intro hr hf)
 have hn : 0 < ((checkB L).map fitem).length := by
  rw [List.length_map]
  cases h : checkB L with
  | nil => exact absurd h hf
  | cons a l => simp
 clear hR hE hr hf
 go_enter Tryz.func11, Tryz.ntmps11
 go_wp2_with fail
 refine HC.out.mono ?_
 rintro e w1 ⟨⟨v, rfl, hv⟩, hb1⟩
 obtain ⟨A1, c1, rfl⟩ := pl_len hv
 clear hv
 generalize ((checkB L).map fitem).length = n at *
 go_wp2_with fail
 refine bodyPost_ret (results_tmp2 rfl _ _ _) rfl ?_
 exact .inr (.inl ⟨HR.out.1, HR.out.2, rfl, hb1⟩)
theorem step_typedA {P : Program} {ops : Array Oper} {o : Oper} {a : Act} {K : Act → World → Prop} {Q : Exit → Act → World → Prop} {E : Prop} (hgd : o.guard = none) (s x : Operand) (t : TypeId)
 (ho : o.op = .call { callee := .builtin .append, args := #[s, x], argTypes := #[t, t] })
 (w0 wr : World) (e : TypeId) (i : TypeInfo) (z : Value) (size bytes : Nat) (ht : P.underlying t = some (.slice e)) (hi : P.info? e = some i) (hz : i.zero = some z)
 (hsize : i.size = size) (hby : i.bytes = bytes) (hzs : z.cells.size = size) (hsz : 0 < size) (hb64 : bytes ≤ 64)
 {v : Value} {n : Nat} {xs : List Value} (hown : wr.ownsRow w0.heap.size e size v n xs) (hb : Below w0.heap.size w0 wr) (hs : a.eval s = v)
 (A : Option Addr) (m c : Nat) (news : List Value) (hx : a.eval x = .slice A m c) (hR : Rd wr size A m news) (hnil : A = none → c = 0) (h1 : ∀ u ∈ news, u.oneCell' = true)
 (hN : n + m ≤ 1000000000)
 (h : ∀ v' w', w'.ownsRow w0.heap.size e size v' (n + m) (xs ++ news) → Below w0.heap.size w0 w' → KeepT e wr w' → K (a.put o.dst v') w') :
 if Region.wanted o (yielded ops a.tmps) = true then Oper.wp P o a wr K Q else E := by
 have hw : Region.wanted o (yielded ops a.tmps) = true := by simp [Region.wanted, hgd]
 have hbytes : (n + m) * bytes ≤ 140737488355328 := Nat.le_trans (Nat.mul_le_mul hN hb64) (by decide)
 rw [if_pos hw]
 rcases A with _ | ad
 · have hm : m = 0 := by
    rcases Nat.eq_zero_or_pos m with h0 | h0
    · exact h0
    · obtain ⟨ad, h, -⟩ := hR.2 h0
      cases h
   subst hm
   have hn : news = [] := List.eq_nil_of_length_eq_zero (by simpa using hR.1)
   subst hn
   obtain rfl := hnil rfl
   have hrun := run_append_owned_none (P := P) (w := wr) w0.heap.size t o.type e i size ht hi v n xs hown
   unfold Oper.wp
   simp [execOp, ho, resolve, invoke, builtin, hs, hx, hrun, Result.andThen]
   exact h v wr (by simpa using hown) hb (KeepT.refl _ _)
 · exact wp_append_own wr s x t ho w0.heap.size e i z size bytes ht hi hz hsize hby hzs hsz v n xs hs hown ad m c news hx hR.1 (fun j u hu => by
    obtain ⟨ad', e', -, hc⟩ := hR.cell hu
    injection e' with e'
    subst e'
    exact hc) h1 (by unfold maxLen; omega) hbytes hb.size
    fun v' w' hown' hg _ => h v' w' hown' (hb.grown hg hb.size fun q hq => (hown.lt q hq).1) (KeepT.grown hown hg)
theorem lv_four {W : World} {b1 b2 b3 b4 c1 c2 c3 c4 : Nat} {A1 A2 A3 A4 : Option Addr} {l1 l2 l3 l4 : List Ent} {T : TypeId} (h1 : W.ownsRow b1 T 4 (.slice A1 l1.length c1) l1.length (ents l1)) (h2 : W.ownsRow b2 T 4 (.slice A2 l2.length c2) l2.length (ents l2))
 (h3 : W.ownsRow b3 T 4 (.slice A3 l3.length c3) l3.length (ents l3)) (h4 : W.ownsRow b4 T 4 (.slice A4 l4.length c4) l4.length (ents l4)) :
 Lv W [.slice A1 l1.length c1, .slice A2 l2.length c2, .slice A3 l3.length c3, .slice A4 l4.length c4] [l1, l2, l3, l4] := by
 have one : ∀ {b c : Nat} {A : Option Addr} {l : List Ent}, W.ownsRow b T 4 (.slice A l.length c) l.length (ents l) → ∃ A' c', Value.slice A l.length c = .slice A' l.length c' ∧ l.length ≤ c' ∧ c' ≤ maxLen ∧ Rd W 4 A' l.length (ents l) ∧ (A' = none → c' = 0) := fun h => by
  obtain ⟨A', c', e, g1, g2, g3, g4, -⟩ := own_rd_nil h
  exact ⟨A', c', e, g1, g2, g3, g4⟩
 refine ⟨rfl, fun i h hv => ?_⟩
 match i, h with
 | 0, _ => exact one h1
 | 1, _ => exact one h2
 | 2, _ => exact one h3
 | 3, _ => exact one h4
set_option maxHeartbeats 4000000 in
set_option maxRecDepth 100000 in
theorem compile_yes (A : Option Addr) (cap : Nat) (L : List Line) (w : World) (hE : Env w) (hR : Rd w 3 A L.length (lines L)) (hcap : L.length ≤ cap) (hc : cap ≤ maxLen) (hr : rightB L = true) (hf : checkB L = []) :
 Calls Tryz.prog 11 #[.slice A L.length cap] w (CompileEnd L w) := by
 obtain ⟨i0, hi, hz0, hz1, hz2⟩ := info_parts info_ent
 have hN := netK A cap L w hR hcap hc hr
 have HC := check_yes A cap L w hE hR hcap hc hr
 rw [hf] at HC
 have HCk := Lib.hid HC
 clear HC
 have HR0 := Lib.hid (And.intro hr hf)
 have hS40 : ∀ i ∈ kw (paths L) [wBind], i.size ≤ 40 := fun i h => kw_short hr h
 have HN := Lib.hid hN
 have HFl := Lib.hid (fun h W (hb : Below w.heap.size w W) => floods_any A cap L (paths L) h W (hN.later hb))
 have HBi := Lib.hid (fun h W (hb : Below w.heap.size w W) => bindings_any A cap L (paths L) h W (hN.later hb) hS40)
 have HRo := Lib.hid (fun h W (hb : Below w.heap.size w W) => routes_any A cap L (paths L) h W (hN.later hb))
 have HPo := Lib.hid (fun h W (hb : Below w.heap.size w W) => policies_any A cap L (paths L) h W (hN.later hb))
 unfold netV at HFl HBi HRo HPo
 have HU := Lib.hid hN.under
 have HHL := Lib.hid (fun h => host_len (paths L) h hN.few)
 have HAL := Lib.hid (all_len (paths L) hN.few)
 have HHF := Lib.hid (hostU_flat (paths L))
 have hk1 := hN.few [wHosts]
 have HALL : Hid (allU (paths L) = (kw (paths L) [wHosts]).flatMap (hostU (paths L))) := rfl
 unfold CompileEnd
 generalize paths L = S at *
 generalize hK1 : kw S [wHosts] = K1 at *
 have HK1 := Lib.hid hK1
 generalize allU S = T at *
 have HSucc := Lib.hid (fun (j : Nat) (hj : j < K1.length) => flat_succ (hostU S) K1 hj)
 clear hE hR hr hf hN hS40 hK1
 go_enter Tryz.func11, Tryz.ntmps11
 go_wp2_with fail
 refine HCk.out.mono ?_
 rintro e w1 ⟨⟨v, rfl, hv⟩, hb1⟩
 obtain ⟨A1, c1, rfl⟩ := pl_len hv
 have HB1 := Lib.hid hb1
 clear hv hb1
 obtain ⟨wb, hwb⟩ : ∃ wb, w1.heap.size = wb := ⟨_, rfl⟩
 obtain ⟨wn, hwn⟩ : ∃ wn, w1.alloc (.cells #[.slice A L.length cap] 59) = wn := ⟨_, rfl⟩
 have Xn : Hid (Nc wn wb A L.length cap) := by show Nc _ _ _ _ _; rw [← hwn, ← hwb]; exact heap_alloc_new w1 _
 have HBn : Hid (Below w.heap.size w wn) := by show Below _ _ _; rw [← hwn]; exact HB1.out.alloc HB1.out.size _
 go_wp2_with fail
 refine (HU.out [wHosts] (by simp) (by simp) _ (HBn.out.alloc HBn.out.size _) _ (rd_words _ _ [wHosts] rfl)).mono ?_
 rw [HK1.out]
 unfold StrsOwn
 rintro e w2 ⟨⟨v2, rfl, hv2⟩, hb⟩
 obtain ⟨A2, c2, rfl, hc1, hc2, -, -⟩ := own_rd_nil hv2
 have HB2 := Lib.hid (below_step (HBn.out.alloc HBn.out.size _) hb)
 have HV1 := Lib.hid hv2
 have X2 := Lib.hid ((Xn.out.alloc _).below hb)
 clear hb hv2 hwb hwn Xn HBn HB1 HCk
 go_wp2
 go_loopw [7, 29] (fun v vi wr => ∃ j : Nat, j ≤ K1.length ∧ vi = .int .i64 j ∧ Hid (wr.ownsRow w.heap.size 35 4 v ((K1.take j).flatMap (hostU S)).length (ents ((K1.take j).flatMap (hostU S)))) ∧ Hid (Below w.heap.size w wr) ∧ Hid (KeepT 35 w2 wr)) (fun _ vi _ => K1.length - (intOf vi).toNat)
 case atStart => exact ⟨0, Nat.zero_le _, rfl, World.ownsRow_nil _ _ _ _, HB2.out, KeepT.refl _ _⟩
 case round =>
  obtain ⟨j, hj, rfl, HO, HB, HK⟩ := hrel
  by_cases hlt : j < K1.length
  · obtain ⟨B, rfl, hadd, hx⟩ := own_word (HK.out.own (by decide) HV1.out) rfl hlt
    have X3 := Lib.hid (X2.out.keep HK.out (by decide))
    have x3 := X3.out.cell
    have hsj := HSucc.out j hlt
    have hhl := HHL.out K1[j]
    have hfl : ((K1.take j).flatMap (hostU S)).length ≤ 8200000 := by
     have := HAL.out (K1.take j)
     rw [List.length_take] at this
     omega
    have hhf := HHF.out K1[j]
    generalize K1[j] = h at *
    generalize hF : (K1.take j).flatMap (hostU S) = F at *
    have HSj := Lib.hid hsj
    have HHf := Lib.hid hhf
    have hlen9 : F.length + (hostU S h).length ≤ 1000000000 := by omega
    have hcat : [floodsU S h, bindingsU S h, routesU S h, polsU S h].flatten.length ≤ 1000000 := by rw [← hhf]; omega
    have HBd := Lib.hid (HB.out.drew)
    clear hsj hhf hF hhl
    generalize hostU S h = HU0 at *
    generalize hl1 : floodsU S h = l1 at *
    generalize hl2 : bindingsU S h = l2 at *
    generalize hl3 : routesU S h = l3 at *
    generalize hl4 : polsU S h = l4 at *
    have HL1 := Lib.hid hl1
    have HL2 := Lib.hid hl2
    have HL3 := Lib.hid hl3
    have HL4 := Lib.hid hl4
    clear hl1 hl2 hl3 hl4
    go_upto_region 11 with fail
    go_region_held3 (fun W => W.cell? ⟨wb, 0, none⟩ = some (.slice A L.length cap)) (first | go_keep | exact x10 | exact x9 | exact x7 | exact x6 | exact x5 | exact x4) (first | (go_at_call 29; refine (HFl.out h _ HBd.out).mono ?_; unfold EntsEnd; rw [HL1.out]; rintro e w4 ⟨⟨v4, rfl, hv4⟩, hb4⟩; obtain ⟨A4, c4, rfl, -, -, -, -⟩ := own_rd_nil hv4; have HB4 := Lib.hid (below_step HBd.out hb4); have HO4 := Lib.hid (own_below HO.out.drew hb4); have HK4 := Lib.hid (HK.out.below ((Below.refl _ _).drew.trans hb4)); have X4 := Lib.hid (X3.out.below ((Below.refl _ _).drew.trans hb4)); have x4 := X4.out.cell; have HA4 := Lib.hid hv4; clear hb4 hv4) | (go_at_call 30; refine (HBi.out h _ HB4.out).mono ?_; unfold EntsEnd; rw [HL2.out]; rintro e w5 ⟨⟨v5, rfl, hv5⟩, hb5⟩; obtain ⟨A5, c5, rfl, -, -, -, -⟩ := own_rd_nil hv5; have HB5 := Lib.hid (below_step HB4.out hb5); have HO5 := Lib.hid (own_below HO4.out hb5); have HK5 := Lib.hid (HK4.out.below hb5); have X5 := Lib.hid (X4.out.below hb5); have x5 := X5.out.cell; have HA5 := Lib.hid hv5; have HA45 := Lib.hid (own_below HA4.out hb5); clear hb5 hv5) | (go_at_call 31; refine (HRo.out h _ HB5.out).mono ?_; unfold EntsEnd; rw [HL3.out]; rintro e w6 ⟨⟨v6, rfl, hv6⟩, hb6⟩; obtain ⟨A6, c6, rfl, -, -, -, -⟩ := own_rd_nil hv6; have HB6 := Lib.hid (below_step HB5.out hb6); have HO6 := Lib.hid (own_below HO5.out hb6); have HK6 := Lib.hid (HK5.out.below hb6); have X6 := Lib.hid (X5.out.below hb6); have x6 := X6.out.cell; have HA6 := Lib.hid hv6; have HA56 := Lib.hid (own_below HA5.out hb6); have HA46 := Lib.hid (own_below HA45.out hb6); clear hb6 hv6) | (go_at_call 32; refine (HPo.out h _ HB6.out).mono ?_; unfold EntsEnd; rw [HL4.out]; rintro e w7 ⟨⟨v7, rfl, hv7⟩, hb7⟩; obtain ⟨A7, c7, rfl, -, -, -, -⟩ := own_rd_nil hv7; have HB7 := Lib.hid (below_step HB6.out hb7); have HO7 := Lib.hid (own_below HO6.out hb7); have HK7 := Lib.hid (HK6.out.below hb7); have X7 := Lib.hid (X6.out.below hb7); have x7 := X7.out.cell; have HA7 := Lib.hid hv7; have HA67 := Lib.hid (own_below HA6.out hb7); have HA57 := Lib.hid (own_below HA56.out hb7); have HA47 := Lib.hid (own_below HA46.out hb7); clear hb7 hv7) | (go_at_call 28; refine (concat_any w7.heap.size 4 [.slice A4 l1.length c4, .slice A5 l2.length c5, .slice A6 l3.length c6, .slice A7 l4.length c7] [l1, l2, l3, l4] _ (fun i v hi => by rw [World.cell?_alloc_at _ _ _ _ rfl, List.getElem?_toArray]; exact hi) (by simp) (lv_four (HA47.out.alloc _) (HA57.out.alloc _) (HA67.out.alloc _) (HA7.out.alloc _)) hcat (by simp)).mono ?_; unfold EntsEnd; rw [← HHf.out]; rintro e w9 ⟨⟨v9, rfl, hv9⟩, hb9⟩; obtain ⟨A9, c9, rfl, hc91, hc92, hrd9, hz9, -⟩ := own_rd_nil hv9; have HB9 := Lib.hid (below_step (HB7.out.alloc HB7.out.size _) hb9); have HO9 := Lib.hid (own_below (HO7.out.alloc _) hb9); have HK9 := Lib.hid ((HK7.out.alloc _).below hb9); have X9 := Lib.hid ((X7.out.alloc _).below hb9); have x9 := X9.out.cell; have HRD9 := Lib.hid hrd9; have HZ9 := Lib.hid hz9; clear hb9 hv9 hrd9 hz9) | (refine step_typedA rfl _ _ 25 rfl w w9 35 i0 _ 4 56 Tryz.underlying25 hi hz0 hz1 hz2 rfl (by decide) (by decide) HO9.out HB9.out rfl A9 HU0.length c9 (ents HU0) rfl HRD9.out HZ9.out (ents_c _) hlen9 ?_; intro v10 w10 hown10 hb10 hk10; have x10 := (X9.out.keep hk10 (by decide)).cell))
    have HO10 : Hid (w10.ownsRow w.heap.size 35 4 v10 ((K1.take (j + 1)).flatMap (hostU S)).length (ents ((K1.take (j + 1)).flatMap (hostU S)))) := by
     show World.ownsRow _ _ _ _ _ _ _
     rw [HSj.out, ents_append, List.length_append]; exact hown10
    have HB10 := Lib.hid hb10
    have HK10 := Lib.hid (HK9.out.trans hk10)
    clear hown10 hb10 hk10 x3 x4 x5 x6 x7 x9 x10 hx
    go_wp2
    go_roundw
    case rel => exact ⟨j + 1, by omega, by go_num, HO10, HB10, HK10⟩
    case measure => simp [intOf]; omega
  · have hje : j = K1.length := by omega
    have HO7 := HO.out
    have hfl := HAL.out K1
    rw [hje, List.take_length, ← HALL.out] at HO7
    rw [← HALL.out] at hfl
    obtain ⟨A7, c7, hv7, h71, h72, h73, h74, -⟩ := own_rd_nil HO7
    subst hv7
    have hset := set_any A7 c7 T wr h73 h74 (by omega)
    have HSet := Lib.hid hset
    clear hset HO HO7 h73 hfl
    go_wp2_with fail
    refine HSet.out.mono ?_
    unfold EntsRd
    rintro e w9 ⟨A9, c9, rfl, g1, g2, g3, g4, g5⟩
    have HF : Hid (∃ A c, Ending.returned (.tuple #[.slice A9 (setE T).length c9, .int .i64 0]) = .returned (.tuple #[.slice A (setE T).length c, .int .i64 0]) ∧ (setE T).length ≤ c ∧ c ≤ maxLen ∧ Rd w9 4 A (setE T).length (ents (setE T)) ∧ (A = none → c = 0) ∧ Below w.heap.size w w9) := ⟨_, _, rfl, g1, g2, g3, g4, below_step HB.out g5⟩
    clear g3 g5
    go_wp2_with fail
    refine bodyPost_ret (results_tmp2 rfl _ _ _) rfl ?_
    exact .inr (.inr ⟨HR0.out.1, HR0.out.2, HF.out⟩)
theorem compile_any (A : Option Addr) (cap : Nat) (L : List Line) (w : World) (hE : Env w) (hR : Rd w 3 A L.length (lines L)) (hcap : L.length ≤ cap) (hc : cap ≤ maxLen) :
 Calls Tryz.prog 11 #[.slice A L.length cap] w (CompileEnd L w) := by
 cases hr : rightB L with
 | false => exact compile_no A cap L w hE hR hcap hc hr
 | true =>
   by_cases hf : checkB L = []
   · exact compile_yes A cap L w hE hR hcap hc hr hf
   · exact compile_faults A cap L w hE hR hcap hc hr hf
end Go.Proofs.YtjdknhalcpkeaaaGreatDoor
namespace Lns
open Go Go.Lib Adr Mtr Tre Sch Lx Rte Hst
def awkT : ByteArray := ⟨(([115, 101, 116, 32, 104, 111, 115, 116, 115, 32, 97, 32, 105, 112, 32, 49, 48, 46, 48, 46, 48, 46, 49, 59, 32, 115, 101, 116, 32, 104, 111, 115, 116, 115, 32, 97].append [32, 118, 110, 105, 115, 32, 53, 59, 32, 115, 101, 116, 32, 104, 111, 115, 116, 115, 32, 98, 32, 105, 112, 32, 49, 48, 46, 48, 46, 48, 46, 50, 59, 32, 115, 101, 116]).append ([32, 104, 111, 115, 116, 115, 32, 98, 32, 118, 110, 105, 115, 32, 53, 59, 32, 115, 101, 116, 32, 118, 110, 105, 115, 32, 53, 32, 115, 117, 98, 110, 101, 116, 32, 49].append [48, 46, 49, 46, 48, 46, 48, 47, 49, 54, 59, 32, 115, 101, 116, 32, 112, 111, 108, 105, 99, 121, 32, 55, 32, 97, 99, 116, 105, 111, 110, 32, 100, 101, 110, 121, 59])).toArray⟩
theorem awk_size : awkT.size ≤ 1000000 := by decide +kernel
theorem awk_34 : ∀ c ∈ awkT.data.toList, c ≠ 34 := by decide +kernel
theorem awk_all : (allB awkT.data.toList).2 = (0, 0) := by decide +kernel
def awkM : List Line := [⟨0, ⟨#[104, 111, 115, 116, 115]⟩, 0⟩, ⟨1, ⟨#[97]⟩, 0⟩, ⟨2, ⟨#[105, 112]⟩, 0⟩, ⟨3, ⟨#[49, 48, 46, 48, 46, 48, 46, 49]⟩, 0⟩, ⟨2, ⟨#[118, 110, 105, 115]⟩, 0⟩, ⟨3, ⟨#[53]⟩, 0⟩,
 ⟨1, ⟨#[98]⟩, 0⟩, ⟨2, ⟨#[105, 112]⟩, 0⟩, ⟨3, ⟨#[49, 48, 46, 48, 46, 48, 46, 50]⟩, 0⟩, ⟨2, ⟨#[118, 110, 105, 115]⟩, 0⟩, ⟨3, ⟨#[53]⟩, 0⟩,
 ⟨0, ⟨#[112, 111, 108, 105, 99, 121]⟩, 0⟩, ⟨1, ⟨#[55]⟩, 0⟩, ⟨2, ⟨#[97, 99, 116, 105, 111, 110]⟩, 0⟩, ⟨3, ⟨#[100, 101, 110, 121]⟩, 0⟩,
 ⟨0, ⟨#[118, 110, 105, 115]⟩, 0⟩, ⟨1, ⟨#[53]⟩, 0⟩, ⟨2, ⟨#[115, 117, 98, 110, 101, 116]⟩, 0⟩, ⟨3, ⟨#[49, 48, 46, 49, 46, 48, 46, 48, 47, 49, 54]⟩, 0⟩]
theorem awk_len : (allB awkT.data.toList).1.length ≤ 1000000 := by decide +kernel
theorem line_ext' {a b : Line} (h : (a.depth, a.word, a.mark) = (b.depth, b.word, b.mark)) : a = b := by
 obtain ⟨a1, a2, a3⟩ := a
 obtain ⟨b1, b2, b3⟩ := b
 simp only [Prod.mk.injEq] at h
 obtain ⟨rfl, rfl, rfl⟩ := h
 rfl
instance decLine : DecidableEq Line := fun a b => decidable_of_iff ((a.depth, a.word, a.mark) = (b.depth, b.word, b.mark)) ⟨line_ext', fun h => by rw [h]⟩
theorem awk_read : readGo (allB awkT.data.toList).1.length (allB awkT.data.toList).1 [] = some awkM := by decide +kernel
theorem awk_right : rightB awkM = true := by decide +kernel
theorem awk_check : checkB awkM = [] := by decide +kernel
def awkE : List Ent := [⟨⟨#[97]⟩, 1, ⟨#[53]⟩, ⟨#[49, 48, 46, 48, 46, 48, 46, 50]⟩⟩, ⟨⟨#[97]⟩, 5, ⟨#[55]⟩, ⟨#[100, 101, 110, 121, 32, 97, 110, 121, 32, 97, 110, 121]⟩⟩,
 ⟨⟨#[98]⟩, 1, ⟨#[53]⟩, ⟨#[49, 48, 46, 48, 46, 48, 46, 49]⟩⟩, ⟨⟨#[98]⟩, 5, ⟨#[55]⟩, ⟨#[100, 101, 110, 121, 32, 97, 110, 121, 32, 97, 110, 121]⟩⟩]
theorem awk_set : setE (allU (paths awkM)) = awkE := by decide +kernel
theorem awk_cmp : cmpE ⟨⟨#[97]⟩, 1, ⟨#[53]⟩, ⟨#[49, 48, 46, 48, 46, 48, 46, 50]⟩⟩ ⟨⟨#[98]⟩, 5, ⟨#[55]⟩, ⟨#[100, 101, 110, 121, 32, 97, 110, 121, 32, 97, 110, 121]⟩⟩ = -1 := by decide +kernel
def awkX : List Line := [⟨0, ⟨#[120]⟩, 0⟩]
theorem awx_right : rightB awkX = true := by decide +kernel
theorem awx_check : checkB awkX ≠ [] := by decide +kernel
end Lns
namespace Go.Proofs.YtjdknhalcpkeaaaGreatDoor
open Go Go.RowKit Go.Sort Rte Sch Tre Hst Lns Lx
set_option maxHeartbeats 4000000 in
set_option maxRecDepth 100000 in
theorem awake14_any (w : World) (hE : Env w) : Calls Tryz.prog 10 #[] w fun e w' => e = .returned (.bool true) ∧ Below w.heap.size w w' := by
 have h1 := Lib.hid (readSet_any awkT (allB awkT.data.toList).1 awkM w hE awk_size awk_34 (by rw [← awk_all]) awk_len awk_read)
 have h2 := Lib.hid (show ∀ W A c, Env W → Rd W 3 A awkM.length (lines awkM) → awkM.length ≤ c → c ≤ maxLen → Calls Tryz.prog 11 #[.slice A awkM.length c] W fun e w' => ∃ A c, e = .returned (.tuple #[.slice A 4 c, .int .i64 0]) ∧ 4 ≤ c ∧ c ≤ maxLen ∧ Rd w' 4 A 4 (ents awkE) ∧ Below W.heap.size W w' from fun W A c hW hR h1 h2 => by
  refine (compile_any A c awkM W hW hR h1 h2).mono fun e w' h => ?_
  unfold CompileEnd at h
  rw [awk_set] at h
  rcases h with ⟨h, -⟩ | ⟨-, h, -⟩ | ⟨-, -, A2, c2, e1, e2, e3, e4, -, e6⟩
  · rw [awk_right] at h; cases h
  · exact absurd awk_check h
  · exact ⟨A2, c2, e1, e2, e3, e4, e6⟩)
 have h3 := Lib.hid (show ∀ W A, Env W → Rd W 3 A 1 (lines awkX) → Calls Tryz.prog 11 #[.slice A 1 1] W fun e w' => e = .returned (.tuple #[.slice none 0 0, .int .i64 7]) ∧ Below W.heap.size W w' from fun W A hW hR => by
  refine (compile_any A 1 awkX W hW hR (Nat.le_refl 1) (by unfold maxLen; omega)).mono fun e w' h => ?_
  unfold CompileEnd at h
  rcases h with ⟨h, -⟩ | ⟨-, -, h, h2⟩ | ⟨-, h, -⟩
  · rw [awx_right] at h; cases h
  · exact ⟨h, h2⟩
  · exact absurd h awx_check)
 have h4 := Lib.hid (fun W => compare_any ⟨⟨#[97]⟩, 1, ⟨#[53]⟩, ⟨#[49, 48, 46, 48, 46, 48, 46, 50]⟩⟩ ⟨⟨#[98]⟩, 5, ⟨#[55]⟩, ⟨#[100, 101, 110, 121, 32, 97, 110, 121, 32, 97, 110, 121]⟩⟩ W)
 rw [awk_cmp] at h4
 go_enter Tryz.func10, Tryz.ntmps10
 go_wp2_with fail
 refine h1.out.mono ?_
 rintro e w1 ⟨⟨A1, c1, rfl, f1, f2, f3, f4⟩, hb1⟩
 have hE1 := hE.below hb1
 have HB1 := Lib.hid hb1
 have HC1 := Lib.hid (h2.out w1 A1 c1 hE1 f3 f1 f2)
 clear hb1 h1 h2
 go_wp2_with fail
 refine HC1.out.mono ?_
 rintro e w2 ⟨A2, c2, rfl, g1, g2, g3, hb2⟩
 have hE2 := hE1.below hb2
 have HB2 : Hid (Below w.heap.size w w2) := below_step HB1.out hb2
 have HR2 := Lib.hid g3
 clear hE1 hb2 HC1 HB1 g3 f3
 go_wp2_with fail
 have hb3 : Below w2.heap.size w2 (w2.alloc (.cells (lines awkX).toArray 52)) := (Below.refl _ _).alloc (Nat.le_refl _) _
 have hR3 : Rd (w2.alloc (.cells (lines awkX).toArray 52)) 3 (some ⟨w2.heap.size, 0, none⟩) 1 (lines awkX) := by
  refine ⟨rfl, fun _ => ⟨_, rfl, by simp, fun j u hu => ?_⟩⟩
  rw [add_plain, Nat.zero_add, World.cell?_alloc_at _ _ _ _ rfl]
  simpa using hu
 refine Calls.mono (w := w2.alloc (.cells (lines awkX).toArray 52)) (h3.out _ _ (hE2.below hb3) hR3) ?_
 rintro e w3 ⟨rfl, hb4⟩
 have HB3 : Hid (Below w.heap.size w w3) := below_step HB2.out (below_step hb3 hb4)
 have HR3 := Lib.hid ((HR2.out.below hb3).below hb4)
 clear hb3 hb4 hR3 h3 HB2 HR2
 obtain ⟨B, O, e1, hab, -, x0, x1, x2, x3⟩ := HR3.out.ent (L := awkE) (i := 0) (by decide)
 subst e1
 obtain ⟨B', O', e2, -, hadd, y0, y1, y2, y3⟩ := HR3.out.ent (L := awkE) (i := 3) (by decide)
 injection e2 with e2
 injection e2 with e21 e22
 subst e21 e22
 clear HR3
 simp only [Nat.zero_mul, Nat.add_zero] at x0 x1 x2 x3
 replace x0 : w3.cell? ⟨B, O, none⟩ = some (.string ⟨#[97]⟩) := x0
 replace x1 : w3.cell? ⟨B, O + 1, none⟩ = some (.int .i64 1) := x1
 replace x2 : w3.cell? ⟨B, O + 2, none⟩ = some (.string ⟨#[53]⟩) := x2
 replace x3 : w3.cell? ⟨B, O + 3, none⟩ = some (.string ⟨#[49, 48, 46, 48, 46, 48, 46, 50]⟩) := x3
 replace y0 : w3.cell? ⟨B, O + 3 * 4, none⟩ = some (.string ⟨#[98]⟩) := y0
 replace y1 : w3.cell? ⟨B, O + 3 * 4 + 1, none⟩ = some (.int .i64 5) := y1
 replace y2 : w3.cell? ⟨B, O + 3 * 4 + 2, none⟩ = some (.string ⟨#[55]⟩) := y2
 replace y3 : w3.cell? ⟨B, O + 3 * 4 + 3, none⟩ = some (.string ⟨#[100, 101, 110, 121, 32, 97, 110, 121, 32, 97, 110, 121]⟩) := y3
 go_wp2_with fail
 refine wp_region_still_tail 36 (by kernel_rfl) (by kernel_rfl) ?_
 simp only [List.take_succ_cons, List.take_zero, List.drop_succ_cons, List.drop_zero]
 repeat still_step
 refine wpStill_nil ?_
 change wpList _ _ _ _ _ w3.drew
 have H4 := Lib.hid (h4.out w3.drew)
 clear x0 x1 x2 x3 y0 y1 y2 y3 h4
 go_wp2_with (go_at_call 19; refine H4.out.mono ?_; rintro e w' ⟨rfl, q, os', rfl⟩)
 go_ret
 refine ⟨rfl, ?_⟩
 exact below_step HB3.out (Lib.below_grow _ w3 (Nat.le_refl _) (1 + q) os')
end Go.Proofs.YtjdknhalcpkeaaaGreatDoor
