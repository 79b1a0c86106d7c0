/- Walks: the net's bindings. Walks: the net's policies. -/
import Derived.Deep.RegionHeld3
import Derived.Test.YtjdknhalcpkeaaaGreatDoorJ33
import Derived.Test.YtjdknhalcpkeaaaGreatDoorJ10
namespace Hst
open Go Go.Lib Rte Sch Tre
theorem bind_no {S : List (List ByteArray)} {h i : ByteArray} (hn : inU S h (vniU S i) = false) : bindU S h i = [] := by unfold bindU; rw [hn]; rfl
theorem bind_own {S : List (List ByteArray)} {h i : ByteArray} (hn : inU S h (vniU S i) = true) (ho : ownU S i = h) : bindU S h i = [⟨h, 2, spB (vniU S i) i, macU S i⟩] := by
 unfold bindU; rw [if_pos hn, if_pos ho]
theorem bind_two {S : List (List ByteArray)} {h i : ByteArray} (hn : inU S h (vniU S i) = true) (ho : ownU S i ≠ h) : bindU S h i = [⟨h, 2, spB (vniU S i) i, macU S i⟩] ++ [⟨h, 3, spB (vniU S i) (macU S i), addrU S (ownU S i)⟩] := by
 unfold bindU; rw [if_pos hn, if_neg ho]; rfl
theorem flat_succ {α β : Type} (f : α → List β) (K : List α) {j : Nat} (hj : j < K.length) : (K.take (j + 1)).flatMap f = (K.take j).flatMap f ++ f K[j] := by
 rw [List.take_succ_eq_append_getElem hj, List.flatMap_append, List.flatMap_cons, List.flatMap_nil, List.append_nil]
theorem bind_len (S : List (List ByteArray)) (h : ByteArray) : ∀ (I : List ByteArray), (I.flatMap (bindU S h)).length ≤ 2 * I.length
 | [] => by simp
 | i :: I => by
   have := bind_len S h I
   rw [List.flatMap_cons, List.length_append, List.length_cons]
   have h2 : (bindU S h i).length ≤ 2 := by
    unfold bindU
    split
    · split <;> simp
    · simp
   omega
end Hst
namespace Go.Proofs.YtjdknhalcpkeaaaGreatDoor
open Go Go.RowKit Go.Sort Rte Sch Tre Hst
theorem rd_words2 (W : World) (o : Obj) (T : TypeId) (P : List ByteArray) {cs : Array Value} (h : cs = (sv P).toArray) : Rd ((W.alloc o).alloc (.cells cs T)) 1 (some ⟨W.heap.size + 1, 0, none⟩) P.length (sv P) := by
 have := rd_words (W.alloc o) T P h
 rwa [show (W.alloc o).heap.size = W.heap.size + 1 by simp] at this
set_option maxHeartbeats 4000000 in
set_option maxRecDepth 100000 in
theorem bindings_any (A : Option Addr) (cap : Nat) (L : List Line) (S : List (List ByteArray)) (h : ByteArray) (w : World) (hN : NetK A cap L S w) (hS : ∀ i ∈ kw S [wBind], i.size ≤ 40) :
 Calls Tryz.prog 30 #[netV A L.length cap, .string h] w (EntsEnd w (bindingsU S h)) := by
 obtain ⟨i0, hi, hz0, hz1, hz2⟩ := info_parts info_ent
 unfold netV
 have HU := Lib.hid hN.under
 have HO1 := Lib.hid hN.one
 have HI := Lib.hid hN.isin
 have HA := Lib.hid hN.addr
 have hk1 := hN.few [wBind]
 have HSh := Lib.hid (fun P o (ho : o.size ≤ 40) => hN.oneShort o P ho)
 have HF : Hid (bindingsU S h = (kw S [wBind]).flatMap (bindU S h)) := rfl
 have HVn : Hid (∀ p, vniU S p = oneU S emB [wBind, p, wVni]) := fun _ => rfl
 have HMc : Hid (∀ p, macU S p = oneU S emB [wBind, p, wMac]) := fun _ => rfl
 have HOw : Hid (∀ p, ownU S p = oneU S emB [wBind, p, wHost]) := fun _ => rfl
 have HB0 := Lib.hid (fun i => @bind_no S h i)
 have HB1' := Lib.hid (fun i => @bind_own S h i)
 have HB2' := Lib.hid (fun i => @bind_two S h i)
 have HBL := Lib.hid (bind_len S h)
 generalize bindingsU S h = R at *
 obtain ⟨w1, hw1⟩ : ∃ w1, w.alloc (.cells #[.slice A L.length cap] 59) = w1 := ⟨_, rfl⟩
 have HB1 : Hid (Below w.heap.size w w1) := by show Below _ _ _; rw [← hw1]; exact (Below.refl _ _).alloc (Nat.le_refl _) _
 obtain ⟨wb, hwb⟩ : ∃ wb, w.heap.size = wb := ⟨_, rfl⟩
 have X1 : Hid (Nc w1 wb A L.length cap) := by show Nc _ _ _ _ _; rw [← hw1, ← hwb]; exact heap_alloc_new w _
 have x0 := X1.out.cell
 clear hN
 generalize hK1 : kw S [wBind] = K1 at *
 have HK1 := Lib.hid hK1
 have HSucc := Lib.hid (fun (j : Nat) (hj : j < K1.length) => flat_succ (bindU S h) K1 hj)
 have HS40 := Lib.hid (fun (j : Nat) (hj : j < K1.length) => hS K1[j] (List.getElem_mem hj))
 clear hK1 hS
 go_enter Tryz.func30, Tryz.ntmps30
 go_wp2_with (go_at_call 27; refine (HU.out [wBind] (by simp) (by simp) _ (HB1.out.alloc HB1.out.size _) _ (rd_words _ _ [wBind] rfl)).mono ?_; rw [HK1.out]; unfold StrsOwn; rintro e w2 ⟨⟨v2, rfl, hv2⟩, hb⟩; obtain ⟨A2, c2, rfl, hc1, hc2, -, -⟩ := own_rd_nil hv2; have HB2 := Lib.hid (below_step (HB1.out.alloc HB1.out.size _) hb); have HV1 := Lib.hid hv2; have X2 := Lib.hid ((X1.out.alloc _).below hb); clear hb hv2 x0 hw1 hwb)
 go_loopw [5, 16] (fun v vi wr => ∃ j : Nat, j ≤ K1.length ∧ vi = .int .i64 j ∧ Hid (wr.ownsRow w.heap.size 35 4 v ((K1.take j).flatMap (bindU S h)).length (ents ((K1.take j).flatMap (bindU S h)))) ∧ Hid (Below w.heap.size w wr) ∧ Hid (KeepT 35 w2 wr)) (fun _ vi _ => K1.length - (intOf vi).toNat)
 case atStart => exact ⟨0, Nat.zero_le _, rfl, World.ownsRow_nil _ _ _ _, HB2.out, KeepT.refl _ _⟩
 case round =>
  obtain ⟨j, hj, rfl, HO, HB, HK⟩ := hrel
  by_cases hlt : j < K1.length
  · obtain ⟨B, rfl, hadd, hx⟩ := own_word (HK.out.own (by decide) HV1.out) rfl hlt
    have Xr := Lib.hid (X2.out.keep HK.out (by decide))
    have xr := Xr.out.cell
    have hsj := HSucc.out j hlt
    have hp40 := HS40.out j hlt
    have hl4 : ((K1.take j).flatMap (bindU S h)).length + 2 ≤ 1000000000 := by
     have := HBL.out (K1.take j)
     rw [List.length_take] at this
     omega
    generalize K1[j] = p at *
    have b0 := HB0.out p
    have b1 := HB1'.out p
    have b2 := HB2'.out p
    have hvn := HVn.out p
    have hmc := HMc.out p
    have how := HOw.out p
    have hv40 : (vniU S p).size ≤ 40 := HSh.out _ emB (by decide)
    have hm40 : (macU S p).size ≤ 40 := HSh.out _ emB (by decide)
    generalize bindU S h p = bp at *
    generalize vniU S p = vn at *
    generalize macU S p = mc at *
    generalize ownU S p = ow at *
    generalize hF : (K1.take j).flatMap (bindU S h) = F at *
    have HVN := Lib.hid hvn
    have HMC := Lib.hid hmc
    have HOW := Lib.hid how
    clear hvn hmc how hF
    go_wp2_with fail
    refine (HO1.out emB [wBind, p, wVni] (by simp) (by simp) _ (HB.out.alloc HB.out.size _) _ (rd_words _ _ [wBind, p, wVni] rfl)).mono ?_
    rw [← HVN.out]
    rintro e w3 ⟨rfl, hb3⟩
    have HB3 := Lib.hid (below_step (HB.out.alloc HB.out.size _) hb3)
    have HO3 := Lib.hid (own_below (HO.out.alloc _) hb3)
    have HK3 := Lib.hid ((HK.out.alloc _).below hb3)
    have X3 := Lib.hid ((Xr.out.alloc _).below hb3)
    have x3 := X3.out.cell
    clear hb3 xr hx HO HB HK Xr
    go_wp2_with fail
    refine (HI.out _ _ _ HB3.out).mono ?_
    rintro e w4 ⟨rfl, hb4⟩
    have HB4 := Lib.hid (below_step HB3.out hb4)
    have HO4 := Lib.hid (own_below HO3.out hb4)
    have HK4 := Lib.hid (HK3.out.below hb4)
    have X4 := Lib.hid (X3.out.below hb4)
    have x4 := X4.out.cell
    have hq4 : wb < w4.heap.size := (Array.getElem?_eq_some_iff.1 X4.out).1
    clear hb4 x3 HO3 HB3 HK3 X3
    cases hin : inU S h vn with
    | false =>
      have hsj2 : Hid ((K1.take (j + 1)).flatMap (bindU S h) = F) := by show _ = _; rw [hsj, b0 hin, List.append_nil]
      clear b0 b1 b2 hsj hin
      go_wp2
      go_roundw
      case rel => exact ⟨j + 1, by omega, by go_num, by show World.ownsRow _ _ _ _ _ _ _; rw [hsj2.out]; exact HO4.out, HB4, HK4⟩
      case measure => simp [intOf]; omega
    | true =>
      have b1 := b1 hin
      have b2 := b2 hin
      clear b0 hin
      go_upto_region 7 with fail
      go_region_held3 (fun W => W.cell? ⟨wb, 0, none⟩ = some (.slice A L.length cap)) (first | go_keep | exact x6 | exact x5) ((go_at_call 65; first | (refine (HO1.out emB [wBind, p, wMac] (by simp) (by simp) _ ?hbw _ ?hpw).mono ?_; (case hbw => repeat (first | exact HB4.out | exact Nat.le_trans HB4.out.size (by simp) | refine Below.drew ?_ | refine Below.alloc ?_ ?_ _)); (case hpw => first | exact (rd_words _ _ [wBind, p, wMac] rfl).drew | exact ((rd_words _ _ [wBind, p, wMac] rfl).alloc _).drew | exact (rd_words2 _ _ _ [wBind, p, wMac] rfl).drew); rw [← HMC.out]; rintro e w5 ⟨rfl, hb5⟩; have HL5 := Lib.hid hb5; have HB5 : Hid (Below w.heap.size w w5) := below_step (by repeat (first | exact HB4.out | exact Nat.le_trans HB4.out.size (by simp) | refine Below.drew ?_ | refine Below.alloc ?_ ?_ _)) hb5; have HB45 : Hid (Below w4.heap.size w4 w5) := below_step (by repeat (first | exact Below.refl _ _ | exact Nat.le_refl _ | (simp; done) | refine Below.drew ?_ | refine Below.alloc ?_ ?_ _)) hb5; have x5 := (X4.out.below HB45.out).cell; have hq5 : wb < w5.heap.size := Nat.lt_of_lt_of_le hq4 HB45.out.size; clear hb5) | (refine (HO1.out emB [wBind, p, wHost] (by simp) (by simp) _ ?hbw _ ?hpw).mono ?_; (case hbw => repeat (first | exact HB5.out | exact Nat.le_trans HB5.out.size (by simp) | refine Below.drew ?_ | refine Below.alloc ?_ ?_ _)); (case hpw => first | exact rd_words _ _ [wBind, p, wHost] rfl | exact (rd_words2 _ _ _ [wBind, p, wHost] rfl).drew.below HL5.out | exact ((rd_words _ _ [wBind, p, wHost] rfl).alloc _).drew.below HL5.out); rw [← HOW.out]; rintro e w6 ⟨rfl, hb6⟩; have HB46 : Hid (Below w4.heap.size w4 w6) := below_step (by repeat (first | exact HB45.out | exact Nat.le_trans HB45.out.size (by simp) | refine Below.alloc ?_ ?_ _)) hb6; have x6 := (X4.out.below HB46.out).cell; clear hb6)))
      all_goals
       have HB6 := Lib.hid (below_step HB4.out HB46.out)
       have HO6 := Lib.hid (own_below HO4.out HB46.out)
       have HK6 := Lib.hid (HK4.out.below HB46.out)
       have X6 := Lib.hid (X4.out.below HB46.out)
       have hl5 : F.length + 1 ≤ 1000000000 := by omega
       have hl6 : (F ++ [(⟨h, 2, spB vn p, mc⟩ : Ent)]).length + 1 ≤ 1000000000 := by rw [List.length_append]; simp; omega
       by_cases ho : ow = h
       · have hbp := b1 ho
         have hsj2 : Hid ((K1.take (j + 1)).flatMap (bindU S h) = F ++ [⟨h, 2, spB vn p, mc⟩]) := by show _ = _; rw [hsj, hbp]
         clear b1 b2 hsj hbp
         subst ho
         go_wp2_with (at_builtin; refine app_typed rfl _ _ 25 rfl w _ 35 i0 _ 4 56 Tryz.underlying25 hi hz0 hz1 hz2 rfl (by decide) (by decide) HO6.out HB6.out rfl 1 1 (Ent.cells ⟨ow, 2, spB vn p, mc⟩) rfl rfl (Rte.cells_one _) hl5 ?_; intro v7 w7 hown7 hb7 hk7)
         have HO7 := Lib.hid (own_push_ent hown7)
         have HB7 := Lib.hid hb7
         have HK7 := Lib.hid (HK6.out.trans hk7)
         clear hown7 hb7 hk7
         go_roundw
         case rel => exact ⟨j + 1, by omega, by go_num, by show World.ownsRow _ _ _ _ _ _ _; rw [hsj2.out]; exact HO7.out, HB7, HK7⟩
         case measure => simp [intOf]; omega
       · have hbp := b2 ho
         have hsj2 : Hid ((K1.take (j + 1)).flatMap (bindU S h) = (F ++ [⟨h, 2, spB vn p, mc⟩]) ++ [⟨h, 3, spB vn mc, addrU S ow⟩]) := by show _ = _; rw [hsj, hbp, List.append_assoc]
         obtain ⟨q1, q2⟩ := ne_list ho
         clear b1 b2 hsj hbp
         go_wp2_with (first | (at_builtin; refine app_typed rfl _ _ 25 rfl w _ 35 i0 _ 4 56 Tryz.underlying25 hi hz0 hz1 hz2 rfl (by decide) (by decide) HO6.out HB6.out rfl 1 1 (Ent.cells ⟨h, 2, spB vn p, mc⟩) rfl rfl (Rte.cells_one _) hl5 ?_; intro v7 w7 hown7 hb7 hk7; have HO7 := Lib.hid (own_push_ent hown7); have HB7 := Lib.hid hb7; have HK7 := Lib.hid (HK6.out.trans hk7); have x7 := (X6.out.keep hk7 (by decide)).cell; clear hown7 hb7 hk7 x6) | (go_at_call 64; refine (HA.out _ _ HB7.out).mono ?_; rintro e w8 ⟨rfl, hb8⟩; have HO8 := Lib.hid (own_below HO7.out hb8); have HB8 := Lib.hid (below_step HB7.out hb8); have HK8 := Lib.hid (HK7.out.below hb8); clear hb8 x7) | (at_builtin; refine app_typed rfl _ _ 25 rfl w _ 35 i0 _ 4 56 Tryz.underlying25 hi hz0 hz1 hz2 rfl (by decide) (by decide) HO8.out HB8.out rfl 1 1 (Ent.cells ⟨h, 3, spB vn mc, addrU S ow⟩) rfl rfl (Rte.cells_one _) hl6 ?_; intro v9 w9 hown9 hb9 hk9))
         have HO9 := Lib.hid (own_push_ent hown9)
         have HB9 := Lib.hid hb9
         have HK9 := Lib.hid (HK8.out.trans hk9)
         clear hown9 hb9 hk9
         go_roundw
         case rel => exact ⟨j + 1, by omega, by go_num, by show World.ownsRow _ _ _ _ _ _ _; rw [hsj2.out]; exact HO9.out, HB9, HK9⟩
         case measure => simp [intOf]; omega
  · have hje : j = K1.length := by omega
    have HO7 := HO.out
    rw [hje, List.take_length, ← HF.out] at HO7
    have HO8 := Lib.hid HO7
    clear HO HO7
    go_wp2
    go_ret
    exact ⟨⟨_, rfl, HO8.out⟩, HB.out⟩
end Go.Proofs.YtjdknhalcpkeaaaGreatDoor
namespace Hst
open Go Go.Lib Rte Sch Tre
theorem join_three (a f t : ByteArray) : (⟨(Lib.join ([a, f, t].map (·.data.toList)) [32]).toArray⟩ : ByteArray) = spB (spB a f) t := by
 refine data_inj ?_
 have e : (⟨(Lib.join ([a, f, t].map (·.data.toList)) [32]).toArray⟩ : ByteArray).data.toList = Lib.join ([a, f, t].map (·.data.toList)) [32] := by simp
 rw [e]
 unfold spB
 simp [ByteArray.data_append, Lib.join, List.intercalate, List.intersperse]
theorem join_three_len (a f t : ByteArray) (ha : a.size ≤ 40) (hf : f.size ≤ 40) (ht : t.size ≤ 40) : (Lib.join ([a, f, t].map (·.data.toList)) [32]).length ≤ 140737488355328 := by
 have h1 : a.data.toList.length = a.size := by simp
 have h2 : f.data.toList.length = f.size := by simp
 have h3 : t.data.toList.length = t.size := by simp
 simp only [Lib.join, List.intercalate, List.map_cons, List.map_nil, List.intersperse, List.flatten_cons, List.flatten_nil, List.length_append, List.length_cons, List.length_nil, h1, h2, h3]
 omega
end Hst
namespace Go.Proofs.YtjdknhalcpkeaaaGreatDoor
open Go Go.RowKit Go.Sort Rte Sch Tre Hst
theorem below_a1 (w : World) (o : Obj) : Below w.heap.size w (w.alloc o) := (Below.refl _ _).alloc (Nat.le_refl _) _
theorem below_a2 (w : World) (o o2 : Obj) : Below w.heap.size w ((w.alloc o).alloc o2) := below_step (below_a1 w o) (below_a1 _ o2)
theorem below_d1 (w : World) (o : Obj) : Below w.heap.size w (w.alloc o).drew := (below_a1 w o).drew
theorem below_d2 (w : World) (o o2 : Obj) : Below w.heap.size w ((w.alloc o).alloc o2).drew := (below_a2 w o o2).drew
theorem below_d3 (w : World) (o o2 o3 : Obj) : Below w.heap.size w (((w.alloc o).alloc o2).alloc o3).drew := (below_step (below_a2 w o o2) (below_a1 _ o3)).drew
theorem rd_words3 (W : World) (o o2 : Obj) (T : TypeId) (P : List ByteArray) {cs : Array Value} (h : cs = (sv P).toArray) : Rd (((W.alloc o).alloc o2).alloc (.cells cs T)) 1 (some ⟨W.heap.size + 2, 0, none⟩) P.length (sv P) := by
 have := rd_words ((W.alloc o).alloc o2) T P h
 rwa [show ((W.alloc o).alloc o2).heap.size = W.heap.size + 2 by simp] at this
theorem join_own (W : World) (T : TypeId) (a f t : ByteArray) (ha : a.size ≤ 40) (hf : f.size ≤ 40) (ht : t.size ≤ 40) :
 Calls Tryz.prog 66 #[.slice (some ⟨W.heap.size, 0, none⟩) 3 3, .string ⟨#[32]⟩] (W.alloc (.cells #[.string a, .string f, .string t] T)) fun e w' => e = .returned (.string (spB (spB a f) t)) ∧ Below W.heap.size W w' := by
 have := Tryz.strings_Join W.heap.size 0 3 [a, f, t] ⟨#[32]⟩ (W.alloc (.cells #[.string a, .string f, .string t] T)) (fun j x hx => by
  rw [Nat.zero_add, World.cell?_alloc_at _ _ _ _ rfl]
  match j, hx with
  | 0, hx => simpa using hx
  | 1, hx => simpa using hx
  | 2, hx => simpa using hx) (by simp) (by simp) (by simp) (join_three_len a f t ha hf ht)
 refine this.mono fun e w' ⟨h1, h2⟩ => ⟨?_, below_step ((Below.refl _ _).alloc (Nat.le_refl _) _) h2⟩
 rw [h1]
 exact congrArg (fun s => Ending.returned (.string s)) (join_three a f t)
set_option maxHeartbeats 8000000 in
set_option maxRecDepth 100000 in
theorem policies_any (A : Option Addr) (cap : Nat) (L : List Line) (S : List (List ByteArray)) (h : ByteArray) (w : World) (hN : NetK A cap L S w) :
 Calls Tryz.prog 32 #[netV A L.length cap, .string h] w (EntsEnd w (polsU S h)) := by
 obtain ⟨i0, hi, hz0, hz1, hz2⟩ := info_parts info_ent
 unfold netV
 have HU := Lib.hid hN.under
 have HO1 := Lib.hid hN.one
 have hk1 := hN.few [wPolicy]
 have HSh := Lib.hid (fun P o (ho : o.size ≤ 40) => hN.oneShort o P ho)
 have HF : Hid (polsU S h = (kw S [wPolicy]).map (polU S h)) := rfl
 have HPo : Hid (∀ p, polU S h p = ⟨h, 5, p, spB (spB (oneU S emB [wPolicy, p, wAction]) (oneU S wAny [wPolicy, p, wFrom])) (oneU S wAny [wPolicy, p, wTo])⟩) := fun _ => rfl
 generalize polsU S h = R at *
 obtain ⟨w1, hw1⟩ : ∃ w1, w.alloc (.cells #[.slice A L.length cap] 59) = w1 := ⟨_, rfl⟩
 have HB1 : Hid (Below w.heap.size w w1) := by show Below _ _ _; rw [← hw1]; exact (Below.refl _ _).alloc (Nat.le_refl _) _
 obtain ⟨wb, hwb⟩ : ∃ wb, w.heap.size = wb := ⟨_, rfl⟩
 have X1 : Hid (Nc w1 wb A L.length cap) := by show Nc _ _ _ _ _; rw [← hw1, ← hwb]; exact heap_alloc_new w _
 have x0 := X1.out.cell
 clear hN
 generalize hK1 : kw S [wPolicy] = K1 at *
 have HK1 := Lib.hid hK1
 have HSucc := Lib.hid (fun (j : Nat) (hj : j < K1.length) => map_succ (polU S h) K1 hj)
 clear hK1
 go_enter Tryz.func32, Tryz.ntmps32
 go_wp2_with (go_at_call 27; refine (HU.out [wPolicy] (by simp) (by simp) _ (HB1.out.alloc HB1.out.size _) _ (rd_words _ _ [wPolicy] rfl)).mono ?_; rw [HK1.out]; unfold StrsOwn; rintro e w2 ⟨⟨v2, rfl, hv2⟩, hb⟩; obtain ⟨A2, c2, rfl, hc1, hc2, -, -⟩ := own_rd_nil hv2; have HB2 := Lib.hid (below_step (HB1.out.alloc HB1.out.size _) hb); have HV1 := Lib.hid hv2; have X2 := Lib.hid ((X1.out.alloc _).below hb); clear hb hv2 x0 hw1 hwb)
 go_loopw [5, 14] (fun v vi wr => ∃ j : Nat, j ≤ K1.length ∧ vi = .int .i64 j ∧ Hid (wr.ownsRow w.heap.size 35 4 v ((K1.take j).map (polU S h)).length (ents ((K1.take j).map (polU S h)))) ∧ Hid (Below w.heap.size w wr) ∧ Hid (KeepT 35 w2 wr)) (fun _ vi _ => K1.length - (intOf vi).toNat)
 case atStart => exact ⟨0, Nat.zero_le _, rfl, World.ownsRow_nil _ _ _ _, HB2.out, KeepT.refl _ _⟩
 case round =>
  obtain ⟨j, hj, rfl, HO, HB, HK⟩ := hrel
  by_cases hlt : j < K1.length
  · obtain ⟨B, rfl, hadd, hx⟩ := own_word (HK.out.own (by decide) HV1.out) rfl hlt
    have X4 := Lib.hid (X2.out.keep HK.out (by decide))
    have x4 := X4.out.cell
    have hq4 : wb < wr.heap.size := (Array.getElem?_eq_some_iff.1 X4.out).1
    have hsj := HSucc.out j hlt
    have hl4 : ((K1.take j).map (polU S h)).length + 1 ≤ 1000000000 := by rw [List.length_map, List.length_take]; omega
    generalize K1[j] = p at *
    rw [HPo.out p] at hsj
    have ha40 := HSh.out [wPolicy, p, wAction] emB (by decide)
    have hf40 := HSh.out [wPolicy, p, wFrom] wAny (by decide)
    have ht40 := HSh.out [wPolicy, p, wTo] wAny (by decide)
    generalize hac : oneU S emB [wPolicy, p, wAction] = ac at *
    generalize hfr : oneU S wAny [wPolicy, p, wFrom] = fr at *
    generalize hto : oneU S wAny [wPolicy, p, wTo] = tw at *
    generalize hFF : (K1.take j).map (polU S h) = F at *
    have HAC := Lib.hid hac
    have HFR := Lib.hid hfr
    have HTO := Lib.hid hto
    have HSj := Lib.hid hsj
    clear hac hfr hto hFF hsj
    have HKp : Hid (∀ o1 o2 o3, (((wr.alloc o1).alloc o2).alloc o3).drew.cell? ⟨wb, 0, none⟩ = some (.slice A L.length cap)) := fun o1 o2 o3 => (((X4.out.alloc o1).alloc o2).alloc o3).cell
    go_upto_region 5 with fail
    go_region_held3 (fun W => W.cell? ⟨wb, 0, none⟩ = some (.slice A L.length cap)) (first | exact HKp.out _ _ _ | exact x7 | exact x6 | exact x5 | go_keep) (first | (go_at_call_of 65 (Value.string ⟨#[]⟩); refine (HO1.out emB [wPolicy, p, wAction] (by simp) (by simp) _ (below_step HB.out (by first | with_reducible exact below_d1 _ _ | with_reducible exact below_d2 _ _ _ | with_reducible exact below_d3 _ _ _ _)) _ ?hpw).mono ?_; (case hpw => repeat (first | ((with_reducible refine rd_words _ _ [wPolicy, p, wAction] ?_); rfl) | ((with_reducible refine rd_words2 _ _ _ [wPolicy, p, wAction] ?_); rfl) | ((with_reducible refine rd_words3 _ _ _ _ [wPolicy, p, wAction] ?_); rfl) | with_reducible refine Rd.drew ?_ | with_reducible refine Rd.alloc ?_ _)); rw [HAC.out]; rintro e w5 ⟨rfl, hb5⟩; have HL5 := Lib.hid hb5; have HB45 : Hid (Below wr.heap.size wr w5) := below_step (by first | with_reducible exact below_d1 _ _ | with_reducible exact below_d2 _ _ _ | with_reducible exact below_d3 _ _ _ _) hb5; have HB5 := Lib.hid (below_step HB.out HB45.out); have x5 := (X4.out.below HB45.out).cell; have hq5 : wb < w5.heap.size := Nat.lt_of_lt_of_le hq4 HB45.out.size; clear hb5) | (go_at_call_of 65 (Value.string ⟨#[97, 110, 121]⟩); first | (refine (HO1.out wAny [wPolicy, p, wFrom] (by simp) (by simp) _ (below_step HB5.out (by first | with_reducible exact Below.refl _ _ | with_reducible exact below_a1 _ _ | with_reducible exact below_a2 _ _ _)) _ ?hpw).mono ?_; (case hpw => repeat (first | ((with_reducible refine rd_words _ _ [wPolicy, p, wFrom] ?_); rfl) | ((with_reducible refine rd_words2 _ _ _ [wPolicy, p, wFrom] ?_); rfl) | ((with_reducible refine rd_words3 _ _ _ _ [wPolicy, p, wFrom] ?_); rfl) | with_reducible refine Rd.drew ?_ | with_reducible refine Rd.alloc ?_ _ | with_reducible refine Rd.below ?_ HL5.out)); rw [HFR.out]; rintro e w6 ⟨rfl, hb6⟩; have HL6 := Lib.hid hb6; have HB46 : Hid (Below wr.heap.size wr w6) := below_step (below_step HB45.out (by first | with_reducible exact Below.refl _ _ | with_reducible exact below_a1 _ _ | with_reducible exact below_a2 _ _ _)) hb6; have HB6 := Lib.hid (below_step HB.out HB46.out); have x6 := (X4.out.below HB46.out).cell; have hq6 : wb < w6.heap.size := Nat.lt_of_lt_of_le hq4 HB46.out.size; clear hb6) | (refine (HO1.out wAny [wPolicy, p, wTo] (by simp) (by simp) _ (below_step HB6.out (by first | with_reducible exact Below.refl _ _ | with_reducible exact below_a1 _ _ | with_reducible exact below_a2 _ _ _)) _ ?hpw).mono ?_; (case hpw => repeat (first | ((with_reducible refine rd_words _ _ [wPolicy, p, wTo] ?_); rfl) | ((with_reducible refine rd_words2 _ _ _ [wPolicy, p, wTo] ?_); rfl) | ((with_reducible refine rd_words3 _ _ _ _ [wPolicy, p, wTo] ?_); rfl) | with_reducible refine Rd.drew ?_ | with_reducible refine Rd.alloc ?_ _ | with_reducible refine Rd.below ?_ HL6.out | with_reducible refine Rd.below ?_ HL5.out)); rw [HTO.out]; rintro e w7 ⟨rfl, hb7⟩; have HB47 : Hid (Below wr.heap.size wr w7) := below_step (below_step HB46.out (by first | with_reducible exact Below.refl _ _ | with_reducible exact below_a1 _ _ | with_reducible exact below_a2 _ _ _)) hb7; have x7 := (X4.out.below HB47.out).cell; have hq7 : wb < w7.heap.size := Nat.lt_of_lt_of_le hq4 HB47.out.size; clear hb7)))
    all_goals
     have HB7 := Lib.hid (below_step HB.out HB47.out)
     have HO7 := Lib.hid (own_below HO.out HB47.out)
     have HK7 := Lib.hid (HK.out.below HB47.out)
     clear x4 x5 x6 x7 hq4 hq5 hq6 hq7 HB45 HB46 HB47 HB5 HB6 HL5 HL6 hx
     go_wp2_with (first | (go_at_call 66; refine (join_own w7 9 ac fr tw ha40 hf40 ht40).mono ?_; rintro e w8 ⟨rfl, hb8⟩; have HB8 := Lib.hid (below_step HB7.out hb8); have HO8 := Lib.hid (own_below HO7.out hb8); have HK8 := Lib.hid (HK7.out.below hb8); clear hb8) | (at_builtin; refine app_typed rfl _ _ 25 rfl w _ 35 i0 _ 4 56 Tryz.underlying25 hi hz0 hz1 hz2 rfl (by decide) (by decide) HO8.out HB8.out rfl 1 1 (Ent.cells ⟨h, 5, p, spB (spB ac fr) tw⟩) rfl rfl (Rte.cells_one _) hl4 ?_; intro v9 w9 hown9 hb9 hk9))
     have HO9 := Lib.hid (own_push_ent hown9)
     have HB9 := Lib.hid hb9
     have HK9 := Lib.hid (HK8.out.trans hk9)
     clear hown9 hb9 hk9
     go_roundw
     case rel => exact ⟨j + 1, by omega, by go_num, by show World.ownsRow _ _ _ _ _ _ _; rw [HSj.out]; exact HO9.out, HB9, HK9⟩
     case measure => simp [intOf]; omega
  · have hje : j = K1.length := by omega
    have HO7 := HO.out
    rw [hje, List.take_length, ← HF.out] at HO7
    have HO8 := Lib.hid HO7
    clear HO HO7
    go_wp2
    go_ret
    exact ⟨⟨_, rfl, HO8.out⟩, HB.out⟩
end Go.Proofs.YtjdknhalcpkeaaaGreatDoor
