import Derived.Test.YtdamidelojccaaaGreatDoorJ34
set_option linter.unusedVariables false
set_option linter.unusedSimpArgs false
set_option maxHeartbeats 4000000
set_option maxRecDepth 100000
namespace Go.Proofs.Zq
open Tryz
open Go Go.RowKit Go.Sort Tre Lx Prs Lns Edt Sch
theorem Zaii : (prog.info? 60).map (fun i => (i.zero, i.size, i.bytes)) = some (some (.agg #[.int .i64 0, .slice none 0 0]), 2, 32) := by kernel_rfl
theorem Zabw {e : TypeId} {w w' : World} {b : Nat} {C : Array Value} {T : TypeId} (h : Bl w b C T) (k : Zbl e w w') (hT : T ≠ e) : Bl w' b C T := k b C T hT h
theorem Zaqa {Q : List RV} {k : Nat} (h : k < Q.length) : rvc (Q.take (k + 1)) = rvc (Q.take k) ++ [.int .i64 Q[k].1, Q[k].2.1] := by
 rw [Yau h, Zalf, Zaia]
theorem Zapv {C : Array Value} (h : C.toList.all (·.oneCell') = true) : C.all (·.oneCell') = true := Ybe.2 fun v hv => Ybr.1 h v (by simpa using hv)
theorem Zlw : (prog.info? 46).map (·.size) = some 15 := by kernel_rfl
theorem Zaxs {fn : Func} {t : Array Value} {W : World} {q : Nat} {D : Array Value} (hf : fn.results = #[.cell 2 46]) (h2 : t.getD 2 undef = .pointer (some ⟨q, 0, none⟩)) (hq : Bl W q D 46) (hd : D.size = 15) : (results fn t).run prog W = .ok (.agg D) W := by
 have e1 : (loadVar 46 ⟨q, 0, none⟩).run prog W = .ok (.agg D) W := by
  have := run_loadVar_mid (P := prog) W q 0 46 D.toList _ hq.range underlying46 rfl (by rw [Yaz, hd]; exact Zlw)
  simpa using this
 unfold results;rw [hf];simp only [List.mapM_toArray, List.mapM_cons, List.mapM_nil, h2, asAddr, Sem.run_bind, Sem.run_pure, Result.andThen_ok, e1, Sem.run_map];rfl
def refD (S : Ps) (vr v0 v1 v2 v3 v4 v5 v6 vb : Value) (k : Nat) : Array Value :=
 #[v0, vr, .bool (if 0 < k then S.s0.opn else false), if 0 < k then v1 else .slice none 0 0, if 0 < k then v2 else .slice none 0 0, .bool (if 1 < k then S.s1.opn else false), if 1 < k then v3 else .slice none 0 0, if 1 < k then v4 else .slice none 0 0, .bool (if 2 < k then S.s2.opn else false), if 2 < k then v5 else .slice none 0 0, if 2 < k then v6 else .slice none 0 0, .int .i64 S.lock, .int .i64 S.clock, .int .i64 S.dead, vb]
theorem Zamq (C : Array Value) (S : Ps) (w : World) (hP : PlC w C S) (h5 : S.revs.length ≤ 5) :
 Calls prog 9 #[.agg C] w fun e w' => (∃ D, e = .returned (.agg D) ∧ PlC w' D S) ∧ Below w.heap.size w w' := by
 obtain ⟨i0, hii, hz0, hz1, hz2⟩ := info_parts Zaii;obtain ⟨a0, ar, a1, a2, a3, a4, a5, a6, ab, n0, nr, n1, n2, n3, n4, n5, n6, nb, c0, cr, c1, c2, c3, c4, c5, c6, cb, e, g0, gr, g1, g2, g3, g4, g5, g6, gb⟩ := hP.plR;injection e with e
 subst e;unfold plv;have HG : Hid (∀ W, Below w.heap.size w W → PlG W S a0 ar a1 a2 a3 a4 a5 a6 ab n0 nr n1 n2 n3 n4 n5 n6 nb c0 cr c1 c2 c3 c4 c5 c6 cb) := fun W hb => ⟨g0.below hb, gr.below hb, g1.below hb, g2.below hb, g3.below hb, g4.below hb, g5.below hb, g6.below hb, gb.below hb⟩
 obtain ⟨r1, r2, -, Q, hQn, hQr, hQd, hQl, -⟩ := gr;subst hQn;have hnr : Q.length ≤ 5 := by rw [← Yax (f := fun q : RV => (q.1, q.2.2)), hQr]; exact h5
 have hQd2 : Hid (∀ W, Below w.heap.size w W → ∀ k (hk : k < Q.length), ∃ b o, ar = some ⟨b, o, none⟩ ∧ W.cell? ⟨b, o + k * 2, none⟩ = some (.int .i64 Q[k].1) ∧ W.cell? ⟨b, o + k * 2 + 1, none⟩ = some Q[k].2.1) := fun W hb k hk => by
  obtain ⟨ad, e, hbl, hx⟩ := (hQd.below hb).2 (by omega)
  have hg := Zgb Q k hk;have hsp : ad.spot = none := by
   have h00 := hx 0 _ (Zgb Q 0 (by omega)).1
   have h2 := World.cell?_spot h00;have h3 : ad.add 0 = ad := by simp [Addr.add]
   rwa [h3] at h2
  obtain ⟨b, o, sp⟩ := ad;obtain rfl : sp = none := hsp;have c1 := hx _ _ hg.1;have c2 := hx _ _ hg.2;rw [Zae] at c1 c2;exact ⟨b, o, e, c1, by rw [show o + k * 2 + 1 = o + (k * 2 + 1) by omega]; exact c2⟩
 have HQl := Zhd hQl;have HQr := Zhd hQr;obtain ⟨wp, hwp⟩ : ∃ wp, w.alloc (.cells #[.slice a0 n0 c0, .slice ar Q.length cr, .bool S.s0.opn, .slice a1 n1 c1, .slice a2 n2 c2, .bool S.s1.opn, .slice a3 n3 c3, .slice a4 n4 c4, .bool S.s2.opn, .slice a5 n5 c5, .slice a6 n6 c6, .int .i64 S.lock, .int .i64 S.clock, .int .i64 S.dead, .slice ab nb cb] 31) = wp := ⟨_, rfl⟩;obtain ⟨wq, hwq⟩ : ∃ wq, wp.alloc (.cells #[.slice none 0 0, .slice none 0 0, .bool false, .slice none 0 0, .slice none 0 0, .bool false, .slice none 0 0, .slice none 0 0, .bool false, .slice none 0 0, .slice none 0 0, .int .i64 0, .int .i64 0, .int .i64 0, .slice none 0 0] 46) = wq := ⟨_, rfl⟩;obtain ⟨wz, hwz⟩ : ∃ wz, wq.alloc (.cells #[.slice a0 n0 c0, .slice none 0 0, .bool false, .slice none 0 0, .slice none 0 0, .bool false, .slice none 0 0, .slice none 0 0, .bool false, .slice none 0 0, .slice none 0 0, .int .i64 S.lock, .int .i64 S.clock, .int .i64 S.dead, .slice ab nb cb] 46) = wz := ⟨_, rfl⟩;have hs1 : w.heap.size < wp.heap.size := by rw [← hwp]; simp
 have hs2 : wp.heap.size < wq.heap.size := by rw [← hwq]; simp
 have hs3 : wq.heap.size < wz.heap.size := by rw [← hwz]; simp
 have Bp : Bl wz w.heap.size #[.slice a0 n0 c0, .slice ar Q.length cr, .bool S.s0.opn, .slice a1 n1 c1, .slice a2 n2 c2, .bool S.s1.opn, .slice a3 n3 c3, .slice a4 n4 c4, .bool S.s2.opn, .slice a5 n5 c5, .slice a6 n6 c6, .int .i64 S.lock, .int .i64 S.clock, .int .i64 S.dead, .slice ab nb cb] 31 := by rw [← hwz, ← hwq, ← hwp]; exact ((Bl.new _ _ _).alloc _).alloc _
 have Bq : Bl wz wp.heap.size #[.slice none 0 0, .slice none 0 0, .bool false, .slice none 0 0, .slice none 0 0, .bool false, .slice none 0 0, .slice none 0 0, .bool false, .slice none 0 0, .slice none 0 0, .int .i64 0, .int .i64 0, .int .i64 0, .slice none 0 0] 46 := by rw [← hwz, ← hwq]; exact (Bl.new _ _ _).alloc _
 have Br : Bl wz wq.heap.size #[.slice a0 n0 c0, .slice none 0 0, .bool false, .slice none 0 0, .slice none 0 0, .bool false, .slice none 0 0, .slice none 0 0, .bool false, .slice none 0 0, .slice none 0 0, .int .i64 S.lock, .int .i64 S.clock, .int .i64 S.dead, .slice ab nb cb] 46 := by rw [← hwz]; exact Bl.new _ _ _
 have HBs : Hid (Below w.heap.size w wz) := by
  show Below _ _ _;rw [← hwz, ← hwq, ← hwp];refine Below.alloc (Below.alloc (Below.alloc (Yac _ _) (Yaf _) _) ?_ _) ?_ _ <;> simp <;> omega
 have hne1 : wp.heap.size ≠ w.heap.size := by omega
 have hne2 : wq.heap.size ≠ w.heap.size := by omega
 have hne3 : wq.heap.size ≠ wp.heap.size := by omega
 have hgp : w.heap.size ≤ wp.heap.size := by omega
 have hgq : w.heap.size ≤ wq.heap.size := by omega
 have HBp := Zhd Bp;have HBq := Zhd Bq;have HBr := Zhd Br;clear g0 g1 g2 g3 g4 g5 g6 gb hP hQd hQl hQr;have Bp1 : Bl wq w.heap.size #[.slice a0 n0 c0, .slice ar Q.length cr, .bool S.s0.opn, .slice a1 n1 c1, .slice a2 n2 c2, .bool S.s1.opn, .slice a3 n3 c3, .slice a4 n4 c4, .bool S.s2.opn, .slice a5 n5 c5, .slice a6 n6 c6, .int .i64 S.lock, .int .i64 S.clock, .int .i64 S.dead, .slice ab nb cb] 31 := by rw [← hwq, ← hwp]; exact (Bl.new _ _ _).alloc _
 have px0 := Bp1.cell 0;have px1 := Bp1.cell 1;have px2 := Bp1.cell 2;have px3 := Bp1.cell 3;have px4 := Bp1.cell 4;have px5 := Bp1.cell 5;have px6 := Bp1.cell 6;have px7 := Bp1.cell 7;have px8 := Bp1.cell 8;have px9 := Bp1.cell 9;have px10 := Bp1.cell 10;have px11 := Bp1.cell 11;have px12 := Bp1.cell 12;have px13 := Bp1.cell 13;have px14 := Bp1.cell 14;have rx1 : wz.cell? ⟨w.heap.size, 1, none⟩ = some (.slice ar Q.length cr) := (Bp.cell 1).trans rfl;go_enter func9, ntmps9;go_wp2_with fail;try rw [hwp]
 try rw [hwq]
 try rw [hwz]
 clear hwp hwq hwz Bp Bq Br Bp1 rx1 px0 px1 px2 px3 px4 px5 px6 px7 px8 px9 px10 px11 px12 px13 px14;go_loopw [4, 23] (fun v vk W => ∃ (k : Nat), k ≤ Q.length ∧ vk = .int .i64 k ∧ Hid (W.ownsRow w.heap.size 60 2 v k (rvc (Q.take k))) ∧ Hid (Bl W w.heap.size #[.slice a0 n0 c0, .slice ar Q.length cr, .bool S.s0.opn, .slice a1 n1 c1, .slice a2 n2 c2, .bool S.s1.opn, .slice a3 n3 c3, .slice a4 n4 c4, .bool S.s2.opn, .slice a5 n5 c5, .slice a6 n6 c6, .int .i64 S.lock, .int .i64 S.clock, .int .i64 S.dead, .slice ab nb cb] 31) ∧ Hid (Bl W wp.heap.size #[.slice none 0 0, .slice none 0 0, .bool false, .slice none 0 0, .slice none 0 0, .bool false, .slice none 0 0, .slice none 0 0, .bool false, .slice none 0 0, .slice none 0 0, .int .i64 0, .int .i64 0, .int .i64 0, .slice none 0 0] 46) ∧ Hid (Bl W wq.heap.size #[.slice a0 n0 c0, .slice none 0 0, .bool false, .slice none 0 0, .slice none 0 0, .bool false, .slice none 0 0, .slice none 0 0, .bool false, .slice none 0 0, .slice none 0 0, .int .i64 S.lock, .int .i64 S.clock, .int .i64 S.dead, .slice ab nb cb] 46) ∧ Hid (Below w.heap.size w W)) (fun _ vk _ => Q.length - (intOf vk).toNat)
 case atStart => exact ⟨0, Yav _, rfl, World.ownsRow_nil _ _ _ _, HBp, HBq, HBr, HBs.out⟩
 case round =>
  clear HBp HBq HBr HBs;obtain ⟨k, hk, rfl, HO, HBp, HBq, HBr, HBs⟩ := hrel;by_cases hlt : k < Q.length
  · have hkQ : k < Q.length := by omega
    obtain ⟨b, o, rfl, y0, y1⟩ := hQd2.out _ HBs.out k hkQ;have hlr := HQl.out _ (Yat hkQ);have HR2 := Zhd (Zaqa hkQ);generalize Q[k] = qk at *;obtain ⟨nq, vq, Tq⟩ := qk;obtain ⟨A9, n9, c9, e9⟩ := hlr.slice;simp only at e9;subst e9;have hki : (k : Int) < (Q.length : Int) := by omega
    obtain ⟨w7, hw7⟩ : ∃ w7, wr.alloc (.cells #[.int .i64 nq, .slice A9 n9 c9] 50) = w7 := ⟨_, rfl⟩;have hb7 : Below wr.heap.size wr w7 := by rw [← hw7]; exact (Yac _ _).alloc (Yaf _) _
    have HB7 := Zhd (Zaa HBs.out hb7);have HO7 := Zhd (Zah HO.out hb7);have HP7 := Zhd (HBp.out.below hb7);have HQ7 := Zhd (HBq.out.below hb7);have HR7 := Zhd (HBr.out.below hb7);have z0 : w7.cell? ⟨wr.heap.size, 0, none⟩ = some (.int .i64 nq) := by rw [← hw7]; exact ((Bl.new wr _ _).cell 0).trans rfl
    have z1 : w7.cell? ⟨wr.heap.size, 1, none⟩ = some (.slice A9 n9 c9) := by rw [← hw7]; exact ((Bl.new wr _ _).cell 1).trans rfl
    clear hlr hb7 HO HBp HBq HBr HBs;go_wp2_with (at_builtin; refine Zjs rfl _ _ 42 rfl w w7 60 i0 _ 2 32 underlying42 hii hz0 hz1 hz2 rfl (by decide) (by decide) HO7.out HB7.out rfl 1 1 [.int .i64 nq, .slice A9 n9 c9] rfl rfl (by intro u hu; simp only [Yaw, Ybv, or_false] at hu; rcases hu with rfl | rfl <;> rfl) (by omega) ?_; intro v8 w8 hown8 hb8 hk8)
    have HO8 : Hid (w8.ownsRow w.heap.size 60 2 v8 (k + 1) (rvc (Q.take (k + 1)))) := by rw [HR2.out]; exact hown8
    have HP8 := Zhd (Zabw HP7.out hk8 (by decide))
    have HQ8 := Zhd (Zabw HQ7.out hk8 (by decide))
    have HR8 := Zhd (Zabw HR7.out hk8 (by decide))
    have HB8 := Zhd hb8;clear hown8 hb8 hk8 HO7 HP7 HQ7 HR7 HB7 HR2 y0 y1 z0 z1 hw7;go_wp2_with fail;go_roundw
    case rel => exact ⟨k + 1, by omega, by go_num, HO8, HP8, HQ8, HR8, HB8.out⟩
    case measure => simp [intOf]; omega
  · obtain rfl : k = Q.length := by omega
    obtain ⟨Aq, cq, rfl, f1, f2, -⟩ := Zbc HO.out;have hnil := (Zkb HO.out).2;rw [show Q.take Q.length = Q from Ybw] at *
    have hOne : Hid (∀ x : Value, (Value.slice Aq Q.length cq).ownBlock ≠ some wq.heap.size) := fun _ h => by
     obtain ⟨x, hx⟩ : ∃ x, wr.heap[wq.heap.size]? = some (.cells x 60 (0, 0)) := by
      rcases HO.out.2 with ⟨h1, -⟩ | ⟨q2, cap2, cur, h1, -, hh, -⟩
      · rw [h1] at h; cases h
      · rw [h1] at h;injection h with h
        have h : q2 = wq.heap.size := h;exact ⟨cur, by rw [← h]; exact hh⟩
     rw [show wr.heap[wq.heap.size]? = _ from HBr.out] at hx;injection hx with hx
     injection hx with _ hx
     exact absurd hx (by decide)
    have rf : ∀ j, wr.frozen? ⟨wq.heap.size, j, none⟩ = false := HBr.out.froz;have r1 : wr.cell? ⟨wq.heap.size, 1, none⟩ = some (.slice none 0 0) := (HBr.out.cell 1).trans rfl;obtain ⟨w8, hw8⟩ : ∃ x, wr.setCell ⟨wq.heap.size, 1, none⟩ (.slice Aq Q.length cq) = x := ⟨_, rfl⟩;have HP8 : Hid (Bl w8 w.heap.size #[.slice a0 n0 c0, .slice ar Q.length cr, .bool S.s0.opn, .slice a1 n1 c1, .slice a2 n2 c2, .bool S.s1.opn, .slice a3 n3 c3, .slice a4 n4 c4, .bool S.s2.opn, .slice a5 n5 c5, .slice a6 n6 c6, .int .i64 S.lock, .int .i64 S.clock, .int .i64 S.dead, .slice ab nb cb] 31) := by show Bl _ _ _ _; rw [← hw8]; exact HBp.out.other hne2.symm _
    have HQ8 : Hid (Bl w8 wp.heap.size #[.slice none 0 0, .slice none 0 0, .bool false, .slice none 0 0, .slice none 0 0, .bool false, .slice none 0 0, .slice none 0 0, .bool false, .slice none 0 0, .slice none 0 0, .int .i64 0, .int .i64 0, .int .i64 0, .slice none 0 0] 46) := by show Bl _ _ _ _; rw [← hw8]; exact HBq.out.other hne3.symm _
    have HR8 : Hid (Bl w8 wq.heap.size (refD S (.slice Aq Q.length cq) (.slice a0 n0 c0) (.slice a1 n1 c1) (.slice a2 n2 c2) (.slice a3 n3 c3) (.slice a4 n4 c4) (.slice a5 n5 c5) (.slice a6 n6 c6) (.slice ab nb cb) 0) 46) := by show Bl _ _ _ _; rw [← hw8]; exact HBr.out.set 1 _
    have HO8 : Hid (w8.ownsRow w.heap.size 60 2 (.slice Aq Q.length cq) Q.length (rvc Q)) := by show World.ownsRow _ _ _ _ _ _ _; rw [← hw8]; exact ownsRow_setCell_other (a := ⟨_, _, none⟩) HO.out (hOne.out undef) _
    have HB8 : Hid (Below w.heap.size w w8) := by show Below _ _ _; rw [← hw8]; exact HBs.out.setCell (p := ⟨_, _, none⟩) hgq _
    have px2 := HP8.out.cell 2;have px3 := HP8.out.cell 3;have px4 := HP8.out.cell 4;have px5 := HP8.out.cell 5;have px6 := HP8.out.cell 6;have px7 := HP8.out.cell 7;have px8 := HP8.out.cell 8;have px9 := HP8.out.cell 9;have px10 := HP8.out.cell 10;go_wp2_with fail;try rw [hw8]
    clear hw8 r1 rf HO HBp HBq HBr HBs hOne px2 px3 px4 px5 px6 px7 px8 px9 px10;go_loopw [36] (fun vk W => ∃ k : Nat, k ≤ 3 ∧ vk = .int .i64 k ∧ Hid (Bl W wq.heap.size (refD S (.slice Aq Q.length cq) (.slice a0 n0 c0) (.slice a1 n1 c1) (.slice a2 n2 c2) (.slice a3 n3 c3) (.slice a4 n4 c4) (.slice a5 n5 c5) (.slice a6 n6 c6) (.slice ab nb cb) k) 46) ∧ Hid (Bl W w.heap.size #[.slice a0 n0 c0, .slice ar Q.length cr, .bool S.s0.opn, .slice a1 n1 c1, .slice a2 n2 c2, .bool S.s1.opn, .slice a3 n3 c3, .slice a4 n4 c4, .bool S.s2.opn, .slice a5 n5 c5, .slice a6 n6 c6, .int .i64 S.lock, .int .i64 S.clock, .int .i64 S.dead, .slice ab nb cb] 31) ∧ Hid (Bl W wp.heap.size #[.slice none 0 0, .slice none 0 0, .bool false, .slice none 0 0, .slice none 0 0, .bool false, .slice none 0 0, .slice none 0 0, .bool false, .slice none 0 0, .slice none 0 0, .int .i64 0, .int .i64 0, .int .i64 0, .slice none 0 0] 46) ∧ Hid (W.ownsRow w.heap.size 60 2 (.slice Aq Q.length cq) Q.length (rvc Q)) ∧ Hid (Below w.heap.size w W)) (fun vk _ => 3 - (intOf vk).toNat)
    case atStart => exact ⟨0, by decide, rfl, HR8, HP8, HQ8, HO8, HB8⟩
    case round =>
     clear HR8 HP8 HQ8 HO8 HB8;obtain ⟨k, hk3, rfl, HBr, HBp, HBq, HO, HBs⟩ := hrel
     have hOne : Hid (∀ x : Value, (Value.slice Aq Q.length cq).ownBlock ≠ some wq.heap.size) := fun _ h => by
      obtain ⟨x, hx⟩ : ∃ x, wr.heap[wq.heap.size]? = some (.cells x 60 (0, 0)) := by
       rcases HO.out.2 with ⟨h1, -⟩ | ⟨q2, cap2, cur, h1, -, hh, -⟩
       · rw [h1] at h; cases h
       · rw [h1] at h;injection h with h
         have h : q2 = wq.heap.size := h;exact ⟨cur, by rw [← h]; exact hh⟩
      rw [show wr.heap[wq.heap.size]? = _ from HBr.out] at hx;injection hx with hx
      injection hx with _ hx
      exact absurd hx (by decide)
     have rf : ∀ j, wr.frozen? ⟨wq.heap.size, j, none⟩ = false := HBr.out.froz;have hsz : ∀ h, (prog.types[28]'h).size = 3 := fun h => by kernel_rfl
     have hx0 : (#[.bool S.s0.opn, .slice a1 n1 c1, .slice a2 n2 c2, .bool S.s1.opn, .slice a3 n3 c3, .slice a4 n4 c4, .bool S.s2.opn, .slice a5 n5 c5, .slice a6 n6 c6] : Array Value).extract 0 3 = #[.bool S.s0.opn, .slice a1 n1 c1, .slice a2 n2 c2] := rfl;have hx1 : (#[.bool S.s0.opn, .slice a1 n1 c1, .slice a2 n2 c2, .bool S.s1.opn, .slice a3 n3 c3, .slice a4 n4 c4, .bool S.s2.opn, .slice a5 n5 c5, .slice a6 n6 c6] : Array Value).extract 3 6 = #[.bool S.s1.opn, .slice a3 n3 c3, .slice a4 n4 c4] := rfl;have hx2 : (#[.bool S.s0.opn, .slice a1 n1 c1, .slice a2 n2 c2, .bool S.s1.opn, .slice a3 n3 c3, .slice a4 n4 c4, .bool S.s2.opn, .slice a5 n5 c5, .slice a6 n6 c6] : Array Value).extract 6 9 = #[.bool S.s2.opn, .slice a5 n5 c5, .slice a6 n6 c6] := rfl
     match k, hk3 with
     | 0, _ =>
       obtain ⟨w7, hw7⟩ : ∃ w7, wr.alloc (.cells #[.bool S.s0.opn, .slice a1 n1 c1, .slice a2 n2 c2] 28) = w7 := ⟨_, rfl⟩;have hb7 : Below wr.heap.size wr w7 := by rw [← hw7]; exact (Yac _ _).alloc (Yaf _) _
       have B7p := HBp.out.below hb7;have B7q := HBq.out.below hb7;have B7r := HBr.out.below hb7;have B7s : Bl w7 wr.heap.size #[.bool S.s0.opn, .slice a1 n1 c1, .slice a2 n2 c2] 28 := by rw [← hw7]; exact Bl.new _ _ _
       have HO7 := Zhd (Zah HO.out hb7);have HB7 := Zhd (Zaa HBs.out hb7);have r0 : w7.cell? ⟨wq.heap.size, 2, none⟩ = some (.bool false) := (B7r.cell 2).trans rfl;have r1 : w7.cell? ⟨wq.heap.size, 3, none⟩ = some (.slice none 0 0) := (B7r.cell 3).trans rfl;have r2 : w7.cell? ⟨wq.heap.size, 4, none⟩ = some (.slice none 0 0) := (B7r.cell 4).trans rfl;have s0 := B7s.cell 0;have s1 := B7s.cell 1;have s2 := B7s.cell 2;replace rf : ∀ j, w7.frozen? ⟨wq.heap.size, j, none⟩ = false := B7r.froz;clear hb7;go_wp2_with fail;rename_i hKx;refine hKx _ _ ?_;clear hKx;simp only [hsz, Act.put, Yaa, Yah, Yai, Int.toNat_zero, Int.toNat_one, Int.reduceToNat, Nat.zero_mul, Nat.one_mul, Ybf, Nat.reduceMul, Nat.reduceAdd, hx0, hx1, hx2];go_wp2_with fail;go_roundw
       case rel => exact ⟨1, by decide, by go_num, ((B7r.set 2 _).set 3 _).set 4 _, ((B7p.other hne2.symm _).other hne2.symm _).other hne2.symm _, ((B7q.other hne3.symm _).other hne3.symm _).other hne3.symm _, ownsRow_setCell_other (a := ⟨_, _, none⟩) (ownsRow_setCell_other (a := ⟨_, _, none⟩) (ownsRow_setCell_other (a := ⟨_, _, none⟩) HO7.out (hOne.out undef) _) (hOne.out undef) _) (hOne.out undef) _, ((HB7.out.setCell (p := ⟨_, _, none⟩) hgq _).setCell (p := ⟨_, _, none⟩) hgq _).setCell (p := ⟨_, _, none⟩) hgq _⟩
       case measure => simp [intOf]
     | 1, _ =>
       obtain ⟨w7, hw7⟩ : ∃ w7, wr.alloc (.cells #[.bool S.s1.opn, .slice a3 n3 c3, .slice a4 n4 c4] 28) = w7 := ⟨_, rfl⟩;have hb7 : Below wr.heap.size wr w7 := by rw [← hw7]; exact (Yac _ _).alloc (Yaf _) _
       have B7p := HBp.out.below hb7;have B7q := HBq.out.below hb7;have B7r := HBr.out.below hb7;have B7s : Bl w7 wr.heap.size #[.bool S.s1.opn, .slice a3 n3 c3, .slice a4 n4 c4] 28 := by rw [← hw7]; exact Bl.new _ _ _
       have HO7 := Zhd (Zah HO.out hb7);have HB7 := Zhd (Zaa HBs.out hb7);have r0 : w7.cell? ⟨wq.heap.size, 5, none⟩ = some (.bool false) := (B7r.cell 5).trans rfl;have r1 : w7.cell? ⟨wq.heap.size, 6, none⟩ = some (.slice none 0 0) := (B7r.cell 6).trans rfl;have r2 : w7.cell? ⟨wq.heap.size, 7, none⟩ = some (.slice none 0 0) := (B7r.cell 7).trans rfl;have s0 := B7s.cell 0;have s1 := B7s.cell 1;have s2 := B7s.cell 2;replace rf : ∀ j, w7.frozen? ⟨wq.heap.size, j, none⟩ = false := B7r.froz;clear hb7;go_wp2_with fail;rename_i hKx;refine hKx _ _ ?_;clear hKx;simp only [hsz, Act.put, Yaa, Yah, Yai, Int.toNat_zero, Int.toNat_one, Int.reduceToNat, Nat.zero_mul, Nat.one_mul, Ybf, Nat.reduceMul, Nat.reduceAdd, hx0, hx1, hx2];go_wp2_with fail;go_roundw
       case rel => exact ⟨2, by decide, by go_num, ((B7r.set 5 _).set 6 _).set 7 _, ((B7p.other hne2.symm _).other hne2.symm _).other hne2.symm _, ((B7q.other hne3.symm _).other hne3.symm _).other hne3.symm _, ownsRow_setCell_other (a := ⟨_, _, none⟩) (ownsRow_setCell_other (a := ⟨_, _, none⟩) (ownsRow_setCell_other (a := ⟨_, _, none⟩) HO7.out (hOne.out undef) _) (hOne.out undef) _) (hOne.out undef) _, ((HB7.out.setCell (p := ⟨_, _, none⟩) hgq _).setCell (p := ⟨_, _, none⟩) hgq _).setCell (p := ⟨_, _, none⟩) hgq _⟩
       case measure => simp [intOf]
     | 2, _ =>
       obtain ⟨w7, hw7⟩ : ∃ w7, wr.alloc (.cells #[.bool S.s2.opn, .slice a5 n5 c5, .slice a6 n6 c6] 28) = w7 := ⟨_, rfl⟩;have hb7 : Below wr.heap.size wr w7 := by rw [← hw7]; exact (Yac _ _).alloc (Yaf _) _
       have B7p := HBp.out.below hb7;have B7q := HBq.out.below hb7;have B7r := HBr.out.below hb7;have B7s : Bl w7 wr.heap.size #[.bool S.s2.opn, .slice a5 n5 c5, .slice a6 n6 c6] 28 := by rw [← hw7]; exact Bl.new _ _ _
       have HO7 := Zhd (Zah HO.out hb7);have HB7 := Zhd (Zaa HBs.out hb7);have r0 : w7.cell? ⟨wq.heap.size, 8, none⟩ = some (.bool false) := (B7r.cell 8).trans rfl;have r1 : w7.cell? ⟨wq.heap.size, 9, none⟩ = some (.slice none 0 0) := (B7r.cell 9).trans rfl;have r2 : w7.cell? ⟨wq.heap.size, 10, none⟩ = some (.slice none 0 0) := (B7r.cell 10).trans rfl;have s0 := B7s.cell 0;have s1 := B7s.cell 1;have s2 := B7s.cell 2;replace rf : ∀ j, w7.frozen? ⟨wq.heap.size, j, none⟩ = false := B7r.froz;clear hb7;go_wp2_with fail;rename_i hKx;refine hKx _ _ ?_;clear hKx;simp only [hsz, Act.put, Yaa, Yah, Yai, Int.toNat_zero, Int.toNat_one, Int.reduceToNat, Nat.zero_mul, Nat.one_mul, Ybf, Nat.reduceMul, Nat.reduceAdd, hx0, hx1, hx2];go_wp2_with fail;go_roundw
       case rel => exact ⟨3, by decide, by go_num, ((B7r.set 8 _).set 9 _).set 10 _, ((B7p.other hne2.symm _).other hne2.symm _).other hne2.symm _, ((B7q.other hne3.symm _).other hne3.symm _).other hne3.symm _, ownsRow_setCell_other (a := ⟨_, _, none⟩) (ownsRow_setCell_other (a := ⟨_, _, none⟩) (ownsRow_setCell_other (a := ⟨_, _, none⟩) HO7.out (hOne.out undef) _) (hOne.out undef) _) (hOne.out undef) _, ((HB7.out.setCell (p := ⟨_, _, none⟩) hgq _).setCell (p := ⟨_, _, none⟩) hgq _).setCell (p := ⟨_, _, none⟩) hgq _⟩
       case measure => simp [intOf]
     | 3, _ =>
       clear hOne rf;go_upto_region 14 with fail
       refine wp_region_lit ?_;refine wpList_load_mid rfl 46 _ rfl wq.heap.size 0 (by rfl) ((refD S (.slice Aq Q.length cq) (.slice a0 n0 c0) (.slice a1 n1 c1) (.slice a2 n2 c2) (.slice a3 n3 c3) (.slice a4 n4 c4) (.slice a5 n5 c5) (.slice a6 n6 c6) (.slice ab nb cb) 3) : Array Value).toList _ HBr.out.range underlying46 rfl Zlw ?_
       try simp only [Act.put, Yaa, Yah, Yai]
       refine wpList_store_mid rfl 46 _ _ rfl wp.heap.size 0 (refD S (.slice Aq Q.length cq) (.slice a0 n0 c0) (.slice a1 n1 c1) (.slice a2 n2 c2) (.slice a3 n3 c3) (.slice a4 n4 c4) (.slice a5 n5 c5) (.slice a6 n6 c6) (.slice ab nb cb) 3) (by rfl) (by rfl) (HBq.out.there (Yaf 15)) Zlw (Zapv (by rfl)) ?_
       refine wpList_nil ?_;try simp only [Act.put, Yaa, Yah, Yai]
       have Bq9 := HBq.out.sets (D := (refD S (.slice Aq Q.length cq) (.slice a0 n0 c0) (.slice a1 n1 c1) (.slice a2 n2 c2) (.slice a3 n3 c3) (.slice a4 n4 c4) (.slice a5 n5 c5) (.slice a6 n6 c6) (.slice ab nb cb) 3)) rfl;have HB9 := Zal hgp ((refD S (.slice Aq Q.length cq) (.slice a0 n0 c0) (.slice a1 n1 c1) (.slice a2 n2 c2) (.slice a3 n3 c3) (.slice a4 n4 c4) (.slice a5 n5 c5) (.slice a6 n6 c6) (.slice ab nb cb) 3) : Array Value).toList 0 HBs.out
       have hO9 : RvR (wr.setCells wp.heap.size 0 ((refD S (.slice Aq Q.length cq) (.slice a0 n0 c0) (.slice a1 n1 c1) (.slice a2 n2 c2) (.slice a3 n3 c3) (.slice a4 n4 c4) (.slice a5 n5 c5) (.slice a6 n6 c6) (.slice ab nb cb) 3) : Array Value).toList) Aq Q.length cq S.revs := by
        have hO0 : RvR wr Aq Q.length cq S.revs := ⟨f1, f2, hnil, Q, rfl, HQr.out, (Zkb HO.out).1, fun q hq => (HQl.out q hq).below HBs.out, fun a e hn => by
         subst e;rcases HO.out.2 with ⟨h1, -⟩ | ⟨q2, cap2, cur, h1, -, hh, -⟩
         · cases h1
         · injection h1 with h1
           injection h1 with h1
           exact ⟨cur, _, by rw [h1]; exact hh, rfl⟩⟩
        exact hO0.off HBq.out (by decide) rfl ((Off.refl _ _).setCells _ 0)
       obtain ⟨g0, -, g1, g2, g3, g4, g5, g6, gb⟩ := HG.out _ HB9;have HX := Zhd (show PlR _ (.agg (refD S (.slice Aq Q.length cq) (.slice a0 n0 c0) (.slice a1 n1 c1) (.slice a2 n2 c2) (.slice a3 n3 c3) (.slice a4 n4 c4) (.slice a5 n5 c5) (.slice a6 n6 c6) (.slice ab nb cb) 3)) S from ⟨_, _, _, _, _, _, _, _, _, _, _, _, _, _, _, _, _, _, _, _, _, _, _, _, _, _, _, rfl, g0, hO9, g1, g2, g3, g4, g5, g6, gb⟩)
       have HB9' := Zhd HB9;clear HB9 hO9 g0 g1 g2 g3 g4 g5 g6 gb HBr HBp HBq HO HBs;go_wp2_with fail;refine bodyPost_ret (Zaxs results9 (by rfl) Bq9 rfl) rfl ?_
       obtain ⟨D, e, hD⟩ := HX.out.cells;exact ⟨⟨D, by rw [e], hD⟩, HB9'.out⟩
theorem Zfw (v1 v2 : Value) (L : List Line) (w : World) (h1 : Lr w v1 L) (h2 : Lr w v2 L) :
 Calls prog 11 #[v1, v2] w fun e w' => e = .returned (.bool true) ∧ Below w.heap.size w w' := by
 obtain ⟨A, c, rfl, hc, hm, hR, -⟩ := h1;obtain ⟨A2, c2, rfl, hc2, -, hR2, -⟩ := h2;unfold maxLen at hm;have HR := Zhd hR;have HR2 := Zhd hR2;clear hR hR2;go_enter func11, ntmps11;go_wp2;go_loopw [5] (fun vi wr => ∃ k : Nat, k ≤ L.length ∧ vi = .int .i64 k ∧ Below w.heap.size w wr) (fun vi _ => L.length - (intOf vi).toNat)
 case atStart => exact ⟨0, Yav _, rfl, Yac _ _⟩
 case round =>
  obtain ⟨k, hk, rfl, hbw⟩ := hrel;by_cases hlt : k < L.length
  · obtain ⟨B, O, rfl, hB, hadd, x0, x1, x2⟩ := (HR.out.below hbw).line hlt;obtain ⟨B2, O2, rfl, hB2, hadd2, y0, y1, y2⟩ := (HR2.out.below hbw).line hlt;generalize L[k] = a at *;obtain ⟨d1, s1, m1⟩ := a;have e4 : (s1.toList == s1.toList) = true := by rw [beq_iff_eq]
    go_wp2_with fail;go_region_held3 (fun W => W.cell? ⟨B, O + k * 3, none⟩ = some (.int .i64 d1) ∧ W.cell? ⟨B, O + k * 3 + 1, none⟩ = some (.string s1) ∧ W.cell? ⟨B, O + k * 3 + 2, none⟩ = some (.int .i64 m1) ∧ W.cell? ⟨B2, O2 + k * 3, none⟩ = some (.int .i64 d1) ∧ W.cell? ⟨B2, O2 + k * 3 + 1, none⟩ = some (.string s1) ∧ W.cell? ⟨B2, O2 + k * 3 + 2, none⟩ = some (.int .i64 m1)) (go_keep) ((fail))
    go_wp2_with fail;go_roundw
    case rel =>
     exact ⟨k + 1, by omega, by go_num, hbw.drew⟩
    case measure => simp [intOf]; omega
  · have hke : k = L.length := by omega
    subst hke;go_wp2;go_ret;exact ⟨rfl, hbw⟩
attribute [local go_sem] Zlr Zis
theorem Zass (W : World) (a b : Array Value) (T U : TypeId) : Bl ((W.alloc (.cells a T)).alloc (.cells b U)).drew W.heap.size a T ∧ Bl ((W.alloc (.cells a T)).alloc (.cells b U)).drew (W.heap.size + 1) b U ∧ Below W.heap.size W ((W.alloc (.cells a T)).alloc (.cells b U)).drew :=
 by
 have hs : (W.alloc (.cells a T)).heap.size = W.heap.size + 1 := by simp
 refine ⟨((Bl.new W a T).alloc _).drew, hs ▸ (Bl.new _ b U).drew, ?_⟩;exact (((Yac _ W).alloc (Yaf _) _).alloc (by simp) _).drew
theorem RvR.len {w : World} {A : Option Addr} {n c : Nat} {R : List (Int × List Line)} (h : RvR w A n c R) : n = R.length := by
 obtain ⟨-, -, -, Q, h1, h2, -⟩ := h;rw [← h1, ← h2, Yax]
theorem RvR.at {w : World} {A : Option Addr} {n c : Nat} {R : List (Int × List Line)} (h : RvR w A n c R) {k : Nat} (hk : k < R.length) :
 ∃ b o v, A = some ⟨b, o, none⟩ ∧ w.cell? ⟨b, o + k * 2, none⟩ = some (.int .i64 R[k].1) ∧ w.cell? ⟨b, o + k * 2 + 1, none⟩ = some v ∧ Lr w v R[k].2 := by
 have hn := h.len;obtain ⟨-, -, -, Q, h1, h2, h3, h4, -⟩ := h;have hkQ : k < Q.length := by omega
 obtain ⟨ad, e, hbl, hx⟩ := h3.2 (by omega)
 have hg := Zgb Q k hkQ;have hsp : ad.spot = none := by
  have h00 := hx 0 _ (Zgb Q 0 (by omega)).1
  have h2 := World.cell?_spot h00;have h3 : ad.add 0 = ad := by simp [Addr.add]
  rwa [h3] at h2
 obtain ⟨b, o, sp⟩ := ad;obtain rfl : sp = none := hsp;have c1 := hx _ _ hg.1;have c2 := hx _ _ hg.2;rw [Zae] at c1 c2
 have eR : R[k] = (Q[k].1, Q[k].2.2) := by
  have : R[k]? = some (Q[k].1, Q[k].2.2) := by rw [← h2, Ycs, Yag hkQ]; rfl
  rw [Yag hk] at this;injection this
 rw [eR];exact ⟨b, o, Q[k].2.1, e, c1, by rw [show o + k * 2 + 1 = o + (k * 2 + 1) by omega]; exact c2, h4 _ (Yat hkQ)⟩
theorem Zpn (x : Int) : (x != x) = false := bne_self_eq_false x
theorem Zakk (x : Bool) : (x != x) = false := bne_self_eq_false x
theorem Zpk (x : Int) : (x == x) = true := by rw [beq_iff_eq]
theorem Zalv (x : Bool) : (x == x) = true := by rw [beq_iff_eq]
theorem Zaey (C D : Array Value) (S : Ps) (w : World) (hC : PlC w C S) (hD : PlC w D S) :
 Calls prog 8 #[.agg C, .agg D] w fun e w' => e = .returned (.bool true) ∧ Below w.heap.size w w' := by
 obtain ⟨wp, hwp⟩ : ∃ wp, w.alloc (.cells C 46) = wp := ⟨_, rfl⟩;obtain ⟨wq, hwq⟩ : ∃ wq, wp.alloc (.cells D 46) = wq := ⟨_, rfl⟩;have hs1 : w.heap.size < wp.heap.size := by rw [← hwp]; simp
 have hs2 : wp.heap.size < wq.heap.size := by rw [← hwq]; simp
 have Bp : Bl wq w.heap.size C 46 := by rw [← hwq, ← hwp]; exact (Bl.new _ _ _).alloc _
 have Bq : Bl wq wp.heap.size D 46 := by rw [← hwq]; exact Bl.new _ _ _
 have hb1 : Below w.heap.size w wp := by rw [← hwp]; exact (Yac _ _).alloc (Yaf _) _
 have HB : Hid (Below w.heap.size w wq) := by show Below _ _ _; rw [← hwq]; exact hb1.alloc hb1.size _
 have HBp : Hid (∀ W, Below wq.heap.size wq W → Bl W w.heap.size C 46 ∧ Bl W wp.heap.size D 46) := fun W hb => ⟨Bp.below hb, Bq.below hb⟩
 obtain ⟨v0, e0, l0⟩ := hC.run;obtain ⟨u0, f0, m0⟩ := hD.run;obtain ⟨A0, n0, c0, rfl⟩ := l0.slice;obtain ⟨A1, n1, c1, rfl⟩ := m0.slice;obtain ⟨vb, eb, lb⟩ := hC.back;obtain ⟨ub, fb, mb⟩ := hD.back;obtain ⟨A2, n2, c2, rfl⟩ := lb.slice;obtain ⟨A3, n3, c3, rfl⟩ := mb.slice;obtain ⟨Ar, nr, cr, er, hr⟩ := hC.revs;obtain ⟨Aq, nq, cq, fr, hq⟩ := hD.revs;obtain rfl := hr.len;obtain rfl := hq.len;have hr1 := hr.1;have hq1 := hq.1;have hr2 := hr.2.1;have hq2 := hq.2.1;unfold maxLen at hr2 hq2;have HS1 := Zhd (fun (W : World) (hb : Below wq.heap.size wq W) => Zfw _ _ S.run W (l0.below (Zaa HB.out hb)) (m0.below (Zaa HB.out hb)))
 have HS2 := Zhd (fun (W : World) (hb : Below wq.heap.size wq W) => Zfw _ _ S.back W (lb.below (Zaa HB.out hb)) (mb.below (Zaa HB.out hb)))
 have HR := Zhd (fun (W : World) (hb : Below wq.heap.size wq W) (k : Nat) (hk : k < S.revs.length) => (hr.below (Zaa HB.out hb)).at hk)
 have HQ := Zhd (fun (W : World) (hb : Below wq.heap.size wq W) (k : Nat) (hk : k < S.revs.length) => (hq.below (Zaa HB.out hb)).at hk)
 have HC := Zhd (fun (W : World) (hb : Below wq.heap.size wq W) => hC.below (Zaa HB.out hb))
 have HD := Zhd (fun (W : World) (hb : Below wq.heap.size wq W) => hD.below (Zaa HB.out hb))
 have hpx : ∀ W, Below wq.heap.size wq W → W.cell? ⟨w.heap.size, 0, none⟩ = some (.slice A0 n0 c0) ∧ W.cell? ⟨w.heap.size, 1, none⟩ = some (.slice Ar S.revs.length cr) ∧ W.cell? ⟨w.heap.size, 11, none⟩ = some (.int .i64 S.lock) ∧ W.cell? ⟨w.heap.size, 12, none⟩ = some (.int .i64 S.clock) ∧ W.cell? ⟨w.heap.size, 13, none⟩ = some (.int .i64 S.dead) ∧ W.cell? ⟨w.heap.size, 14, none⟩ = some (.slice A2 n2 c2) := fun W hb => by
  have B := (HBp.out W hb).1;exact ⟨(B.cell _).trans e0, (B.cell _).trans er, (B.cell _).trans hC.lock, (B.cell _).trans hC.clock, (B.cell _).trans hC.dead, (B.cell _).trans eb⟩
 have hqx : ∀ W, Below wq.heap.size wq W → W.cell? ⟨wp.heap.size, 0, none⟩ = some (.slice A1 n1 c1) ∧ W.cell? ⟨wp.heap.size, 1, none⟩ = some (.slice Aq S.revs.length cq) ∧ W.cell? ⟨wp.heap.size, 11, none⟩ = some (.int .i64 S.lock) ∧ W.cell? ⟨wp.heap.size, 12, none⟩ = some (.int .i64 S.clock) ∧ W.cell? ⟨wp.heap.size, 13, none⟩ = some (.int .i64 S.dead) ∧ W.cell? ⟨wp.heap.size, 14, none⟩ = some (.slice A3 n3 c3) := fun W hb => by
  have B := (HBp.out W hb).2;exact ⟨(B.cell _).trans f0, (B.cell _).trans fr, (B.cell _).trans hD.lock, (B.cell _).trans hD.clock, (B.cell _).trans hD.dead, (B.cell _).trans fb⟩
 have HPX := Zhd hpx;have HQX := Zhd hqx;have mixed : prog.follows .mixedOrders = true := by kernel_rfl
 have g1 := Zpn S.lock;have g2 := Zpn S.clock;have g3 := Zpn S.dead;have h1 := Zpk S.lock;have h2 := Zpk S.clock;have h3 := Zpk S.dead;clear hC hD l0 m0 lb mb hr hq hpx hqx e0 f0 eb fb er fr Bp Bq hb1;obtain ⟨p0, p1, p2, p3, p4, p5⟩ := HPX.out wq (Yac _ _);obtain ⟨q0, q1, q2, q3, q4, q5⟩ := HQX.out wq (Yac _ _);go_enter func8, ntmps8;go_wp2_with fail;refine (HS1.out _ (Yac _ _)).mono ?_;rintro e w2 ⟨rfl, hb2⟩;clear p0 p1 p2 p3 p4 p5 q0 q1 q2 q3 q4 q5;obtain ⟨p0, p1, p2, p3, p4, p5⟩ := HPX.out w2 hb2;obtain ⟨q0, q1, q2, q3, q4, q5⟩ := HQX.out w2 hb2;go_wp2_with fail;refine (HS2.out _ hb2).mono ?_;rintro e w3 ⟨rfl, hb3⟩;have HB3 := Zhd (Zaa hb2 hb3);clear hb2 hb3 p0 p1 p2 p3 p4 p5 q0 q1 q2 q3 q4 q5 HS1 HS2;obtain ⟨p0, p1, p2, p3, p4, p5⟩ := HPX.out w3 HB3.out;obtain ⟨q0, q1, q2, q3, q4, q5⟩ := HQX.out w3 HB3.out;go_wp2_with fail;clear p0 p1 p2 p3 p4 p5 q0 q1 q2 q3 q4 q5;go_loopw [5] (fun vk W => ∃ k : Nat, k ≤ S.revs.length ∧ vk = .int .i64 k ∧ Hid (Below wq.heap.size wq W)) (fun vk _ => S.revs.length - (intOf vk).toNat)
 case atStart => exact ⟨0, Yav _, rfl, HB3⟩
 case round =>
  clear HB3;obtain ⟨k, hk, rfl, HBw⟩ := hrel;obtain ⟨p0, p1, p2, p3, p4, p5⟩ := HPX.out wr HBw.out;obtain ⟨q0, q1, q2, q3, q4, q5⟩ := HQX.out wr HBw.out;clear p0 p2 p3 p4 p5 q0 q2 q3 q4 q5;by_cases hlt : k < S.revs.length
  · obtain ⟨b, o, v, rfl, x0, x1, x2⟩ := HR.out wr HBw.out k hlt;obtain ⟨b2, o2, v2, rfl, y0, y1, y2⟩ := HQ.out wr HBw.out k hlt;have HSk := Zhd (fun (W : World) (hb : Below wr.heap.size wr W) => Zfw _ _ _ W (x2.below hb) (y2.below hb))
    obtain ⟨A5, n5, c5, rfl⟩ := x2.slice;obtain ⟨A6, n6, c6, rfl⟩ := y2.slice;generalize S.revs[k] = rv at *;obtain ⟨nm, tr⟩ := rv;have g4 := Zpn nm;have h4 := Zpk nm;have hkI : (k : Int) < (S.revs.length : Int) := by omega
    have HK : Hid (∀ W, Below wr.heap.size wr W → W.cell? ⟨w.heap.size, 1, none⟩ = some (.slice (some ⟨b, o, none⟩) S.revs.length cr) ∧ W.cell? ⟨b, o + k * 2, none⟩ = some (.int .i64 nm) ∧ W.cell? ⟨b, o + k * 2 + 1, none⟩ = some (.slice A5 n5 c5) ∧ W.cell? ⟨wp.heap.size, 1, none⟩ = some (.slice (some ⟨b2, o2, none⟩) S.revs.length cq) ∧ W.cell? ⟨b2, o2 + k * 2, none⟩ = some (.int .i64 nm) ∧ W.cell? ⟨b2, o2 + k * 2 + 1, none⟩ = some (.slice A6 n6 c6)) := fun W hb =>
     ⟨(HPX.out W (Zaa HBw.out hb)).2.1, (hb.cell (Lib.lt_of_cell x0)).trans x0, (hb.cell (Lib.lt_of_cell x1)).trans x1, (HQX.out W (Zaa HBw.out hb)).2.1, (hb.cell (Lib.lt_of_cell y0)).trans y0, (hb.cell (Lib.lt_of_cell y1)).trans y1⟩
    have HA := Zhd (Yac wr.heap.size wr).drew;clear x2 y2 x0 x1 y0 y1;go_wp2_with fail;go_region_held3 (fun W => W.cell? ⟨w.heap.size, 1, none⟩ = some (.slice (some ⟨b, o, none⟩) S.revs.length cr) ∧ W.cell? ⟨b, o + k * 2, none⟩ = some (.int .i64 nm) ∧ W.cell? ⟨b, o + k * 2 + 1, none⟩ = some (.slice A5 n5 c5) ∧ W.cell? ⟨wp.heap.size, 1, none⟩ = some (.slice (some ⟨b2, o2, none⟩) S.revs.length cq) ∧ W.cell? ⟨b2, o2 + k * 2, none⟩ = some (.int .i64 nm) ∧ W.cell? ⟨b2, o2 + k * 2 + 1, none⟩ = some (.slice A6 n6 c6)) (first | exact HK.out _ HB5.out | exact HK.out _ HA.out) (first | (go_at_call 11; refine (HSk.out _ HA.out).mono ?_; rintro e w5 ⟨rfl, hb5⟩; have HB5 := Zhd (Zaa HA.out hb5); clear hb5))
    have HB5' := Zhd (Zaa HBw.out HB5.out);clear HA HK HSk HB5;go_wp2_with fail;go_roundw
    case rel => exact ⟨k + 1, by omega, by go_num, HB5'⟩
    case measure => simp [intOf]; omega
  · obtain rfl : k = S.revs.length := by omega
    go_wp2_with fail;clear p1 q1 HR HQ;go_loopw [6] (fun vk W => ∃ k : Nat, k ≤ 3 ∧ vk = .int .i64 k ∧ Hid (Below wq.heap.size wq W)) (fun vk _ => 3 - (intOf vk).toNat)
    case atStart => exact ⟨0, by decide, rfl, HBw⟩
    case round =>
     clear HBw;obtain ⟨k, hk, rfl, HBw⟩ := hrel;by_cases hlt : k < 3
     · have hCw := HC.out wr HBw.out;have hDw := HD.out wr HBw.out;obtain ⟨t1, f1, l1⟩ := hCw.base k hlt;obtain ⟨t2, f2, l2⟩ := hCw.mine k hlt;obtain ⟨u1, k1, m1⟩ := hDw.base k hlt;obtain ⟨u2, k2, m2⟩ := hDw.mine k hlt;obtain ⟨Ta, ta, tb, rfl⟩ := l1.slice;obtain ⟨Tc, tc, td, rfl⟩ := l2.slice;obtain ⟨Ua, ua, ub, rfl⟩ := m1.slice;obtain ⟨Uc, uc, ud, rfl⟩ := m2.slice;obtain ⟨Bp, Bq⟩ := HBp.out wr HBw.out;have x0 : wr.cell? ⟨w.heap.size, 2 + k * 3, none⟩ = some (.bool (S.ses k).opn) := (Bp.cell _).trans (hCw.opn k hlt);have x1 : wr.cell? ⟨w.heap.size, 2 + k * 3 + 1, none⟩ = some (.slice Ta ta tb) := (Bp.cell _).trans f1;have x2 : wr.cell? ⟨w.heap.size, 2 + k * 3 + 2, none⟩ = some (.slice Tc tc td) := (Bp.cell _).trans f2;have y0 : wr.cell? ⟨wp.heap.size, 2 + k * 3, none⟩ = some (.bool (S.ses k).opn) := (Bq.cell _).trans (hDw.opn k hlt);have y1 : wr.cell? ⟨wp.heap.size, 2 + k * 3 + 1, none⟩ = some (.slice Ua ua ub) := (Bq.cell _).trans k1;have y2 : wr.cell? ⟨wp.heap.size, 2 + k * 3 + 2, none⟩ = some (.slice Uc uc ud) := (Bq.cell _).trans k2;have HSb := Zhd (fun (W : World) (hb : Below wr.heap.size wr W) => Zfw _ _ _ W (l1.below hb) (m1.below hb))
       have HSm := Zhd (fun (W : World) (hb : Below wr.heap.size wr W) => Zfw _ _ _ W (l2.below hb) (m2.below hb))
       generalize (S.ses k).opn = bo at *;have g5 := Zakk bo;have h5 := Zalv bo;have hkI : (k : Int) < 3 := by omega
       have hk0 : (0 : Int) ≤ (k : Int) := by omega
       clear hCw hDw f1 f2 k1 k2 l1 l2 m1 m2 Bp Bq;go_upto_region 11 with fail
       go_cut [7, 8] (fun v7 v8 wx => ∃ p q : Nat, v7 = .pointer (some ⟨p, 0, none⟩) ∧ v8 = .pointer (some ⟨q, 0, none⟩) ∧ Hid (Bl wx p #[.bool bo, .slice Ta ta tb, .slice Tc tc td] 43) ∧ Hid (Bl wx q #[.bool bo, .slice Ua ua ub, .slice Uc uc ud] 43) ∧ Hid (Below wr.heap.size wr wx))
       case first =>
        go_region_held3 (fun W => W.cell? ⟨w.heap.size, 2 + k * 3, none⟩ = some (.bool bo) ∧ W.cell? ⟨w.heap.size, 2 + k * 3 + 1, none⟩ = some (.slice Ta ta tb) ∧ W.cell? ⟨w.heap.size, 2 + k * 3 + 2, none⟩ = some (.slice Tc tc td) ∧ W.cell? ⟨wp.heap.size, 2 + k * 3, none⟩ = some (.bool bo) ∧ W.cell? ⟨wp.heap.size, 2 + k * 3 + 1, none⟩ = some (.slice Ua ua ub) ∧ W.cell? ⟨wp.heap.size, 2 + k * 3 + 2, none⟩ = some (.slice Uc uc ud)) (go_keep) ((fail))
        all_goals go_wp2_with fail
        all_goals go_meet
        all_goals first
         | (obtain ⟨a1, a2, a3⟩ := Zass wr #[.bool bo, .slice Ta ta tb, .slice Tc tc td] #[.bool bo, .slice Ua ua ub, .slice Uc uc ud] 43 43
            exact ⟨_, _, rfl, rfl, Zhd a1, Zhd a2, Zhd a3⟩)
         | (obtain ⟨a1, a2, a3⟩ := Zass wr #[.bool bo, .slice Ua ua ub, .slice Uc uc ud] #[.bool bo, .slice Ta ta tb, .slice Tc tc td] 43 43
            exact ⟨_, _, rfl, rfl, Zhd a2, Zhd a1, Zhd a3⟩)
         | (trace_state; fail)
       obtain ⟨p, q, rfl, rfl, HB7, HB8, HBc⟩ := hcut;have z0 : wc.cell? ⟨p, 0, none⟩ = some (.bool bo) := (HB7.out.cell 0).trans rfl;have z1 : wc.cell? ⟨p, 1, none⟩ = some (.slice Ta ta tb) := (HB7.out.cell 1).trans rfl;have z3 : wc.cell? ⟨q, 0, none⟩ = some (.bool bo) := (HB8.out.cell 0).trans rfl;have z4 : wc.cell? ⟨q, 1, none⟩ = some (.slice Ua ua ub) := (HB8.out.cell 1).trans rfl;clear x0 x1 x2 y0 y1 y2;go_wp2_with fail;refine (HSb.out _ HBc.out).mono ?_;rintro e w7 ⟨rfl, hb7⟩;have z2 : w7.cell? ⟨p, 2, none⟩ = some (.slice Tc tc td) := ((HB7.out.below hb7).cell 2).trans rfl;have z5 : w7.cell? ⟨q, 2, none⟩ = some (.slice Uc uc ud) := ((HB8.out.below hb7).cell 2).trans rfl;have HBd := Zhd (Zaa HBc.out hb7);clear hb7 z0 z1 z3 z4;go_wp2_with fail;refine (HSm.out _ HBd.out).mono ?_;rintro e w8 ⟨rfl, hb8⟩;have HBe := Zhd (Zaa HBw.out (Zaa HBd.out hb8));clear hb8 z2 z5;go_wp2_with fail;go_roundw
       case rel => exact ⟨k + 1, by omega, by go_num, HBe⟩
       case measure => simp [intOf]; omega
     · obtain rfl : k = 3 := by omega
       go_wp2_with fail;go_ret;exact ⟨rfl, Zaa HB.out HBw.out⟩
end Go.Proofs.Zq
