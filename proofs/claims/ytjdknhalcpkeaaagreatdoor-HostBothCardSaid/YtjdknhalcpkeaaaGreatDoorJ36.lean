/- Walks of the reference: Under, word, in. The reference's Ahead. The reference's Put. Walks of the reference: Put, Set. -/
import Derived.Test.YtjdknhalcpkeaaaGreatDoorJ31
import Derived.Test.YtjdknhalcpkeaaaGreatDoorJ08
import Derived.Test.YtjdknhalcpkeaaaGreatDoorJ06
import Derived.Test.YtjdknhalcpkeaaaGreatDoorJ30
import Derived.Test.YtjdknhalcpkeaaaGreatDoorJ33
import Derived.Test.YtjdknhalcpkeaaaGreatDoorJ32
import Derived.Test.YtjdknhalcpkeaaaGreatDoorJ35
namespace Go.Proofs.YtjdknhalcpkeaaaGreatDoor
open Go Go.RowKit Go.Sort Rte Sch Tre Hst
set_option maxHeartbeats 4000000 in
set_option maxRecDepth 100000 in
theorem runder_own (A : Option Addr) (cap : Nat) (L : List Line) (Ap : Option Addr) (cp : Nat) (P : List ByteArray) (w : World) (hR : Rd w 3 A L.length (lines L)) (hcap : L.length ≤ cap) (hc : cap ≤ maxLen) (hr : rightB L = true) (hP0 : P ≠ []) (hP : Rd w 1 Ap P.length (sv P)) (hcp : P.length ≤ 1000000) :
 Calls Tryz.prog 20 #[.slice A L.length cap, .slice Ap P.length cp] w (StrsOwn w (kw (paths L) P)) := by
 rw [← under_kw hr hP0]
 obtain ⟨i0, hi, hz0, hz1, hz2⟩ := info_parts info_str
 have h200 := right_len hr
 have HF := Lib.hid (refFind_lines A cap L Ap cp P w hR hcap hc (by omega) hP (by unfold maxLen; omega))
 rw [refFind_eq hr] at HF
 have HK := Lib.hid (fun k (hk : k < L.length) W (hb : Below w.heap.size w W) => (by
  have := refKids_lines A cap L (k : Int) W (hR.below hb) hcap hc (by omega)
  rwa [refKids_eq hr hk] at this : Calls Tryz.prog 43 #[.slice A L.length cap, .int .i64 k] W (KidsEnd W (kidsB L k))))
 have HFl := Lib.hid (fun k (h : findB L P = some k) => findB_lt h)
 have HR := Lib.hid hR
 have hU : Hid (underW L P = match findB L P with | none => [] | some k => (kidsB L k).map (wordAt L)) := rfl
 have hp0 : 0 < P.length := List.length_pos_iff.2 hP0
 have hp0' : (0 : Int) < (P.length : Int) := by omega
 clear hR hP hr hP0
 go_enter Tryz.func20, Tryz.ntmps20
 cases hf : findB L P with
 | none =>
   rw [hf] at HF hU
   have HU : Hid (underW L P = []) := hU.out
   clear hU HK HFl HR hf
   go_wp2_with (go_at_call 23; refine HF.out.mono ?_; rintro e w1 ⟨rfl, hb1⟩)
   refine bodyPost_ret (v := .slice none 0 0) (by simp [results, Tryz.results20, go_sem]) rfl ?_
   rw [HU.out]
   exact ⟨⟨_, rfl, World.ownsRow_nil _ _ _ _⟩, hb1⟩
 | some k =>
   have hk := HFl.out k hf
   rw [hf] at HF hU
   have HKk := HK.out k hk
   have hmem : ∀ j (h : j < (kidsB L k).length), (kidsB L k)[j] < L.length := fun j h => by
    have h1 := (mem_kidsTo.1 (List.getElem_mem h)).1
    have := endB_le L k hk
    omega
   have hlen : (kidsB L k).length ≤ 200 := by
    have h1 := kidsTo_len L (depthAt L k + 1) (k + 1) (endB L k)
    have := endB_le L k hk
    unfold kidsB; omega
   have HU : Hid (underW L P = (kidsB L k).map (wordAt L)) := hU.out
   generalize kidsB L k = K at *
   have HM := Lib.hid hmem
   have HKK := Lib.hid HKk
   clear hU HK HFl hf hmem HKk
   go_wp2_with (first | (go_at_call 23; refine HF.out.mono ?_; rintro e w1 ⟨rfl, hb1⟩) | (go_at_call 43; refine (HKK.out _ hb1).mono ?_; unfold KidsEnd; rintro e w2 ⟨A2, c2, rfl, hc21, hc22, hrd2, hb2⟩; have HI := Lib.hid hrd2; have HB2 := Lib.hid (below_step hb1 hb2); have HR2 := Lib.hid (HR.out.below HB2.out); clear hrd2 hb1 hb2 HR HF HKK))
   go_loopw [6, 8] (fun v vi wr => ∃ j : Nat, j ≤ K.length ∧ vi = .int .i64 j ∧ Hid (wr.ownsRow w2.heap.size 9 1 v ((K.take j).map (wordAt L)).length (sv ((K.take j).map (wordAt L)))) ∧ Hid (Below w2.heap.size w2 wr)) (fun _ vi _ => K.length - (intOf vi).toNat)
   case atStart => exact ⟨0, Nat.zero_le _, rfl, World.ownsRow_nil _ _ _ _, Below.refl _ _⟩
   case round =>
    obtain ⟨j, hj, rfl, HO, HB⟩ := hrel
    by_cases hlt : j < K.length
    · obtain ⟨B, O, rfl, hab, hadd, hx⟩ := (HI.out.below HB.out).intAt hlt
      have hql := HM.out j hlt
      have hst : (K.take (j + 1)).map (wordAt L) = (K.take j).map (wordAt L) ++ [L[K[j]].word] := by
       rw [List.take_succ_eq_append_getElem hlt, List.map_append, List.map_singleton, wordAt_lt hql]
      generalize hq : K[j] = q at *
      obtain ⟨B2, O2, rfl, hab2, hadd2, y0, y1, y2⟩ := (HR2.out.below HB.out).line hql
      have HST := Lib.hid hst
      have hjl : ((K.take j).map (wordAt L)).length + 1 ≤ 1000000000 := by rw [List.length_map, List.length_take]; omega
      generalize L[q].word = s at *
      clear hst hq
      go_wp2_with (at_builtin; refine app_new rfl _ _ 42 rfl w2 wr 9 i0 _ 1 16 Tryz.underlying42 hi hz0 hz1 hz2 rfl (by decide) (by decide) HO.out HB.out rfl 1 1 [.string s] rfl rfl (by simp; rfl) hjl ?_; intro v' w' hown' hb')
      have HO2 := Lib.hid (own_push_str hown')
      have HB3 := Lib.hid hb'
      rw [← HST.out] at HO2
      clear hown' hb' HST
      go_roundw
      case rel => exact ⟨j + 1, by omega, by go_num, HO2, HB3⟩
      case measure => simp [intOf]; omega
    · have hjk : j = K.length := by omega
      have HO2 := HO.out
      rw [hjk, List.take_length, ← HU.out] at HO2
      have HOF := Lib.hid HO2
      have HBF := Lib.hid (below_step HB2.out HB.out)
      have hsz := HB2.out.size
      clear HO HO2 HB
      go_wp2
      go_ret
      exact ⟨⟨_, rfl, own_base HOF.out hsz⟩, HBF.out⟩
theorem runder_any (A : Option Addr) (cap : Nat) (L : List Line) (Ap : Option Addr) (cp : Nat) (P : List ByteArray) (w : World) (hR : Rd w 3 A L.length (lines L)) (hcap : L.length ≤ cap) (hc : cap ≤ maxLen) (hr : rightB L = true) (hP0 : P ≠ []) (hP : Rd w 1 Ap P.length (sv P)) (hcp : P.length ≤ 1000000) :
 Calls Tryz.prog 20 #[.slice A L.length cap, .slice Ap P.length cp] w (StrsEnd w (kw (paths L) P)) :=
 (runder_own A cap L Ap cp P w hR hcap hc hr hP0 hP hcp).mono fun e w' ⟨⟨v, h1, h2⟩, h3⟩ => by
  obtain ⟨A3, c3, hv3, g1, g2, g3, g4⟩ := own_rd_nil h2
  exact ⟨A3, c3, by rw [h1, hv3], g1, g2, g3, g4, h3⟩
set_option maxHeartbeats 2000000 in
set_option maxRecDepth 100000 in
theorem rword_any (A : Option Addr) (cap : Nat) (L : List Line) (other : ByteArray) (Ap : Option Addr) (cp : Nat) (P : List ByteArray) (w : World) (hR : Rd w 3 A L.length (lines L)) (hcap : L.length ≤ cap) (hc : cap ≤ maxLen) (hr : rightB L = true) (hP0 : P ≠ []) (hP : Rd w 1 Ap P.length (sv P)) (hcp : P.length ≤ 1000000) :
 Calls Tryz.prog 35 #[.slice A L.length cap, .slice Ap P.length cp, .string other] w fun e w' => e = .returned (.string (oneU (paths L) other P)) ∧ Below w.heap.size w w' := by
 have HU := Lib.hid (runder_any A cap L Ap cp P w hR hcap hc hr hP0 hP hcp)
 have hX : Hid (oneU (paths L) other P = (kw (paths L) P).headD other) := rfl
 have h200 := kw_few hr P
 clear hR hP hr hP0
 generalize kw (paths L) P = K at *
 go_enter Tryz.func35, Tryz.ntmps35
 cases K with
 | nil =>
   go_wp2_with (go_at_call 20; refine HU.out.mono ?_; unfold StrsEnd; rintro e w1 ⟨A1, c1, rfl, h1, h2, h3, h4, hb1⟩)
   go_ret
   exact ⟨by rw [hX.out]; rfl, hb1⟩
 | cons x l =>
   have hl : ((x :: l).length : Int) ≠ 0 := by simp; omega
   have hl0 : ((x :: l).length : Int) = ((l.length + 1 : Nat) : Int) := by simp
   generalize hn : (x :: l).length = n at *
   have hn0 : 0 < n := by rw [← hn]; simp
   go_wp2_with (go_at_call 20; refine HU.out.mono ?_; unfold StrsEnd; rw [hn]; rintro e w1 ⟨A1, c1, rfl, h1, h2, h3, h4, hb1⟩; rw [← hn] at h3; obtain ⟨B, O, rfl, hab, hadd, hx⟩ := Rd.strAt h3 (i := 0) (by simp); have hx' : w1.cell? ⟨B, O, none⟩ = some (.string x) := hx; clear hx hadd h3)
   go_ret
   exact ⟨by rw [hX.out]; rfl, hb1⟩
set_option maxHeartbeats 2000000 in
set_option maxRecDepth 100000 in
theorem rin_any (A : Option Addr) (cap : Nat) (L : List Line) (h v : ByteArray) (w : World) (hR : Rd w 3 A L.length (lines L)) (hcap : L.length ≤ cap) (hc : cap ≤ maxLen) (hr : rightB L = true) :
 Calls Tryz.prog 73 #[.slice A L.length cap, .string h, .string v] w fun e w' => e = .returned (.bool (inU (paths L) h v)) ∧ Below w.heap.size w w' := by
 have HO := Lib.hid (fun W (hb : Below w.heap.size w W) b (hP : Rd W 1 (some ⟨b, 0, none⟩) 3 (sv [wHosts, h, wVnis])) => runder_any A cap L (some ⟨b, 0, none⟩) 3 [wHosts, h, wVnis] W (hR.below hb) hcap hc hr (by simp) hP (by simp))
 have HX : Hid (inU (paths L) h v = memB v (kw (paths L) [wHosts, h, wVnis])) := rfl
 have h200 := kw_few hr [wHosts, h, wVnis]
 clear hR hr
 generalize kw (paths L) [wHosts, h, wVnis] = K at *
 go_enter Tryz.func73, Tryz.ntmps73
 go_wp2_with (go_at_call 20; refine (HO.out _ ((Below.refl _ _).alloc (Nat.le_refl _) _) _ (rd_words _ _ [wHosts, h, wVnis] rfl)).mono ?_; unfold StrsEnd; rintro e w2 ⟨A2, c2, rfl, hc1, hc2, hrd, hz, hb⟩; have HB2 := Lib.hid (below_step ((Below.refl _ _).alloc (Nat.le_refl _) _) hb); have HR2 := Lib.hid hrd; clear hb hrd hz HO)
 go_loopw [8] (fun vi wr => ∃ k : Nat, k ≤ K.length ∧ vi = .int .i64 k ∧ wr = w2 ∧ Hid (memB v K = memB v (K.drop k))) (fun vi _ => K.length - (intOf vi).toNat)
 case atStart => exact ⟨0, Nat.zero_le _, rfl, rfl, rfl⟩
 case round =>
  obtain ⟨k, hk, rfl, hwe, HQ⟩ := hrel
  have hwe := hwe.symm
  subst hwe
  by_cases hlt : k < K.length
  · obtain ⟨B, O, rfl, hab, hadd, hx⟩ := HR2.out.strAt hlt
    have hst : memB v K = (decide (K[k] = v) || memB v (K.drop (k + 1))) := by rw [HQ.out, List.drop_eq_getElem_cons hlt]; rfl
    generalize K[k] = s at *
    by_cases h0 : s = v
    · subst h0
      have HN : Hid (memB s K = true) := by show _ = _; rw [hst]; simp
      clear hst HQ
      go_wp2
      go_ret
      exact ⟨by rw [HX.out, HN.out]; rfl, HB2.out⟩
    · have hn : (s.toList == v.toList) = false := by rw [beq_eq_false_iff_ne]; exact fun e => h0 (Tre.bytes_inj e)
      have hn' : ¬ s.toList = v.toList := fun e => h0 (Tre.bytes_inj e)
      have HN : Hid (memB v K = memB v (K.drop (k + 1))) := by show _ = _; rw [hst, decide_eq_false h0, Bool.false_or]
      clear hst HQ h0
      go_wp2
      go_roundw
      case rel => exact ⟨k + 1, by omega, by go_num, by simp, HN⟩
      case measure => simp [intOf]; omega
  · have HN : Hid (memB v K = false) := by
     show _ = _
     rw [HQ.out, List.drop_eq_nil_of_le (by omega)]; rfl
    clear HQ
    go_wp2
    go_ret
    exact ⟨by rw [HX.out, HN.out]; rfl, HB2.out⟩
end Go.Proofs.YtjdknhalcpkeaaaGreatDoor
namespace Hst
open Go Go.Lib Rte
def aheadB (a b : Ent) : Bool := decide (cmpE a b < 0)
theorem less_cb (a b : ByteArray) : Op.bytesLess a.toList b.toList = decide (compareBytes a.data.toList b.data.toList < 0) := by
 rw [Proofs.bytesLess_eq, Lib.toList_data, Lib.toList_data, decide_eq_decide]
 exact cb_neg.symm
theorem less_ci (x y : Int) : decide (x < y) = decide (compareInt x y < 0) := by
 rw [decide_eq_decide]
 unfold compareInt
 split
 · omega
 · split <;> omega
theorem or_ne {x y : Int} (h : x ≠ 0) : orC x y = x := if_neg h
theorem or_eq {x y : Int} (h : x = 0) : orC x y = y := if_pos h
theorem ahead_host {a b : Ent} (h : a.host ≠ b.host) : aheadB a b = Op.bytesLess a.host.toList b.host.toList := by
 unfold aheadB cmpE
 rw [less_cb, or_ne fun e => h (data_inj (cb_zero e))]
theorem ahead_kind {a b : Ent} (h : a.host = b.host) (h1 : a.kind ≠ b.kind) : aheadB a b = decide (a.kind < b.kind) := by
 unfold aheadB cmpE
 have h2 : compareInt a.kind b.kind ≠ 0 := fun e => h1 (ci_zero e)
 rw [h, or_eq (cb_same _), or_ne h2, less_ci a.kind b.kind]
theorem ci_same (x : Int) : compareInt x x = 0 := by unfold compareInt; simp
theorem ahead_key {a b : Ent} (h : a.host = b.host) (h1 : a.kind = b.kind) (h2 : a.key ≠ b.key) : aheadB a b = Op.bytesLess a.key.toList b.key.toList := by
 unfold aheadB cmpE
 rw [less_cb, h, or_eq (cb_same _), h1, or_eq (ci_same _), or_ne fun e => h2 (data_inj (cb_zero e))]
theorem ahead_val {a b : Ent} (h : a.host = b.host) (h1 : a.kind = b.kind) (h2 : a.key = b.key) : aheadB a b = Op.bytesLess a.val.toList b.val.toList := by
 unfold aheadB cmpE
 rw [less_cb, h, or_eq (cb_same _), h1, or_eq (ci_same _), h2, or_eq (cb_same _)]
end Hst
namespace Go.Proofs.YtjdknhalcpkeaaaGreatDoor
open Go Go.RowKit Go.Sort Rte Hst
set_option maxHeartbeats 4000000 in
set_option maxRecDepth 100000 in
theorem ahead_any (a b : Ent) (w : World) : Calls Tryz.prog 16 #[a.agg, b.agg] w fun e w' => e = .returned (.bool (aheadB a b)) ∧ Below w.heap.size w w' := by
 unfold Ent.agg
 obtain ⟨w0, hw0, hsz, ha, hb, os, hos⟩ := cell_two (w := w) 36 36 #[.string a.host, .int .i64 a.kind, .string a.key, .string a.val] #[.string b.host, .int .i64 b.kind, .string b.key, .string b.val]
 obtain ⟨wb, hwb⟩ : ∃ wb, w.heap.size = wb := ⟨_, rfl⟩
 have HB : Hid (Below wb w w0) := by show Below _ _ _; rw [← hw0, ← hwb]; exact ((Below.refl _ _).alloc (Nat.le_refl _) _).alloc (by simp) _
 rw [hwb] at ha hb
 have a0 : w0.cell? ⟨wb, 0, none⟩ = some (.string a.host) := ha 0
 have a1 : w0.cell? ⟨wb, 1, none⟩ = some (.int .i64 a.kind) := ha 1
 have a2 : w0.cell? ⟨wb, 2, none⟩ = some (.string a.key) := ha 2
 have a3 : w0.cell? ⟨wb, 3, none⟩ = some (.string a.val) := ha 3
 have b0 : w0.cell? ⟨wb + 1, 0, none⟩ = some (.string b.host) := hb 0
 have b1 : w0.cell? ⟨wb + 1, 1, none⟩ = some (.int .i64 b.kind) := hb 1
 have b2 : w0.cell? ⟨wb + 1, 2, none⟩ = some (.string b.key) := hb 2
 have b3 : w0.cell? ⟨wb + 1, 3, none⟩ = some (.string b.val) := hb 3
 have HWB := Lib.hid hwb
 have E1 := Lib.hid (ahead_host (a := a) (b := b))
 have E2 := Lib.hid (ahead_kind (a := a) (b := b))
 have E3 := Lib.hid (ahead_key (a := a) (b := b))
 have E4 := Lib.hid (ahead_val (a := a) (b := b))
 clear ha hb hsz hos
 generalize aheadB a b = r at *
 obtain ⟨ah, ak, aq, av⟩ := a
 obtain ⟨bh, bk, bq, bv⟩ := b
 simp only at a0 a1 a2 a3 b0 b1 b2 b3
 by_cases h1 : ah = bh
 · have HE1 := Lib.hid h1
   have g1 : (ah.toList == bh.toList) = true := by rw [h1]; exact beq_self_eq_true _
   have g1' : ah.toList = bh.toList := by rw [h1]
   clear h1 E1
   by_cases h2 : ak = bk
   · subst h2
     clear E2
     by_cases h3 : aq = bq
     · have HE3 := Lib.hid h3
       have g3 : (aq.toList == bq.toList) = true := by rw [h3]; exact beq_self_eq_true _
       have g3' : aq.toList = bq.toList := by rw [h3]
       have HN := Lib.hid (E4.out HE1.out rfl HE3.out)
       clear h3 E3 E4
       go_enter Tryz.func16, Tryz.ntmps16
       go_wp2
       go_ret
       exact ⟨by rw [HN.out]; rfl, HB.out⟩
     · have g3 : (aq.toList == bq.toList) = false := by rw [beq_eq_false_iff_ne]; exact fun e => h3 (Tre.bytes_inj e)
       have g3' : ¬ aq.toList = bq.toList := fun e => h3 (Tre.bytes_inj e)
       have HN := Lib.hid (E3.out HE1.out rfl h3)
       clear h3 E3 E4
       go_enter Tryz.func16, Tryz.ntmps16
       go_wp2
       go_ret
       exact ⟨by rw [HN.out]; rfl, HB.out⟩
   · have g2 : (ak == bk) = false := by rw [beq_eq_false_iff_ne]; exact h2
     have HN := Lib.hid (E2.out HE1.out h2)
     clear E2 E3 E4
     go_enter Tryz.func16, Tryz.ntmps16
     go_wp2
     go_ret
     exact ⟨by rw [HN.out]; rfl, HB.out⟩
 · have g1 : (ah.toList == bh.toList) = false := by rw [beq_eq_false_iff_ne]; exact fun e => h1 (Tre.bytes_inj e)
   have g1' : ¬ ah.toList = bh.toList := fun e => h1 (Tre.bytes_inj e)
   have HN := Lib.hid (E1.out h1)
   clear h1 E1 E2 E3 E4
   go_enter Tryz.func16, Tryz.ntmps16
   go_wp2
   go_ret
   exact ⟨by rw [HN.out]; rfl, HB.out⟩
end Go.Proofs.YtjdknhalcpkeaaaGreatDoor
namespace Hst
open Go Go.Lib Rte
def fitsB (e : Ent) (l : List Ent) : Bool := l.any fun x => aheadB e x
theorem put_front {a e : Ent} {l : List Ent} (h : a ≠ e) (h1 : aheadB e a = true) : putE (a :: l) e = e :: a :: l := by
 unfold putE; rw [if_neg fun z => h (cmpE_zero z), if_pos (of_decide_eq_true h1)]
theorem put_next {a e : Ent} {l : List Ent} (h : a ≠ e) (h1 : aheadB e a = false) : putE (a :: l) e = a :: putE l e := by
 conv => lhs; unfold putE
 rw [if_neg fun z => h (cmpE_zero z), if_neg (of_decide_eq_false h1)]
theorem put_none {e : Ent} : ∀ {l : List Ent}, e ∉ l → fitsB e l = false → putE l e = l ++ [e]
 | [], _, _ => rfl
 | a :: l, h, hf => by
   unfold fitsB at hf
   rw [List.any_cons, Bool.or_eq_false_iff] at hf
   rw [List.mem_cons, not_or] at h
   rw [put_next (fun z => h.1 z.symm) hf.1, put_none h.2 hf.2]; rfl
theorem put_now {e x : Ent} (hx : x ≠ e) (ha : aheadB e x = true) : ∀ {l : List Ent}, e ∉ l → fitsB e l = false → putE (l ++ [x]) e = l ++ [e] ++ [x]
 | [], _, _ => put_front hx ha
 | a :: l, h, hf => by
   unfold fitsB at hf
   rw [List.any_cons, Bool.or_eq_false_iff] at hf
   rw [List.mem_cons, not_or] at h
   rw [List.cons_append, put_next (fun z => h.1 z.symm) hf.1, put_now hx ha h.2 hf.2]; rfl
theorem put_done {e x : Ent} : ∀ {l : List Ent}, e ∉ l → fitsB e l = true → putE (l ++ [x]) e = putE l e ++ [x]
 | [], _, hf => by cases hf
 | a :: l, h, hf => by
   rw [List.mem_cons, not_or] at h
   have h1 : a ≠ e := fun z => h.1 z.symm
   cases ha : aheadB e a with
   | true => rw [List.cons_append, put_front h1 ha, put_front h1 ha]; rfl
   | false =>
     unfold fitsB at hf
     rw [List.any_cons, ha, Bool.false_or] at hf
     rw [List.cons_append, put_next h1 ha, put_next h1 ha, put_done h.2 hf]; rfl
theorem put_there {l : List Ent} {e : Ent} (hl : Up l) (h : e ∈ l) : putE l e = l :=
 up_same (up_put e hl) hl fun x => by
  rw [mem_put]
  exact ⟨fun hx => hx.elim id fun hx => hx ▸ h, .inl⟩
def putT (L : List Ent) (e : Ent) (k : Nat) : List Ent := if fitsB e (L.take k) = true then putE (L.take k) e else L.take k
theorem putT_len (L : List Ent) (e : Ent) (k : Nat) : (putT L e k).length ≤ L.length + 1 := by
 unfold putT
 have h1 : (L.take k).length ≤ L.length := by rw [List.length_take]; omega
 split
 · exact Nat.le_trans (put_len _ _) (by omega)
 · omega
theorem fits_succ {L : List Ent} {e : Ent} {k : Nat} (hk : k < L.length) : fitsB e (L.take (k + 1)) = (fitsB e (L.take k) || aheadB e L[k]) := by
 unfold fitsB
 rw [List.take_succ_eq_append_getElem hk, List.any_append]; simp
section
variable {L : List Ent} {e : Ent} {k : Nat} (hk : k < L.length) (hn : e ∉ L.take k) (hx : L[k] ≠ e)
include hn hx
theorem notin_succ : e ∉ L.take (k + 1) := by
 rw [List.take_succ_eq_append_getElem hk, List.mem_append, List.mem_singleton, not_or]
 exact ⟨hn, fun h => hx h.symm⟩
omit hx in
theorem putT_done (h : fitsB e (L.take k) = true) : putT L e (k + 1) = putT L e k ++ [L[k]] := by
 unfold putT
 rw [fits_succ hk, h, Bool.true_or, if_pos rfl, if_pos rfl, List.take_succ_eq_append_getElem hk, put_done hn h]
theorem putT_now (h : fitsB e (L.take k) = false) (ha : aheadB e L[k] = true) : putT L e (k + 1) = putT L e k ++ [e] ++ [L[k]] := by
 unfold putT
 rw [fits_succ hk, h, Bool.false_or, ha, if_pos rfl, if_neg (by simp), List.take_succ_eq_append_getElem hk, put_now hx ha hn h]
omit hn hx in
theorem putT_wait (h : fitsB e (L.take k) = false) (ha : aheadB e L[k] = false) : putT L e (k + 1) = putT L e k ++ [L[k]] := by
 unfold putT
 rw [fits_succ hk, h, Bool.false_or, ha, if_neg (by simp), if_neg (by simp), List.take_succ_eq_append_getElem hk]
end
theorem putT_end {L : List Ent} {e : Ent} (hn : e ∉ L.take L.length) : putE L e = if fitsB e (L.take L.length) = true then putT L e L.length else putT L e L.length ++ [e] := by
 unfold putT
 rw [List.take_length] at *
 cases h : fitsB e L with
 | true => simp
 | false => rw [put_none hn h]; simp
end Hst
namespace Go.Proofs.YtjdknhalcpkeaaaGreatDoor
open Go Go.RowKit Go.Sort Rte Hst
theorem info_rent : (Tryz.prog.info? 36).map (fun i => (i.zero, i.size, i.bytes)) = some (some (.agg #[.string ⟨#[]⟩, .int .i64 0, .string ⟨#[]⟩, .string ⟨#[]⟩]), 4, 56) := by kernel_rfl
theorem cells_ent (x : Ent) : ∀ u ∈ [Value.string x.host, Value.int .i64 x.kind, Value.string x.key, Value.string x.val], u.oneCell' = true := by
 intro u hu
 simp only [List.mem_cons, List.not_mem_nil, or_false] at hu
 rcases hu with rfl | rfl | rfl | rfl <;> rfl
theorem rd_ent_at (w : World) (T : TypeId) (x : Ent) : Rd (w.alloc (.cells #[.string x.host, .int .i64 x.kind, .string x.key, .string x.val] T)) 4 (some ⟨w.heap.size, 0, none⟩) [x].length (ents [x]) := by
 refine ⟨ents_length _, fun _ => ⟨_, rfl, by simp, fun j u hu => ?_⟩⟩
 rw [add_plain, Nat.zero_add, World.cell?_alloc_at _ _ _ _ rfl]
 rw [ents_one] at hu
 rw [List.getElem?_toArray]
 exact hu
def Cel (w : World) (B O : Nat) (x : Ent) : Prop :=
 B < w.heap.size ∧ w.cell? ⟨B, O, none⟩ = some (.string x.host) ∧ w.cell? ⟨B, O + 1, none⟩ = some (.int .i64 x.kind) ∧ w.cell? ⟨B, O + 2, none⟩ = some (.string x.key) ∧ w.cell? ⟨B, O + 3, none⟩ = some (.string x.val)
theorem Cel.below {w w' : World} {B O : Nat} {x : Ent} (h : Cel w B O x) (hb : Below w.heap.size w w') : Cel w' B O x := by
 obtain ⟨h0, h1, h2, h3, h4⟩ := h
 exact ⟨Nat.lt_of_lt_of_le h0 hb.size, by rw [hb.cell h0]; exact h1, by rw [hb.cell h0]; exact h2, by rw [hb.cell h0]; exact h3, by rw [hb.cell h0]; exact h4⟩
set_option maxHeartbeats 8000000 in
set_option maxRecDepth 100000 in
theorem rput_any (A : Option Addr) (c : Nat) (L : List Ent) (e : Ent) (w : World) (hR : Rd w 4 A L.length (ents L)) (hcl : L.length ≤ c) (hcm : c ≤ maxLen) (hnil : A = none → c = 0) (hL : L.length ≤ 900000000) (hU : Up L) :
 Calls Tryz.prog 39 #[.slice A L.length c, e.agg] w (EntsRd w (putE L e)) := by
 obtain ⟨i0, hi, hz0, hz1, hz2⟩ := info_parts info_rent
 obtain ⟨w1, hw1⟩ : ∃ w1, w.alloc (.cells #[.string e.host, .int .i64 e.kind, .string e.key, .string e.val] 36) = w1 := ⟨_, rfl⟩
 obtain ⟨wb, hwb⟩ : ∃ wb, w.heap.size = wb := ⟨_, rfl⟩
 have hb1 : Below w.heap.size w w1 := by rw [← hw1]; exact (Below.refl _ _).alloc (Nat.le_refl _) _
 have HS1 : Hid (wb ≤ w1.heap.size) := by show _ ≤ _; rw [← hwb]; exact hb1.size
 have HB1 : Hid (Below wb w w1) := by rw [← hwb]; exact Lib.hid hb1
 have HE1 : Hid (Rd w1 4 (some ⟨wb, 0, none⟩) [e].length (ents [e])) := by show Rd _ _ _ _ _; rw [← hw1, ← hwb]; exact rd_ent_at _ _ _
 have HR1 := Lib.hid (hR.below hb1)
 have HU : Hid (e ∈ L → putE L e = L) := Lib.hid (fun h => put_there hU h)
 clear hR hU hb1
 unfold Ent.agg EntsRd
 rw [hwb]
 go_enter Tryz.func39, Tryz.ntmps39
 go_wp2
 go_loopw [5, 6, 7] (fun v vd vi wr => ∃ k : Nat, k ≤ L.length ∧ vi = .int .i64 k ∧ vd = .bool (fitsB e (L.take k)) ∧ Hid (e ∉ L.take k) ∧ Hid (wr.ownsRow w1.heap.size 36 4 v (putT L e k).length (ents (putT L e k))) ∧ Hid (Below w1.heap.size w1 wr)) (fun _ _ vi _ => L.length - (intOf vi).toNat)
 case atStart => exact ⟨0, Nat.zero_le _, rfl, rfl, (List.not_mem_nil : e ∉ []), World.ownsRow_nil _ _ _ _, Below.refl _ _⟩
 case round =>
  obtain ⟨k, hk, rfl, rfl, HN, HO, HB⟩ := hrel
  have HC1 : Hid (Cel w1 wb 0 e) := by
   obtain ⟨B1, O1, ee, hab1, hadd1, x0, x1, x2, x3⟩ := HE1.out.ent (i := 0) (by simp)
   injection ee with ee
   injection ee with e1 e2
   subst e1 e2
   exact ⟨hab1, x0, x1, x2, x3⟩
  have hlen1 := putT_len L e k
  by_cases hlt : k < L.length
  · obtain ⟨B2, O2, rfl, hab2, hadd2, y0, y1, y2, y3⟩ := HR1.out.ent hlt
    have HC2 : Hid (Cel w1 B2 (O2 + k * 4) L[k]) := ⟨hab2, y0, y1, y2, y3⟩
    clear hab2 y0 y1 y2 y3
    have hmem : L[k] = e → putE L e = L := fun h => HU.out (h ▸ List.getElem_mem hlt)
    have hni : L[k] ≠ e → e ∉ L.take (k + 1) := fun h => notin_succ hlt HN.out h
    have hT1 : L[k] ≠ e → fitsB e (L.take k) = true → putT L e (k + 1) = putT L e k ++ [L[k]] := fun _ h2 => putT_done hlt HN.out h2
    have hT2 : L[k] ≠ e → fitsB e (L.take k) = false → aheadB e L[k] = true → putT L e (k + 1) = putT L e k ++ [e] ++ [L[k]] := fun h h2 h3 => putT_now hlt HN.out h h2 h3
    have hT3 : L[k] ≠ e → fitsB e (L.take k) = false → aheadB e L[k] = false → putT L e (k + 1) = putT L e k ++ [L[k]] := fun _ h2 h3 => putT_wait hlt h2 h3
    have hfs := fits_succ (e := e) hlt
    have hAH := fun W => ahead_any e L[k] W
    unfold Ent.agg at hAH
    have HMEM := Lib.hid hmem
    have HNI := Lib.hid hni
    have HT1 := Lib.hid hT1
    have HT2 := Lib.hid hT2
    have HT3 := Lib.hid hT3
    have HFS := Lib.hid hfs
    have HAH := Lib.hid hAH
    clear hmem hni hT1 hT2 hT3 hfs hAH
    generalize L[k] = x at *
    generalize aheadB e x = ah at *
    generalize hT2e : putT L e (k + 1) = T2 at *
    generalize putT L e k = T1 at *
    generalize hd2e : fitsB e (L.take (k + 1)) = d2 at *
    have HTE := Lib.hid hT2e
    have HDE := Lib.hid hd2e
    clear hT2e hd2e
    generalize fitsB e (L.take k) = d at *
    have hT1l : T1.length + 2 ≤ 1000000000 := by omega
    obtain ⟨hab2, y0, y1, y2, y3⟩ := HC2.out.below HB.out
    obtain ⟨hab1, x0, x1, x2, x3⟩ := HC1.out.below HB.out
    go_wp2_with fail
    refine wp_region_quiet_lit (by kernel_rfl) (by kernel_rfl) ?_
    repeat (go_big_quiet_step (fail))
    refine wpQuiet_step (fun K hK => ?_)
    go_simp
    simp only [ent_if]
    clear hab1 hab2 x0 x1 x2 x3 y0 y1 y2 y3
    by_cases hxy : x = e
    · have HF := Lib.hid (HMEM.out hxy)
      refine ⟨.bool true, fun a => by rw [if_pos hxy]; exact ⟨rfl, rfl⟩, hK _ ?_⟩
      clear hK K HMEM HNI HT1 HT2 HT3 HFS HAH hxy
      refine wpQuiet_nil ?_
      intro _ hw'
      obtain ⟨nq, hw''⟩ := hw'
      subst hw''
      go_wp2
      go_ret
      have hbF : Below w1.heap.size w1 (wr.drewN nq) := below_drewN HB.out nq
      rw [HF.out]
      refine ⟨some ⟨B2, O2, none⟩, c, rfl, hcl, hcm, HR1.out.below hbF, (fun h => by cases h), ?_⟩
      rw [← hwb]
      exact below_step (by rw [hwb]; exact HB1.out) hbF
    · have HT1' := Lib.hid (HT1.out hxy)
      have HT2' := Lib.hid (HT2.out hxy)
      have HT3' := Lib.hid (HT3.out hxy)
      have HNI' := Lib.hid (HNI.out hxy)
      refine ⟨.bool false, fun a => by rw [if_neg hxy]; exact ⟨rfl, rfl⟩, hK _ ?_⟩
      clear hK K HMEM HNI HT1 HT2 HT3 hxy
      refine wpQuiet_nil ?_
      intro _ hw'
      obtain ⟨nq, hw''⟩ := hw'
      subst hw''
      have HB2 := Lib.hid (below_drewN HB.out nq)
      have HO2 := Lib.hid (own_below HO.out (below_drewN (Below.refl _ _) nq))
      generalize wr.drewN nq = w2 at *
      clear HB HO wr
      obtain ⟨hab2, y0, y1, y2, y3⟩ := HC2.out.below HB2.out
      obtain ⟨hab1, x0, x1, x2, x3⟩ := HC1.out.below HB2.out
      cases d with
      | true =>
        have HST := Lib.hid (HT1'.out rfl)
        have HD : Hid (d2 = true) := by show _ = _; rw [HFS.out]; rfl
        clear HT1' HT2' HT3' HFS HAH
        go_wp2_with fail
        refine wp_region_still_tail 8 (by kernel_rfl) (by kernel_rfl) ?_
        simp only [List.take_succ_cons, List.take_zero, List.drop_succ_cons, List.drop_zero]
        repeat still_step
        refine wpStill_nil ?_
        change wpList _ _ _ _ _ w2.drew
        have HB3 := Lib.hid (below_drewN HB2.out 1)
        have HO3 := Lib.hid (own_below HO2.out (below_drewN (Below.refl _ _) 1))
        change Hid (Below _ _ w2.drew) at HB3
        change Hid (w2.drew.ownsRow _ _ _ _ _ _) at HO3
        generalize w2.drew = w3 at *
        clear hab1 hab2 x0 x1 x2 x3 y0 y1 y2 y3 HB2 HO2
        obtain ⟨hab2, y0, y1, y2, y3⟩ := HC2.out.below HB3.out
        go_wp2_with (at_builtin; refine app_new rfl _ _ 29 rfl w1 w3 36 i0 _ 4 56 Tryz.underlying29 hi hz0 hz1 hz2 rfl (by decide) (by decide) HO3.out HB3.out rfl 1 1 [.string x.host, .int .i64 x.kind, .string x.key, .string x.val] rfl rfl (cells_ent x) (by omega) ?_; intro v4 w4 h4 b4)
        have HO4 := Lib.hid (own_push_ent h4)
        have HB4 := Lib.hid b4
        rw [← HST.out] at HO4
        clear h4 b4 HST y0 y1 y2 y3
        go_roundw
        case rel => exact ⟨k + 1, by omega, by go_num, by rw [HDE.out, HD.out], HNI', by rw [HTE.out]; exact HO4, HB4⟩
        case measure => simp [intOf]; omega
      | false =>
        have HT2F : Hid (ah = true → T2 = T1 ++ [e] ++ [x]) := HT2'.out rfl
        have HT3F : Hid (ah = false → T2 = T1 ++ [x]) := HT3'.out rfl
        have HFF : Hid (d2 = ah) := by show _ = _; rw [HFS.out]; rfl
        clear HT2' HT3' HFS
        go_wp2_with fail
        refine wp_region_still_tail 8 (by kernel_rfl) (by kernel_rfl) ?_
        simp only [List.take_succ_cons, List.take_zero, List.drop_succ_cons, List.drop_zero]
        repeat still_step
        refine wpStill_nil ?_
        change wpList _ _ _ _ _ w2.drew
        have HB3 := Lib.hid (below_drewN HB2.out 1)
        have HO3 := Lib.hid (own_below HO2.out (below_drewN (Below.refl _ _) 1))
        change Hid (Below _ _ w2.drew) at HB3
        change Hid (w2.drew.ownsRow _ _ _ _ _ _) at HO3
        have HA3 := Lib.hid (HAH.out w2.drew)
        generalize w2.drew = w3 at *
        clear hab1 hab2 x0 x1 x2 x3 y0 y1 y2 y3 HB2 HO2 HAH HT1'
        go_wp2_with fail
        refine HA3.out.mono ?_
        rintro e w4 ⟨rfl, hb4⟩
        have HB4 := Lib.hid (below_step HB3.out hb4)
        have HO4 := Lib.hid (own_below HO3.out hb4)
        clear HB3 HO3 HA3 hb4
        obtain ⟨hab2, y0, y1, y2, y3⟩ := HC2.out.below HB4.out
        obtain ⟨hab1, x0, x1, x2, x3⟩ := HC1.out.below HB4.out
        cases ah with
        | false =>
          have HST := Lib.hid (HT3F.out rfl)
          have HD : Hid (d2 = false) := HFF.out
          clear HT2F HT3F HFF
          go_wp2_with (at_builtin; refine app_new rfl _ _ 29 rfl w1 w4 36 i0 _ 4 56 Tryz.underlying29 hi hz0 hz1 hz2 rfl (by decide) (by decide) HO4.out HB4.out rfl 1 1 [.string x.host, .int .i64 x.kind, .string x.key, .string x.val] rfl rfl (cells_ent x) (by omega) ?_; intro v5 w5 h5 b5)
          have HO5 := Lib.hid (own_push_ent h5)
          have HB5 := Lib.hid b5
          rw [← HST.out] at HO5
          clear h5 b5 HST x0 x1 x2 x3 y0 y1 y2 y3
          go_roundw
          case rel => exact ⟨k + 1, by omega, by go_num, by rw [HDE.out, HD.out], HNI', by rw [HTE.out]; exact HO5, HB5⟩
          case measure => simp [intOf]; omega
        | true =>
          have HST := Lib.hid (HT2F.out rfl)
          have HD : Hid (d2 = true) := HFF.out
          clear HT2F HT3F HFF
          clear hab1 hab2 y0 y1 y2 y3
          have hTe : (T1 ++ [e]).length + 1 ≤ 1000000000 := by rw [List.length_append, List.length_singleton]; omega
          go_wp2_with (at_builtin; first | (refine app_new rfl _ _ 29 rfl w1 w4 36 i0 _ 4 56 Tryz.underlying29 hi hz0 hz1 hz2 rfl (by decide) (by decide) HO4.out HB4.out rfl 1 1 [.string e.host, .int .i64 e.kind, .string e.key, .string e.val] rfl rfl (cells_ent e) (by omega) ?_; intro v5 w5 h5 b5; have HO5 := Lib.hid (own_push_ent h5); have HB5 := Lib.hid b5; clear h5 b5 x0 x1 x2 x3; obtain ⟨hab2, y0, y1, y2, y3⟩ := HC2.out.below HB5.out) | (refine app_new rfl _ _ 29 rfl w1 w5 36 i0 _ 4 56 Tryz.underlying29 hi hz0 hz1 hz2 rfl (by decide) (by decide) HO5.out HB5.out rfl 1 1 [.string x.host, .int .i64 x.kind, .string x.key, .string x.val] rfl rfl (cells_ent x) (by exact hTe) ?_; intro v6 w6 h6 b6))
          have HO6 := Lib.hid (own_push_ent h6)
          have HB6 := Lib.hid b6
          rw [← HST.out] at HO6
          clear h6 b6 HST y0 y1 y2 y3
          go_roundw
          case rel => exact ⟨k + 1, by omega, by go_num, by rw [HDE.out, HD.out], HNI', by rw [HTE.out]; exact HO6, HB6⟩
          case measure => simp [intOf]; omega
  · have hkL : k = L.length := by omega
    subst hkL
    have hend := putT_end HN.out
    generalize fitsB e (L.take L.length) = d at *
    generalize putT L e L.length = T1 at *
    have hT1l : T1.length + 1 ≤ 1000000000 := by omega
    obtain ⟨hab1, x0, x1, x2, x3⟩ := HC1.out.below HB.out
    cases d with
    | true =>
      have HEN : Hid (putE L e = T1) := hend
      clear hend hab1 x0 x1 x2 x3
      go_wp2
      go_ret
      rw [HEN.out, ← hwb]
      obtain ⟨A3, c3, hv3, g1, g2, g3, g4, -⟩ := own_rd_nil HO.out
      exact ⟨A3, c3, by rw [← hv3]; rfl, g1, g2, g3, g4, below_step (by rw [hwb]; exact HB1.out) HB.out⟩
    | false =>
      have HEN : Hid (putE L e = T1 ++ [e]) := hend
      clear hend
      go_wp2_with (at_builtin; refine app_new rfl _ _ 29 rfl w1 wr 36 i0 _ 4 56 Tryz.underlying29 hi hz0 hz1 hz2 rfl (by decide) (by decide) HO.out HB.out rfl 1 1 [.string e.host, .int .i64 e.kind, .string e.key, .string e.val] rfl rfl (cells_ent e) (by omega) ?_; intro v4 w4 h4 b4)
      have HO4 := Lib.hid (own_push_ent h4)
      have HB4 := Lib.hid b4
      rw [← HEN.out] at HO4
      clear h4 b4 x0 x1 x2 x3
      go_wp2_with fail
      go_ret
      rw [← hwb]
      obtain ⟨A3, c3, hv3, g1, g2, g3, g4, -⟩ := own_rd_nil HO4.out
      exact ⟨A3, c3, by rw [← hv3]; rfl, g1, g2, g3, g4, below_step (by rw [hwb]; exact HB1.out) HB4.out⟩
end Go.Proofs.YtjdknhalcpkeaaaGreatDoor
