/- The law HostCounts. -/
import Derived.Test.YtjdknhalcpkeaaaGreatDoorJ43
import Derived.Test.YtjdknhalcpkeaaaGreatDoorJ44
import Derived.Test.YtjdknhalcpkeaaaGreatDoorJ34
namespace Hst
open Go Go.Lib Rte Sch Tre
theorem counts_facts {L : List Line} (hr : rightB L = true) (hf : checkB L = []) (h : ByteArray) (hh : h ∈ kw (paths L) [wHosts]) :
 manyE (setE (allU (paths L))) h 4 = (kw (paths L) [wRoutes]).length ∧ manyE (setE (allU (paths L))) h 5 = (kw (paths L) [wPolicy]).length ∧ manyE (setE (allU (paths L))) h 2 = (boundU (paths L) h (kw (paths L) [wBind])).length :=
 ⟨many_routes (tree_of hr).1.1 hh, many_pols (tree_of hr).1.1 hh, by rw [many_arp (fine_of hr hf) (tree_of hr).1.1 hh, bound_len (fine_of hr hf) h fun i hi => hi]⟩
theorem many_succ (M : List Ent) (h : ByteArray) (z : Int) {k : Nat} (hk : k < M.length) : manyE (M.take (k + 1)) h z = manyE (M.take k) h z + (if ofHK h z M[k] = true then 1 else 0) := by
 unfold manyE
 rw [List.take_succ_eq_append_getElem hk, List.filter_append, List.length_append]
 by_cases h0 : ofHK h z M[k] = true
 · rw [List.filter_cons_of_pos h0, if_pos h0]; rfl
 · rw [List.filter_cons_of_neg h0, if_neg h0]; rfl
theorem many_le (M : List Ent) (h : ByteArray) (z : Int) : manyE M h z ≤ M.length := List.length_filter_le _ _
def inH (S : List (List ByteArray)) (h v : ByteArray) : Bool := memB [wHosts, h, wVnis, v] S
def bndU (S : List (List ByteArray)) (h i : ByteArray) : List ByteArray := (kw S [wBind, i, wVni]).filter (inH S h)
theorem bound_flat (S : List (List ByteArray)) (h : ByteArray) (I : List ByteArray) : boundU S h I = I.flatMap (bndU S h) := rfl
theorem bound_few (S : List (List ByteArray)) (h : ByteArray) (hf : ∀ P, (kw S P).length ≤ 200) : ∀ I : List ByteArray, (I.flatMap (bndU S h)).length ≤ 200 * I.length
 | [] => by simp
 | i :: I => by
   have h1 := bound_few S h hf I
   have h2 := hf [wBind, i, wVni]
   have h3 : (bndU S h i).length ≤ (kw S [wBind, i, wVni]).length := List.length_filter_le _ _
   rw [List.flatMap_cons, List.length_append, List.length_cons]; omega
theorem filt_succ {α : Type} (p : α → Bool) (V : List α) {k : Nat} (hk : k < V.length) : ((V.take (k + 1)).filter p).length = ((V.take k).filter p).length + (if p V[k] = true then 1 else 0) := by
 rw [List.take_succ_eq_append_getElem hk, List.filter_append, List.length_append]
 by_cases h0 : p V[k] = true
 · rw [List.filter_cons_of_pos h0, if_pos h0]; rfl
 · rw [List.filter_cons_of_neg h0, if_neg h0]; rfl
def fndI (L : List Line) (P : List ByteArray) : Int := match findB L P with | some k => (k : Int) | none => -1
theorem fnd_iff {L : List Line} (hr : rightB L = true) (P : List ByteArray) : decide (0 ≤ fndI L P) = memB P (paths L) := by
 have h := find_mem hr (P := P)
 unfold fndI
 cases hf : findB L P with
 | none =>
   rw [hf] at h
   have : ¬ P ∈ paths L := fun e => by have := h.2 e; cases this
   rw [memB_not.2 this]; rfl
 | some k =>
   rw [hf] at h
   rw [memB_iff.2 (h.1 rfl)]
   exact decide_eq_true (by show (0 : Int) ≤ (k : Int); omega)
theorem fnd_le (L : List Line) (P : List ByteArray) : -1 ≤ fndI L P := by unfold fndI; split <;> omega
def cntE (M : List Ent) (h : ByteArray) (j : Nat) : Nat := if j = 0 then 0 else manyE M h j
theorem cnt_succ (M : List Ent) (h : ByteArray) {k : Nat} (hk : k < M.length) (j : Nat) : cntE (M.take (k + 1)) h j = cntE (M.take k) h j + (if j ≠ 0 ∧ M[k].host = h ∧ M[k].kind = (j : Int) then 1 else 0) := by
 unfold cntE
 by_cases h0 : j = 0
 · rw [if_pos h0, if_pos h0, if_neg fun e => e.1 h0]
 · rw [if_neg h0, if_neg h0, many_succ M h j hk]
   have e : ofHK h j M[k] = true ↔ (j ≠ 0 ∧ M[k].host = h ∧ M[k].kind = (j : Int)) := by unfold ofHK; simp [h0]
   by_cases h1 : ofHK h j M[k] = true
   · rw [if_pos h1, if_pos (e.1 h1)]
   · rw [if_neg h1, if_neg fun x => h1 (e.2 x)]
theorem cnt_le (M : List Ent) (h : ByteArray) (j : Nat) : cntE M h j ≤ M.length := by
 unfold cntE
 split
 · omega
 · exact many_le M h j
theorem cnt_zero (h : ByteArray) (j : Nat) : cntE [] h j = 0 := by unfold cntE manyE; simp
end Hst
namespace Go.Proofs.YtjdknhalcpkeaaaGreatDoor
open Go Go.RowKit Go.Sort Rte Sch Tre Hst
def Md (g : Nat) (f : Nat → Nat) (W : World) : Prop := ∀ j, j < 6 → W.cell? ⟨g, j, none⟩ = some (.int .i64 (f j : Int)) ∧ W.frozen? ⟨g, j, none⟩ = false
theorem md_new (w : World) (T : TypeId) : Md w.heap.size (fun _ => 0) (w.alloc (.cells (Array.replicate 6 (.int .i64 0)) T)) := by
 intro j hj
 refine ⟨?_, by simp⟩
 rw [World.cell?_alloc_at _ _ _ _ rfl, Array.getElem?_replicate, if_pos hj]; rfl
theorem Md.below {g : Nat} {f : Nat → Nat} {W W' : World} (h : Md g f W) (hg : g < W.heap.size) (hb : Below W.heap.size W W') : Md g f W' := fun j hj =>
 ⟨(hb.cell (p := ⟨g, j, none⟩) hg).trans (h j hj).1, (hb.frozen (p := ⟨g, j, none⟩) hg).trans (h j hj).2⟩
theorem Md.same {g : Nat} {f f' : Nat → Nat} {W : World} (h : Md g f W) (e : ∀ j, j < 6 → f' j = f j) : Md g f' W := fun j hj => by rw [e j hj]; exact h j hj
theorem Md.put {g : Nat} {f f' : Nat → Nat} {W : World} (h : Md g f W) {q : Nat} (h6 : q < 6) (e : ∀ j, j < 6 → f' j = f j + (if j = q then 1 else 0)) : Md g f' (W.setCell ⟨g, q, none⟩ (.int .i64 ((f q : Int) + 1))) := fun j hj => by
 rw [World.frozen?_setCell, e j hj]
 refine ⟨?_, (h j hj).2⟩
 by_cases e' : j = q
 · subst e'; rw [if_pos rfl, World.cell?_setCell_same _ _ _ (h j hj).1]; simp
 · rw [if_neg e', World.cell?_setCell_other _ _ _ _ (by intro e2; simp only [Addr.mk.injEq] at e2; omega)]
   exact (h j hj).1
theorem reffind_any (A : Option Addr) (cap : Nat) (L : List Line) (w : World) (hR : Rd w 3 A L.length (lines L)) (hcap : L.length ≤ cap) (hc : cap ≤ maxLen) (hr : rightB L = true) (P : List ByteArray) (hl : P.length ≤ 1000) (W : World) (hb : Below w.heap.size w W) (b : Nat) (hP : Rd W 1 (some ⟨b, 0, none⟩) P.length (sv P)) :
 Calls Tryz.prog 23 #[.slice A L.length cap, .slice (some ⟨b, 0, none⟩) P.length P.length] W fun e w' => e = .returned (.int .i64 (fndI L P)) ∧ Below W.heap.size W w' := by
 have := refFind_lines A cap L (some ⟨b, 0, none⟩) P.length P W (hR.below hb) hcap hc (by have := right_len hr; omega) hP (by unfold maxLen; omega)
 rwa [refFind_eq hr] at this
set_option maxHeartbeats 8000000 in
set_option maxRecDepth 100000 in
theorem hostCounts_any (A : Option Addr) (cap : Nat) (L : List Line) (w : World) (hE : Env w) (hR : Rd w 3 A L.length (lines L)) (hcap : L.length ≤ cap) (hc : cap ≤ maxLen) :
 Calls Tryz.prog 7 #[.slice A L.length cap] w fun e w' => e = .returned (.bool true) ∧ Below w.heap.size w w' := by
 have HA := Lib.hid (fun W (hb : Below w.heap.size w W) => awake14_any W (hE.below hb))
 have HSm := Lib.hid (small_lines A cap L w hR hcap hc)
 have HRi := Lib.hid (fun W (hb : Below w.heap.size w W) => refRight_lines A cap L W (hR.below hb) hcap hc)
 rw [right_ref] at HRi
 have HCm := Lib.hid (fun W (hb : Below w.heap.size w W) => compile_any A cap L W (hE.below hb) (hR.below hb) hcap hc)
 have HK := Lib.hid (fun (hr : rightB L = true) => refK A cap L w hR hcap hc hr)
 have HFn := Lib.hid (fun (hr : rightB L = true) => reffind_any A cap L w hR hcap hc hr)
 clear hE hR
 cases hs : smallB L with
 | false =>
   rw [hs] at HSm
   clear hs HRi HCm HK HFn
   go_enter Tryz.func7, Tryz.ntmps7
   go_wp2_with fail
   refine HSm.out.mono ?_
   rintro e w1 ⟨rfl, hb1⟩
   go_wp2_with fail
   refine (HA.out _ hb1).mono ?_
   rintro e w2 ⟨rfl, hb2⟩
   go_wp2_with fail
   go_ret
   exact ⟨rfl, below_step hb1 hb2⟩
 | true =>
   rw [hs] at HSm
   clear hs
   by_cases h60 : 60 < L.length
   · have h60' : (60 : Int) < (L.length : Int) := by omega
     clear HRi HCm HK HFn
     go_enter Tryz.func7, Tryz.ntmps7
     go_wp2_with fail
     refine HSm.out.mono ?_
     rintro e w1 ⟨rfl, hb1⟩
     go_wp2_with fail
     refine (HA.out _ hb1).mono ?_
     rintro e w2 ⟨rfl, hb2⟩
     go_wp2_with fail
     go_ret
     exact ⟨rfl, below_step hb1 hb2⟩
   · have h60' : ¬ (60 : Int) < (L.length : Int) := by omega
     have h60'' : (L.length : Int) ≤ 60 := by omega
     cases hr : rightB L with
     | false =>
       rw [hr] at HRi
       clear HCm HK HFn hr
       go_enter Tryz.func7, Tryz.ntmps7
       go_wp2_with fail
       refine HSm.out.mono ?_
       rintro e w1 ⟨rfl, hb1⟩
       go_wp2_with fail
       refine (HRi.out w1 hb1).mono ?_
       rintro e w2 ⟨rfl, hb2⟩
       go_wp2_with fail
       refine (HA.out _ (below_step hb1 hb2)).mono ?_
       rintro e w3 ⟨rfl, hb3⟩
       go_wp2_with fail
       go_ret
       exact ⟨rfl, below_step (below_step hb1 hb2) hb3⟩
     | true =>
       rw [hr] at HRi
       have hN := HK.out hr
       have HU := Lib.hid hN.under
       have hk1 := hN.few [wHosts]
       have hk2 := hN.few [wBind]
       have hk3 := hN.few [wRoutes]
       have hk4 := hN.few [wPolicy]
       have HFw := Lib.hid hN.few
       have HFI := Lib.hid (fun (hf : checkB L = []) => counts_facts hr hf)
       have HFD := Lib.hid (HFn.out hr)
       have HFE := Lib.hid (fun P => fnd_iff hr P)
       have HHr := Lib.hid hr
       have hsl := all_len_set hr
       clear hr hN HK HFn
       go_enter Tryz.func7, Tryz.ntmps7
       go_wp2_with fail
       refine HSm.out.mono ?_
       rintro e w1 ⟨rfl, hb1⟩
       have HB1 := Lib.hid hb1
       clear hb1 HSm
       go_wp2_with fail
       refine (HRi.out w1 HB1.out).mono ?_
       rintro e w2 ⟨rfl, hb2⟩
       have HB2 := Lib.hid (below_step HB1.out hb2)
       clear hb2 HRi HB1
       go_wp2_with fail
       refine (HCm.out w2 HB2.out).mono ?_
       unfold CompileEnd
       rintro e w3 (⟨hr', rfl, hb3⟩ | ⟨-, hf, rfl, hb3⟩ | ⟨-, hf, A3, c3, rfl, g1, g2, g3, g4, hb3⟩)
       · rw [HHr.out] at hr'; cases hr'
       · have HB3 := Lib.hid (below_step HB2.out hb3)
         clear hb3 HB2 HCm hf
         go_wp2_with fail
         refine (HA.out _ HB3.out).mono ?_
         rintro e w99 ⟨rfl, hb99⟩
         go_wp2_with fail
         go_ret
         exact ⟨rfl, below_step HB3.out hb99⟩
       · have HB3 := Lib.hid (below_step HB2.out hb3)
         have HG3 := Lib.hid g3
         clear hb3 HB2 HCm g3
         have HFa := Lib.hid (HFI.out hf)
         clear HFI hf HHr
         generalize setE (allU (paths L)) = M at *
         generalize paths L = S at *
         generalize fndI L = fnd at *
         generalize hK : kw S [wHosts] = K at *
         have HKe := Lib.hid hK
         generalize hKb : kw S [wBind] = I at *
         have HKb := Lib.hid hKb
         generalize hKr : kw S [wRoutes] = Kr at *
         have HKr := Lib.hid hKr
         generalize hKp : kw S [wPolicy] = Kp at *
         have HKp := Lib.hid hKp
         clear hK hKb hKr hKp
         go_wp2_with fail
         refine (HU.out [wRoutes] (by simp) (by simp) _ (HB3.out.alloc HB3.out.size _) _ (rd_words _ _ [wRoutes] rfl)).mono ?_
         rw [HKr.out]
         unfold StrsOwn
         rintro e w4 ⟨⟨v4, rfl, hv4⟩, hb4⟩
         obtain ⟨A4, c4, rfl, k41, k42, hr4, -, -⟩ := own_rd_nil hv4
         have HK4 := Lib.hid hr4
         have HB4 := Lib.hid (below_step (HB3.out.alloc HB3.out.size _) hb4)
         have HM4 := Lib.hid ((HG3.out.alloc (.cells (sv [wRoutes]).toArray 9)).below hb4)
         clear hb4 hv4 hr4 HK4 HB3 HG3
         go_wp2_with fail
         refine (HU.out [wPolicy] (by simp) (by simp) _ (HB4.out.alloc HB4.out.size _) _ (rd_words _ _ [wPolicy] rfl)).mono ?_
         rw [HKp.out]
         unfold StrsOwn
         rintro e w5 ⟨⟨v5, rfl, hv5⟩, hb5⟩
         obtain ⟨A5, c5, rfl, k51, k52, hr5, -, -⟩ := own_rd_nil hv5
         have HK5 := Lib.hid hr5
         have HB5 := Lib.hid (below_step (HB4.out.alloc HB4.out.size _) hb5)
         have HM5 := Lib.hid ((HM4.out.alloc (.cells (sv [wPolicy]).toArray 9)).below hb5)
         clear hb5 hv5 hr5 HK5 HB4 HM4
         go_wp2_with fail
         refine (HU.out [wHosts] (by simp) (by simp) _ (HB5.out.alloc HB5.out.size _) _ (rd_words _ _ [wHosts] rfl)).mono ?_
         rw [HKe.out]
         unfold StrsOwn
         rintro e w6 ⟨⟨v6, rfl, hv6⟩, hb6⟩
         obtain ⟨A6, c6, rfl, k61, k62, hr6, -, -⟩ := own_rd_nil hv6
         have HK6 := Lib.hid hr6
         have HB6 := Lib.hid (below_step (HB5.out.alloc HB5.out.size _) hb6)
         have HM6 := Lib.hid ((HM5.out.alloc (.cells (sv [wHosts]).toArray 9)).below hb6)
         clear hb6 hv6 hr6 HB5 HM5
         go_wp2_with fail
         go_loopw [54] (fun vi wr => ∃ k : Nat, k ≤ K.length ∧ vi = .int .i64 k ∧ Hid (Below w6.heap.size w6 wr)) (fun vi _ => K.length - (intOf vi).toNat)
         case atStart => exact ⟨0, Nat.zero_le _, rfl, Below.refl _ _⟩
         case round =>
          obtain ⟨k, hk, rfl, HB⟩ := hrel
          by_cases hlt : k < K.length
          · obtain ⟨B2, O2, rfl, hab2, hadd2, hx⟩ := (HK6.out.below HB.out).strAt hlt
            have HCh := Lib.hid (HFa.out K[k] (List.getElem_mem hlt))
            generalize K[k] = h at *
            go_wp2_with fail
            clear hx hadd2 hab2
            have HMd7 := Lib.hid (md_new wr 47)
            have HB7 := Lib.hid (HB.out.alloc HB.out.size (.cells (Array.replicate 6 (.int .i64 0)) 47))
            have HGl7 : Hid (wr.heap.size < (wr.alloc (.cells (Array.replicate 6 (.int .i64 0)) 47)).heap.size) := by show _ < _; rw [World.size_alloc]; omega
            have HGb : Hid (w6.heap.size ≤ wr.heap.size) := HB.out.size
            change Code.wp _ _ _ _ (wr.alloc (.cells (Array.replicate 6 (.int .i64 0)) 47))
            generalize wr.alloc (.cells (Array.replicate 6 (.int .i64 0)) 47) = w7 at *
            generalize wr.heap.size = g at *
            clear HB wr
            go_loopw [60] (fun vi wr => ∃ k2 : Nat, k2 ≤ M.length ∧ vi = .int .i64 k2 ∧ Hid (Md g (fun j => cntE (M.take k2) h j) wr) ∧ Hid (Below w6.heap.size w6 wr) ∧ Hid (g < wr.heap.size)) (fun vi _ => M.length - (intOf vi).toNat)
            case atStart => exact ⟨0, Nat.zero_le _, rfl, HMd7.out.same (fun j _ => by rw [List.take_zero]; exact cnt_zero h j), HB7, HGl7⟩
            case round =>
             clear HMd7 HB7 HGl7
             obtain ⟨k2, hk2, rfl, HMd, HBq, HGl⟩ := hrel
             by_cases hl2 : k2 < M.length
             · obtain ⟨B3, O3, rfl, hab3, hadd3, y0, y1, y2, y3⟩ := (HM6.out.below HBq.out).ent hl2
               have HSt := Lib.hid (fun j => cnt_succ M h hl2 j)
               have HLe := Lib.hid (fun j => cnt_le (M.take k2) h j)
               have hlen : (M.take k2).length ≤ 900000000 := by rw [List.length_take]; omega
               generalize M[k2] = y at *
               by_cases h1 : y.host = h
               · have q1 : (y.host.toList == h.toList) = true := by rw [h1]; exact beq_self_eq_true _
                 have H1 := Lib.hid h1
                 clear h1
                 by_cases h2 : 0 < y.kind
                 · by_cases h3 : y.kind < 6
                   · obtain ⟨q, hq⟩ := Int.eq_ofNat_of_zero_le (Int.le_of_lt h2)
                     have hq2 : y.kind = (q : Int) := hq
                     have hq0 : 0 < q := by omega
                     have hq6 : q < 6 := by omega
                     have hqi : (q : Int) < 6 := by omega
                     have hqp : (0 : Int) < (q : Int) := by omega
                     have hSt : ∀ j, j < 6 → cntE (M.take (k2 + 1)) h j = cntE (M.take k2) h j + (if j = q then 1 else 0) := fun j _ => by
                      rw [HSt.out j]
                      by_cases e : j = q
                      · rw [if_pos e, if_pos ⟨by omega, H1.out, by rw [hq2, e]⟩]
                      · rw [if_neg e, if_neg fun x => e (by have := x.2.2; omega)]
                     have HS2 := Lib.hid hSt
                     rw [hq2] at y1
                     clear hSt hq hq2 h2 h3 HSt
                     have hgc : wr.cell? ⟨g, q, none⟩ = some (.int .i64 (cntE (M.take k2) h q : Int)) := (HMd.out q hq6).1
                     have hgf : wr.frozen? ⟨g, q, none⟩ = false := (HMd.out q hq6).2
                     have hgl := HGl.out
                     have hle : ((cntE (M.take k2) h q : Nat) : Int) ≤ 900000000 := by have := HLe.out q; omega
                     have hle0 : (0 : Int) ≤ ((cntE (M.take k2) h q : Nat) : Int) := by omega
                     have hMp := HMd.out.put hq6 HS2.out
                     have HMn : Hid (Md g (fun j => cntE (M.take (k2 + 1)) h j) ((wr.setCell ⟨g, q, none⟩ (.int .i64 ((cntE (M.take k2) h q : Int) + 1))).alloc (.cells #[.string y.host, .int .i64 q, .string y.key, .string y.val] 35))) := hMp.below (by rw [World.size_setCell]; exact hgl) ((Below.refl _ _).alloc (Nat.le_refl _) _)
                     have hBp : Below w6.heap.size w6 (wr.setCell ⟨g, q, none⟩ (.int .i64 ((cntE (M.take k2) h q : Int) + 1))) := HBq.out.setCell HGb.out _
                     have HBn : Hid (Below w6.heap.size w6 ((wr.setCell ⟨g, q, none⟩ (.int .i64 ((cntE (M.take k2) h q : Int) + 1))).alloc (.cells #[.string y.host, .int .i64 q, .string y.key, .string y.val] 35))) := hBp.alloc hBp.size _
                     have HGn : Hid (g < ((wr.setCell ⟨g, q, none⟩ (.int .i64 ((cntE (M.take k2) h q : Int) + 1))).alloc (.cells #[.string y.host, .int .i64 q, .string y.key, .string y.val] 35)).heap.size) := by show _ < _; rw [World.size_alloc, World.size_setCell]; omega
                     clear HMd HS2 HLe hMp hBp
                     generalize cntE (M.take k2) h q = cq at *
                     go_wp2
                     go_roundw
                     case rel => exact ⟨k2 + 1, by omega, by go_num, HMn, HBn, HGn⟩
                     case measure => simp [intOf]; omega
                   · have h3' : decide (y.kind < 6) = false := decide_eq_false h3
                     have HMn : Hid (Md g (fun j => cntE (M.take (k2 + 1)) h j) (wr.alloc (.cells #[.string y.host, .int .i64 y.kind, .string y.key, .string y.val] 35))) := (HMd.out.same (fun j hj => by rw [HSt.out j, if_neg (fun x => h3 (by have := x.2.2; omega))]; rfl)).below HGl.out ((Below.refl _ _).alloc (Nat.le_refl _) _)
                     have HBn := Lib.hid (HBq.out.alloc HBq.out.size (.cells #[.string y.host, .int .i64 y.kind, .string y.key, .string y.val] 35))
                     have HGn : Hid (g < (wr.alloc (.cells #[.string y.host, .int .i64 y.kind, .string y.key, .string y.val] 35)).heap.size) := by show _ < _; rw [World.size_alloc]; have := HGl.out; omega
                     clear HMd HSt H1
                     go_wp2
                     go_roundw
                     case rel => exact ⟨k2 + 1, by omega, by go_num, HMn, HBn, HGn⟩
                     case measure => simp [intOf]; omega
                 · have h2' : decide (0 < y.kind) = false := decide_eq_false h2
                   have HMn : Hid (Md g (fun j => cntE (M.take (k2 + 1)) h j) (wr.alloc (.cells #[.string y.host, .int .i64 y.kind, .string y.key, .string y.val] 35))) := (HMd.out.same (fun j hj => by rw [HSt.out j, if_neg (fun x => h2 (by have := x.2.2; have := x.1; omega))]; rfl)).below HGl.out ((Below.refl _ _).alloc (Nat.le_refl _) _)
                   have HBn := Lib.hid (HBq.out.alloc HBq.out.size (.cells #[.string y.host, .int .i64 y.kind, .string y.key, .string y.val] 35))
                   have HGn : Hid (g < (wr.alloc (.cells #[.string y.host, .int .i64 y.kind, .string y.key, .string y.val] 35)).heap.size) := by show _ < _; rw [World.size_alloc]; have := HGl.out; omega
                   clear HMd HSt H1
                   go_wp2
                   go_roundw
                   case rel => exact ⟨k2 + 1, by omega, by go_num, HMn, HBn, HGn⟩
                   case measure => simp [intOf]; omega
               · obtain ⟨q1, q2⟩ := ne_list h1
                 have HMn : Hid (Md g (fun j => cntE (M.take (k2 + 1)) h j) (wr.alloc (.cells #[.string y.host, .int .i64 y.kind, .string y.key, .string y.val] 35))) := (HMd.out.same (fun j hj => by rw [HSt.out j, if_neg (fun x => h1 x.2.1)]; rfl)).below HGl.out ((Below.refl _ _).alloc (Nat.le_refl _) _)
                 have HBn := Lib.hid (HBq.out.alloc HBq.out.size (.cells #[.string y.host, .int .i64 y.kind, .string y.key, .string y.val] 35))
                 have HGn : Hid (g < (wr.alloc (.cells #[.string y.host, .int .i64 y.kind, .string y.key, .string y.val] 35)).heap.size) := by show _ < _; rw [World.size_alloc]; have := HGl.out; omega
                 clear HMd HSt h1
                 go_wp2
                 go_roundw
                 case rel => exact ⟨k2 + 1, by omega, by go_num, HMn, HBn, HGn⟩
                 case measure => simp [intOf]; omega
             · have hke : k2 = M.length := by omega
               have HMe : Hid (Md g (fun j => cntE M h j) wr) := by have := HMd.out; rwa [hke, List.take_length] at this
               clear HMd hke
               have HBw := Lib.hid (below_step HB6.out HBq.out)
               go_wp2_with fail
               refine (HU.out [wBind] (by simp) (by simp) _ (HBw.out.alloc HBw.out.size _) _ (rd_words _ _ [wBind] rfl)).mono ?_
               rw [HKb.out]
               unfold StrsOwn
               rintro e w8 ⟨⟨v8, rfl, hv8⟩, hb8⟩
               obtain ⟨A8, c8, rfl, k81, k82, hr8, -, -⟩ := own_rd_nil hv8
               have HI8 := Lib.hid hr8
               have hbq8 : Below wr.heap.size wr w8 := below_step ((Below.refl wr.heap.size wr).alloc (Nat.le_refl _) _) hb8
               have HM8 := Lib.hid (HMe.out.below HGl.out hbq8)
               have HG8 : Hid (g < w8.heap.size) := Nat.lt_of_lt_of_le HGl.out hbq8.size
               have HB8 := Lib.hid (below_step HBq.out hbq8)
               have HB8w := Lib.hid (below_step HB6.out HB8.out)
               clear hv8 hb8 hr8 hbq8 HMe HGl HBq HBw
               have HSf := Lib.hid (fun (j : Nat) (hj : j < I.length) => flat_succ (bndU S h) I hj)
               have HBf := Lib.hid (fun I => bound_few S h HFw.out I)
               have HCB : Hid (cntE M h 2 = (I.flatMap (bndU S h)).length) := HCh.out.2.2
               have HCR : Hid (cntE M h 4 = Kr.length) := HCh.out.1
               have HCP : Hid (cntE M h 5 = Kp.length) := HCh.out.2.1
               clear HCh
               go_wp2_with fail
               go_loopw [12, 89] (fun vc vi wr => ∃ j : Nat, j ≤ I.length ∧ vi = .int .i64 j ∧ vc = .int .i64 (((I.take j).flatMap (bndU S h)).length : Nat) ∧ Hid (Below w8.heap.size w8 wr)) (fun _ vi _ => I.length - (intOf vi).toNat)
               case atStart => exact ⟨0, Nat.zero_le _, rfl, rfl, Below.refl _ _⟩
               case round =>
                obtain ⟨j, hj, rfl, rfl, HBq⟩ := hrel
                by_cases hjl : j < I.length
                · obtain ⟨B4, O4, rfl, hab4, hadd4, hx⟩ := (HI8.out.below HBq.out).strAt hjl
                  have hsj := HSf.out j hjl
                  have hnl : (((I.take j).flatMap (bndU S h)).length : Int) ≤ 1000000 := by have := HBf.out (I.take j); rw [List.length_take] at this; omega
                  have hn0 : (0 : Int) ≤ (((I.take j).flatMap (bndU S h)).length : Int) := by omega
                  generalize I[j] = i at *
                  have hsj2 : ((I.take (j + 1)).flatMap (bndU S h)).length = ((I.take j).flatMap (bndU S h)).length + (bndU S h i).length := by rw [hsj, List.length_append]
                  generalize ((I.take j).flatMap (bndU S h)).length = n1 at *
                  have HBu : Hid (bndU S h i = (kw S [wBind, i, wVni]).filter (inH S h)) := rfl
                  have hvf := HFw.out [wBind, i, wVni]
                  generalize hV : kw S [wBind, i, wVni] = V at *
                  have HV := Lib.hid hV
                  have HN2 : Hid (((I.take (j + 1)).flatMap (bndU S h)).length = n1 + (V.filter (inH S h)).length) := by show _ = _; rw [hsj2, HBu.out]
                  clear hsj hsj2 HBu hV
                  have HBw := Lib.hid (below_step HB8w.out HBq.out)
                  go_wp2_with fail
                  refine (HU.out [wBind, i, wVni] (by simp) (by simp) _ (HBw.out.alloc HBw.out.size _) _ (rd_words _ _ [wBind, i, wVni] rfl)).mono ?_
                  rw [HV.out]
                  unfold StrsOwn
                  rintro e w9 ⟨⟨v9, rfl, hv9⟩, hb9⟩
                  obtain ⟨A9, c9, rfl, k91, k92, hr9, -, -⟩ := own_rd_nil hv9
                  have HV9 := Lib.hid hr9
                  have HB9 := Lib.hid (below_step (below_step HBq.out ((Below.refl wr.heap.size wr).alloc (Nat.le_refl _) _)) hb9)
                  have HB9w := Lib.hid (below_step HB8w.out HB9.out)
                  clear hv9 hb9 hr9 hx HBw
                  go_wp2_with fail
                  go_loopw [12, 98] (fun vc vi wr => ∃ p : Nat, p ≤ V.length ∧ vi = .int .i64 p ∧ (∃ n3 : Nat, vc = .int .i64 n3 ∧ Hid (n3 = n1 + ((V.take p).filter (inH S h)).length)) ∧ Hid (Below w9.heap.size w9 wr)) (fun _ vi _ => V.length - (intOf vi).toNat)
                  case atStart => exact ⟨0, Nat.zero_le _, rfl, ⟨n1, rfl, by show _ = _; simp⟩, Below.refl _ _⟩
                  case round =>
                   obtain ⟨p, hp, rfl, ⟨n3, rfl, HN3⟩, HBz⟩ := hrel
                   by_cases hpl : p < V.length
                   · obtain ⟨B5, O5, rfl, hab5, hadd5, hx⟩ := (HV9.out.below HBz.out).strAt hpl
                     have hfs := filt_succ (inH S h) V hpl
                     have hn3 : (n3 : Int) ≤ 1000200 := by
                      have := HN3.out
                      have h1 := List.length_filter_le (inH S h) (V.take p)
                      rw [List.length_take] at h1; omega
                     generalize V[p] = v at *
                     have HFs := Lib.hid hfs
                     have hinv : inH S h v = decide (0 ≤ fnd [wHosts, h, wVnis, v]) := (HFE.out _).symm
                     have HIn := Lib.hid hinv
                     clear hfs hinv
                     have HBw := Lib.hid (below_step HB9w.out HBz.out)
                     go_wp2_with fail
                     refine (HFD.out [wHosts, h, wVnis, v] (by simp) _ (HBw.out.alloc HBw.out.size _) _ (rd_words _ _ [wHosts, h, wVnis, v] rfl)).mono ?_
                     rintro e w10 ⟨rfl, hb10⟩
                     have HB10 := Lib.hid (below_step (below_step HBz.out ((Below.refl wr.heap.size wr).alloc (Nat.le_refl _) _)) hb10)
                     clear hb10 hx HBw
                     generalize fnd [wHosts, h, wVnis, v] = z at *
                     by_cases hz : 0 ≤ z
                     · have HN4 : Hid (n3 + 1 = n1 + ((V.take (p + 1)).filter (inH S h)).length) := by show _ = _; rw [HFs.out, HIn.out, decide_eq_true hz, if_pos rfl, HN3.out]; omega
                       clear HFs HIn HN3
                       go_wp2_with fail
                       go_roundw
                       case rel => exact ⟨p + 1, by omega, by go_num, ⟨n3 + 1, by go_num, HN4⟩, HB10⟩
                       case measure => simp [intOf]; omega
                     · have HN4 : Hid (n3 = n1 + ((V.take (p + 1)).filter (inH S h)).length) := by show _ = _; rw [HFs.out, HIn.out, decide_eq_false hz, if_neg (by decide), HN3.out]; omega
                       clear HFs HIn HN3
                       go_wp2_with fail
                       go_roundw
                       case rel => exact ⟨p + 1, by omega, by go_num, ⟨n3, rfl, HN4⟩, HB10⟩
                       case measure => simp [intOf]; omega
                   · have hpe : p = V.length := by omega
                     have HN4 : Hid (((I.take (j + 1)).flatMap (bndU S h)).length = n3) := by have := HN3.out; rw [hpe, List.take_length] at this; show _ = _; rw [HN2.out, this]
                     have HB10 := Lib.hid (below_step HB9.out HBz.out)
                     clear HN3
                     go_wp2_with fail
                     go_roundw
                     case rel => exact ⟨j + 1, by omega, by go_num, by rw [HN4.out], HB10⟩
                     case measure => simp [intOf]; omega
                · have hje : j = I.length := by omega
                  have hcb : ((I.take j).flatMap (bndU S h)).length = cntE M h 2 := by rw [hje, List.take_length, HCB.out]
                  rw [hcb]
                  clear hcb hje HSf HBf
                  have HM9 := Lib.hid (HM8.out.below HG8.out HBq.out)
                  have m2' := (HM9.out 2 (by decide)).1
                  have m4' := (HM9.out 4 (by decide)).1
                  have m5' := (HM9.out 5 (by decide)).1
                  have m4 : wr.cell? ⟨g, 4, none⟩ = some (.int .i64 (Kr.length : Int)) := by rw [← HCR.out]; exact m4'
                  have m5 : wr.cell? ⟨g, 5, none⟩ = some (.int .i64 (Kp.length : Int)) := by rw [← HCP.out]; exact m5'
                  have m2 : wr.cell? ⟨g, 2, none⟩ = some (.int .i64 (cntE M h 2 : Int)) := m2'
                  clear m2' m4' m5'
                  have HBn := Lib.hid (below_step HB8.out HBq.out)
                  generalize cntE M h 2 = nb at *
                  have e1 : ((Kr.length : Int) != (Kr.length : Int)) = false := bne_self_eq_false _
                  have e2 : ((Kp.length : Int) != (Kp.length : Int)) = false := bne_self_eq_false _
                  have e3 : ((nb : Int) != (nb : Int)) = false := bne_self_eq_false _
                  go_wp2_with fail
                  go_roundw
                  case rel => exact ⟨k + 1, by omega, by go_num, HBn⟩
                  case measure => simp [intOf]; omega
          · have HBE := Lib.hid (below_step HB6.out HB.out)
            clear HB HFa
            go_wp2_with fail
            refine (HA.out _ HBE.out).mono ?_
            rintro e w99 ⟨rfl, hb99⟩
            go_wp2_with fail
            go_ret
            exact ⟨rfl, below_step HBE.out hb99⟩
end Go.Proofs.YtjdknhalcpkeaaaGreatDoor
