/- Walks: refs, few, the reference's Same. Plain: what the faults of a tree look like; marks make no difference. -/
import Derived.Test.YtlldjkhlhfnfeaaGreatDoorGn
import Derived.Test.YtlldjkhlhfnfeaaGreatDoorGo
namespace Go.Proofs.YtlldjkhlhfnfeaaGreatDoor
open Go Go.RowKit Go.Sort Sch Adr Mtr Tre

theorem Pd.fault {w : World} {A : Option Addr} {F : List Fault} (h : Pd w 2 A (F.map fitem)) {i : Nat} (hi : i < F.length) :
    ∃ B O b c, A = some ⟨B, O, none⟩ ∧ B < w.heap.size ∧ (⟨B, O, none⟩ : Addr).add (i * 2) = ⟨B, O + i * 2, none⟩ ∧ Pv w (.slice (some ⟨b, 0, none⟩) F[i].1.length c) F[i].1 ∧
      w.cell? ⟨B, O + i * 2, none⟩ = some (.slice (some ⟨b, 0, none⟩) F[i].1.length c) ∧ w.cell? ⟨B, O + i * 2 + 1, none⟩ = some (.int .i64 F[i].2) := by
  obtain ⟨B, O, v, e, h1, h2, h3, h4, h5⟩ := h.at (i := i) (by rw [List.length_map]; exact hi)
  rw [List.getElem_map] at h3
  obtain ⟨b, c, rfl, -, -, -, -, h6, -⟩ := h3.slice
  refine ⟨B, O, b, c, e, h1, h2, h6, h4, ?_⟩
  have := h5 0 (.int .i64 F[i].2) (by rw [List.getElem_map]; rfl)
  simpa using this
theorem equal_refl (L : List ByteArray) (hl : L.length ≤ 1000) (A1 : Option Addr) (c1 : Nat) (A2 : Option Addr) (c2 : Nat) (W : World) (h1 : Rd W 1 A1 L.length (sv L)) (h2 : Rd W 1 A2 L.length (sv L)) :
    Calls Tryz.prog 21 #[.slice A1 L.length c1, .slice A2 L.length c2] W fun e w' => e = .returned (.bool true) ∧ Below W.heap.size W w' :=
  (refEqual_any A1 c1 L A2 c2 L W h1 h2 (by unfold maxLen; omega) (by unfold maxLen; omega)).mono fun e w' ⟨h4, h5⟩ => ⟨by rw [h4, decide_eq_true rfl], h5⟩
theorem info_rfault : (Tryz.prog.info? 82).map (fun i => (i.zero, i.size, i.bytes)) = some (some (.agg #[.slice none 0 0, .int .i64 0]), 2, 32) := by kernel_rfl

set_option maxHeartbeats 4000000 in
set_option maxRecDepth 100000 in
theorem refs_any (A : Option Addr) (c : Nat) (F : List Fault) (w : World) (hR : Pd w 2 A (F.map fitem)) (hl : F.length ≤ 100000) :
    Calls Tryz.prog 26 #[.slice A F.length c] w fun e w' => (∃ v, e = .returned v ∧ Pl w' w.heap.size 82 2 v (F.map fitem)) ∧ Below w.heap.size w w' := by
  obtain ⟨i0, hii, hz0, hz1, hz2⟩ := info_parts info_rfault
  have HR := Lib.hid hR
  clear hR
  go_enter Tryz.func26, Tryz.ntmps26
  go_wp2
  go_loopw [3, 8] (fun v vi wr => ∃ k : Nat, k ≤ F.length ∧ vi = .int .i64 k ∧ Hid (Pl wr w.heap.size 82 2 v ((F.take k).map fitem)) ∧ Hid (Below w.heap.size w wr)) (fun _ vi _ => F.length - (intOf vi).toNat)
  case atStart => exact ⟨0, Nat.zero_le _, rfl, Pl.nil _ _ _ _, Below.refl _ _⟩
  case round =>
    obtain ⟨k, hk, rfl, HP, HB⟩ := hrel
    by_cases hlt : k < F.length
    · obtain ⟨B, O, b, cc, rfl, hab, hadd, hpv, x0, x1⟩ := (HR.out.below HB.out).fault hlt
      have hst : Hid ((F.take (k + 1)).map fitem = (F.take k).map fitem ++ [fitem F[k]]) := by
        show _ = _
        rw [List.take_succ_eq_append_getElem hlt, List.map_append]; rfl
      have HTL : Hid (((F.take k).map fitem).length + 1 ≤ 1000000000) := by show _ ≤ _; rw [List.length_map, List.length_take]; omega
      have HFI : Hid (fitem F[k] = (F[k].1, [.int .i64 F[k].2])) := rfl
      generalize F[k].1 = P at *
      generalize F[k].2 = u at *
      generalize fitem F[k] = fi at *
      have hfi := HFI.out
      subst hfi
      obtain ⟨wo, hwo⟩ : ∃ wo, wr.alloc (.cells #[.slice (some ⟨b, 0, none⟩) P.length cc, .int .i64 u] 34) = wo := ⟨_, rfl⟩
      have hbo : Below wr.heap.size wr wo := by rw [← hwo]; exact (Below.refl _ _).alloc (Nat.le_refl _) _
      obtain ⟨q, hq⟩ : ∃ q, wr.heap.size = q := ⟨_, rfl⟩
      have y0 : wo.cell? ⟨q, 0, none⟩ = some (.slice (some ⟨b, 0, none⟩) P.length cc) := by rw [← hwo, World.cell?_alloc_at _ _ _ _ hq.symm]; rfl
      have y1 : wo.cell? ⟨q, 1, none⟩ = some (.int .i64 u) := by rw [← hwo, World.cell?_alloc_at _ _ _ _ hq.symm]; rfl
      have HBo := Lib.hid (below_step HB.out hbo)
      have HPo := Lib.hid (HP.out.below hbo)
      have HPv := Lib.hid (hpv.below hbo)
      clear HP HB hbo hpv HFI
      go_wp2_with (at_builtin; refine app_item rfl _ _ 43 rfl w wo 82 i0 _ 2 32 Tryz.underlying43 hii hz0 hz1 hz2 rfl (by decide) (by decide) HPo.out HBo.out rfl (.slice (some ⟨b, 0, none⟩) P.length cc) (P, [.int .i64 u]) rfl (fitem_cells (P, u)) HPv.out rfl HTL.out ?_; intro v' w' hown' hb')
      have HP6 : Hid (Pl w' w.heap.size 82 2 v' ((F.take (k + 1)).map fitem)) := by
        show Pl _ _ _ _ _ _
        rw [hst.out]; exact hown'
      have HB6 := Lib.hid hb'
      clear hown' hb' HPo HBo HPv hst y0 y1 hwo x0 x1
      go_roundw
      case rel => exact ⟨k + 1, by omega, by go_num, HP6, HB6⟩
      case measure => simp [intOf]; omega
    · obtain rfl : k = F.length := by omega
      have HPF := HP.out
      rw [List.take_length] at HPF
      have HPG := Lib.hid HPF
      clear HP HPF
      go_wp2
      go_ret
      exact ⟨⟨_, rfl, HPG.out⟩, HB.out⟩

set_option maxHeartbeats 4000000 in
set_option maxRecDepth 100000 in
theorem same_any (A : Option Addr) (c : Nat) (A2 : Option Addr) (c2 : Nat) (F : List Fault) (w : World) (hR : Pd w 2 A (F.map fitem)) (hR2 : Pd w 2 A2 (F.map fitem)) (hl : F.length ≤ 100000) (hs : ∀ f ∈ F, f.1.length ≤ 1000) :
    Calls Tryz.prog 25 #[.slice A F.length c, .slice A2 F.length c2] w fun e w' => e = .returned (.bool true) ∧ Below w.heap.size w w' := by
  have HR := Lib.hid hR
  have HR2 := Lib.hid hR2
  have HS := Lib.hid hs
  clear hR hR2 hs
  go_enter Tryz.func25, Tryz.ntmps25
  go_wp2
  go_loopw [5] (fun vi wr => ∃ k : Nat, k ≤ F.length ∧ vi = .int .i64 k ∧ Hid (Below w.heap.size w wr)) (fun vi _ => F.length - (intOf vi).toNat)
  case atStart => exact ⟨0, Nat.zero_le _, rfl, Below.refl _ _⟩
  case round =>
    obtain ⟨k, hk, rfl, HB⟩ := hrel
    by_cases hlt : k < F.length
    · obtain ⟨B, O, b, cc, rfl, hab, hadd, hpv, x0, x1⟩ := (HR.out.below HB.out).fault hlt
      obtain ⟨B2, O2, b2, cc2, rfl, hab2, hadd2, hpv2, z0, z1⟩ := (HR2.out.below HB.out).fault hlt
      have hps := HS.out _ (List.getElem_mem hlt)
      generalize F[k].1 = P at *
      generalize F[k].2 = u at *
      have hEq : ∀ m os, Calls Tryz.prog 21 #[.slice (some ⟨b, 0, none⟩) P.length cc, .slice (some ⟨b2, 0, none⟩) P.length cc2] (grow (redrawn wr m) os) fun e w' => e = .returned (.bool true) ∧ ∃ p : Regrown, w' = grow (redrawn wr p.d) p.os := fun m os =>
        Calls.regrown_of (equal_refl P hps _ _ _ _ _ (hpv.rd.1.below (below_regrown wr m os)) (hpv2.rd.1.below (below_regrown wr m os)))
      have X0 := fun m os => cell_regrown x0 m os
      have X1 := fun m os => cell_regrown x1 m os
      have Z0 := fun m os => cell_regrown z0 m os
      have Z1 := fun m os => cell_regrown z1 m os
      have hki : (k : Int) < (F.length : Int) := by omega
      have hk0 : (0 : Int) ≤ (k : Int) := by omega
      clear hpv hpv2 hps
      go_wp2_with fail
      refine wp_region_quiet_below (by kernel_rfl) (by kernel_rfl) ?_
      repeat (go_big_quiet_step ((go_at_call 21; exact hEq _ _)))
      refine wpQuiet_nil ?_
      intro _ hw'
      obtain ⟨⟨dq, osq⟩, hw''⟩ := hw'
      subst hw''
      have HB3 := Lib.hid (below_step HB.out (below_regrown wr dq osq))
      clear hEq X0 X1 Z0 Z1 x0 x1 z0 z1 HB
      go_wp2_with fail
      go_roundw
      case rel => exact ⟨k + 1, by omega, by go_num, HB3⟩
      case measure => simp [intOf]; omega
    · obtain rfl : k = F.length := by omega
      go_wp2
      go_ret
      exact ⟨rfl, HB.out⟩
def fewB (L : List Line) : Bool := smallB L && decide (L.length ≤ 60)
set_option maxHeartbeats 1000000 in
theorem few13_any (A : Option Addr) (cap : Nat) (L : List Line) (w : World) (hR : Rd w 3 A L.length (lines L)) (hcap : L.length ≤ cap) (hc : cap ≤ maxLen) :
    Calls Tryz.prog 14 #[.slice A L.length cap] w fun e w' => e = .returned (.bool (fewB L)) ∧ Below w.heap.size w w' := by
  have HC := Lib.hid (small_lines A cap L w hR hcap hc)
  have HX : Hid (fewB L = (smallB L && decide (L.length ≤ 60))) := rfl
  clear hR
  generalize smallB L = s at *
  by_cases h : L.length ≤ 60
  · have HK : Hid (fewB L = s) := by show _ = _; rw [HX.out, decide_eq_true h, Bool.and_true]
    have hd : decide ((L.length : Int) ≤ 60) = true := decide_eq_true (by omega)
    have hi : (L.length : Int) ≤ 60 := by omega
    clear HX h
    cases s with
    | true =>
      go_enter Tryz.func14, Tryz.ntmps14
      go_wp2_with fail
      refine HC.out.mono ?_
      rintro e w2 ⟨rfl, hb2⟩
      go_wp2_with fail
      go_ret
      exact ⟨ret_bool HK.out.symm, hb2⟩
    | false =>
      go_enter Tryz.func14, Tryz.ntmps14
      go_wp2_with fail
      refine HC.out.mono ?_
      rintro e w2 ⟨rfl, hb2⟩
      go_wp2_with fail
      go_ret
      exact ⟨ret_bool HK.out.symm, hb2⟩
  · have HK : Hid (fewB L = false) := by show _ = _; rw [HX.out, decide_eq_false h, Bool.and_false]
    have hd : decide ((L.length : Int) ≤ 60) = false := decide_eq_false (by omega)
    have hi : ¬ (L.length : Int) ≤ 60 := by omega
    clear HX h
    cases s with
    | true =>
      go_enter Tryz.func14, Tryz.ntmps14
      go_wp2_with fail
      refine HC.out.mono ?_
      rintro e w2 ⟨rfl, hb2⟩
      go_wp2_with fail
      go_ret
      exact ⟨ret_bool HK.out.symm, hb2⟩
    | false =>
      go_enter Tryz.func14, Tryz.ntmps14
      go_wp2_with fail
      refine HC.out.mono ?_
      rintro e w2 ⟨rfl, hb2⟩
      go_wp2_with fail
      go_ret
      exact ⟨ret_bool HK.out.symm, hb2⟩
end Go.Proofs.YtlldjkhlhfnfeaaGreatDoor

namespace Sch
open Go Go.Lib Adr Mtr Tre
theorem few_len {L : List Line} (h : Go.Proofs.YtlldjkhlhfnfeaaGreatDoor.fewB L = true) : L.length ≤ 60 := by
  unfold Go.Proofs.YtlldjkhlhfnfeaaGreatDoor.fewB at h
  rw [Bool.and_eq_true, decide_eq_true_eq] at h
  exact h.2
theorem lineF_mem {L : List Line} {i : Nat} {r : Rule} {P : List ByteArray} {f : Fault} (h : f ∈ lineF L i r P) : f.1 = P ∨ ∃ s ∈ needsOf P, f.1 = P ++ [s] := by
  unfold lineF at h
  rcases List.mem_append.1 h with h | h
  · rcases List.mem_append.1 h with h | h
    · left
      rcases Go.Proofs.YtlldjkhlhfnfeaaGreatDoor.oneF_cases L i r P with ⟨-, e⟩ | ⟨-, -, e⟩ | ⟨-, -, e⟩ | ⟨-, -, e⟩ <;> rw [e] at h
      · cases h
      · rw [List.mem_singleton.1 h]
      · cases h
      · rw [List.mem_singleton.1 h]
    · right
      unfold missF at h
      obtain ⟨s, hs, rfl⟩ := List.mem_map.1 h
      exact ⟨s, (List.mem_filter.1 hs).1, rfl⟩
  · left
    unfold meantF at h
    split at h
    · rw [List.mem_singleton.1 h]
    · cases h
theorem check_mem {L : List Line} {f : Fault} (h : f ∈ checkB L) : ∃ i, i < L.length ∧ (f.1 = pa L i ∨ ∃ s ∈ needsOf (pa L i), f.1 = pa L i ++ [s]) := by
  unfold checkB at h
  obtain ⟨i, hi, hf⟩ := List.mem_flatMap.1 h
  refine ⟨i, List.mem_range.1 hi, ?_⟩
  unfold faultAt at hf
  split at hf
  · split at hf
    · left; rw [List.mem_singleton.1 hf]
    · exact lineF_mem hf
  · cases hf
theorem check_short {L : List Line} (hr : rightB L = true) : ∀ f ∈ checkB L, f.1.length ≤ 1000 := by
  intro f hf
  obtain ⟨i, hi, h⟩ := check_mem hf
  have := (Go.Proofs.YtlldjkhlhfnfeaaGreatDoor.pa_short hr hi).1
  rcases h with h | ⟨s, -, h⟩
  · rw [h]; omega
  · rw [h, List.length_append, List.length_singleton]; omega
theorem check_few {L : List Line} (h : L.length ≤ 200) : (checkB L).length ≤ 10000 := by
  have := Go.Proofs.YtlldjkhlhfnfeaaGreatDoor.check_len L L.length
  rw [check_all] at this; omega
/-! Marks. -/
def zm (L : List Line) : List Line := L.map fun l => ⟨l.depth, l.word, 0⟩
theorem zm_len (L : List Line) : (zm L).length = L.length := by unfold zm; rw [List.length_map]
theorem zm_get {L : List Line} {k : Nat} (h : k < (zm L).length) (h' : k < L.length) : (zm L)[k] = ⟨L[k].depth, L[k].word, 0⟩ := List.getElem_map _
theorem zm_paths : ∀ (L : List Line) (p : List ByteArray), pathsFrom p (zm L) = pathsFrom p L
  | [], _ => rfl
  | l :: r, p => by
    show nxt p _ :: pathsFrom _ (zm r) = nxt p l :: pathsFrom (nxt p l) r
    rw [zm_paths r]; rfl
theorem zm_dep : ∀ (L : List Line) (p : List ByteArray), depFrom p L = true → depFrom p (zm L) = true
  | [], _, _ => rfl
  | l :: r, p, h => by
    have h : (soundB l && decide (l.depth ≤ (p.length : Int)) && depFrom (nxt p l) r) = true := h
    show (soundB ⟨l.depth, l.word, 0⟩ && decide (l.depth ≤ (p.length : Int)) && depFrom (nxt p l) (zm r)) = true
    rw [Bool.and_eq_true, Bool.and_eq_true] at h ⊢
    refine ⟨⟨?_, h.1.2⟩, zm_dep r _ h.2⟩
    have := h.1.1
    unfold soundB at this ⊢
    simp only [Bool.and_eq_true] at this ⊢
    exact ⟨⟨this.1.1, decide_eq_true (Int.le_refl 0)⟩, decide_eq_true (by omega)⟩
theorem zm_srt : ∀ (L : List Line) (p : List ByteArray), srtFrom p (zm L) = srtFrom p L
  | [], _ => rfl
  | l :: r, p => by
    show (srtOk p l && srtFrom (nxt p l) (zm r)) = (srtOk p l && srtFrom (nxt p l) r)
    rw [zm_srt r]
theorem zm_right {L : List Line} (h : rightB L = true) : rightB (zm L) = true := by
  obtain ⟨h1, h2, h3⟩ := right_parts h
  rw [right_steps, zm_len, decide_eq_true h1, zm_dep L _ h2, zm_srt, h3]; rfl
theorem zm_check {L : List Line} (h : rightB L = true) : checkB (zm L) = checkB L := by
  rw [check_paths (zm_right h), check_paths h]
  unfold paths
  rw [zm_paths]
end Sch
