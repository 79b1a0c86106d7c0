/- Lines in memory: a slice of api.Line reads as a list. A walk: tree.Right. Walks: tree.there, Under, End. -/
import Derived.BigQuiet
import Derived.BigGuard
import Derived.BigCall
import Derived.Lib.QuietBelow
import Derived.Deep.QuietTactic
import Derived.Test.YtjdknhalcpkeaaaGreatDoorJ01
namespace Tre
open Go
structure Line where
 depth : Int
 word : ByteArray
 mark : Int
def Line.cells (l : Line) : List Value := [.int .i64 l.depth, .string l.word, .int .i64 l.mark]
def Line.agg (l : Line) : Value := .agg #[.int .i64 l.depth, .string l.word, .int .i64 l.mark]
def lines (L : List Line) : List Value := L.flatMap Line.cells
theorem lines_length (L : List Line) : (lines L).length = L.length * 3 := by
 unfold lines
 induction L with
 | nil => rfl
 | cons e L ih => simp only [List.flatMap_cons, List.length_append, ih, List.length_cons, Line.cells]; simp; omega
theorem lines_get (L : List Line) (i j : Nat) (hi : i < L.length) (hj : j < 3) : (lines L)[i * 3 + j]? = (L[i].cells)[j]? := by
 unfold lines
 induction L generalizing i with
 | nil => cases hi
 | cons e L ih =>
   cases i with
   | zero =>
     rw [List.flatMap_cons, List.getElem?_append_left (by simp [Line.cells]; omega)]; simp
   | succ i =>
     rw [List.flatMap_cons, List.getElem?_append_right (by simp [Line.cells]; omega), show (i + 1) * 3 + j - e.cells.length = i * 3 + j by simp [Line.cells]; omega]
     simpa using ih i (by simpa using hi)
theorem lines_append (L M : List Line) : lines (L ++ M) = lines L ++ lines M := by unfold lines; simp
theorem lines_one (e : Line) : lines [e] = e.cells := by unfold lines; simp
theorem cells_one (e : Line) : ∀ u ∈ e.cells, u.oneCell' = true := by
 intro u hu
 simp only [Line.cells, List.mem_cons, List.not_mem_nil, or_false] at hu
 rcases hu with rfl | rfl | rfl <;> rfl
def soundB (l : Line) : Bool := decide (0 ≤ l.depth) && decide (l.depth < 16) && decide (l.word.size ≤ 40) && decide (0 ≤ l.mark) && decide (l.mark ≤ 3)
end Tre
namespace Go.Proofs.YtjdknhalcpkeaaaGreatDoor
open Go.RowKit Tre
theorem Rd.line {w : World} {A : Option Addr} {L : List Line} (h : Rd w 3 A L.length (lines L)) {i : Nat} (hi : i < L.length) :
 ∃ B O, A = some ⟨B, O, none⟩ ∧ B < w.heap.size ∧ (⟨B, O, none⟩ : Addr).add (i * 3) = ⟨B, O + i * 3, none⟩ ∧ w.cell? ⟨B, O + i * 3, none⟩ = some (.int .i64 L[i].depth) ∧ w.cell? ⟨B, O + i * 3 + 1, none⟩ = some (.string L[i].word) ∧ w.cell? ⟨B, O + i * 3 + 2, none⟩ = some (.int .i64 L[i].mark) := by
 obtain ⟨ad, e, hb, hx⟩ := h.2 (by omega)
 have g := fun j (hj : j < 3) => lines_get L i j hi hj
 have h0 := hx (i * 3) _ (by have := g 0 (by omega); simpa [Line.cells] using this)
 have h1 := hx (i * 3 + 1) _ (by have := g 1 (by omega); simpa [Line.cells] using this)
 have h2 := hx (i * 3 + 2) _ (by have := g 2 (by omega); simpa [Line.cells] using this)
 have hs : ad.spot = none := by
  have h00 := hx 0 _ (by have := lines_get L 0 0 (by omega) (by omega); simpa [Line.cells] using this)
  exact World.cell?_spot h00
 obtain ⟨B, O, sp⟩ := ad
 obtain rfl : sp = none := hs
 rw [add_plain] at h0 h1 h2
 exact ⟨B, O, e, hb, add_plain _ _ _, h0, h1, h2⟩
theorem line_box {w w2 : World} {T : TypeId} (e : Line) (hb : Below (w.alloc (.cells #[.int .i64 e.depth, .string e.word, .int .i64 e.mark] T)).heap.size (w.alloc (.cells #[.int .i64 e.depth, .string e.word, .int .i64 e.mark] T)) w2) :
 w2.cell? ⟨w.heap.size, 0, none⟩ = some (.int .i64 e.depth) ∧ w2.cell? ⟨w.heap.size, 1, none⟩ = some (.string e.word) ∧ w2.cell? ⟨w.heap.size, 2, none⟩ = some (.int .i64 e.mark) := by
 refine ⟨?_, ?_, ?_⟩ <;> (rw [hb.cell (by simp), World.cell?_alloc_at _ _ _ _ rfl]; rfl)
set_option maxHeartbeats 1000000 in
theorem sound_line (l : Line) (w : World) : Calls Tryz.prog 78 #[l.agg] w fun e w' => e = .returned (.bool (soundB l)) ∧ Below w.heap.size w w' := by
 unfold Line.agg
 have hb : Below w.heap.size w (w.alloc (.cells #[.int .i64 l.depth, .string l.word, .int .i64 l.mark] 52)) := (Below.refl _ _).alloc (Nat.le_refl _) _
 have HB := Lib.hid hb
 have HX : Hid (soundB l = (decide (0 ≤ l.depth) && decide (l.depth < 16) && decide (l.word.size ≤ 40) && decide (0 ≤ l.mark) && decide (l.mark ≤ 3))) := rfl
 clear hb
 go_enter Tryz.func78, Tryz.ntmps78
 have HH : Hid (∀ b : Bool, b = (decide (0 ≤ l.depth) && decide (l.depth < 16) && decide (l.word.size ≤ 40) && decide (0 ≤ l.mark) && decide (l.mark ≤ 3)) → b = soundB l) := fun b hb => hb.trans HX.out.symm
 clear HX
 go_wp2
 all_goals
  go_ret
  refine ⟨ret_bool (HH.out _ ?_), HB.out⟩
  rw [Bool.eq_iff_iff]
  simp only [Bool.and_eq_true, decide_eq_true_eq, Bool.false_eq_true, false_iff]
  omega
end Go.Proofs.YtjdknhalcpkeaaaGreatDoor
namespace Tre
open Go
def put (la : Nat → ByteArray) (d : Int) (v : ByteArray) : Nat → ByteArray := fun j => if j = d.toNat then v else la j
def leB (a b : ByteArray) : Bool := Op.bytesLess a.toList b.toList || a.toList == b.toList
def rgOk (d : Int) (la : Nat → ByteArray) (l : Line) : Bool := soundB l && decide (l.depth ≤ d + 1) && !(decide (l.depth ≤ d) && leB l.word (la l.depth.toNat))
def rightGo (d : Int) (la : Nat → ByteArray) : List Line → Bool
 | [] => true
 | l :: r => if rgOk d la l then rightGo l.depth (put la l.depth l.word) r else false
def rightB (L : List Line) : Bool := decide (L.length ≤ 200) && rightGo (-1) (fun _ => ⟨#[]⟩) L
end Tre
namespace Go.Proofs.YtjdknhalcpkeaaaGreatDoor
open Go Go.RowKit Go.Sort Tre
def Wd (g : Nat) (la : Nat → ByteArray) (W : World) : Prop := ∀ j, j < 16 → W.cell? ⟨g, j, none⟩ = some (.string (la j)) ∧ W.frozen? ⟨g, j, none⟩ = false
theorem wd_new (w : World) (T : TypeId) : Wd w.heap.size (fun _ => ⟨#[]⟩) (w.alloc (.cells (Array.replicate 16 (.string ⟨#[]⟩)) T)) := by
 intro j hj
 refine ⟨?_, by simp⟩
 rw [World.cell?_alloc_at _ _ _ _ rfl, Array.getElem?_replicate, if_pos hj]
theorem Wd.below {g : Nat} {la : Nat → ByteArray} {W W' : World} (h : Wd g la W) (hg : g < W.heap.size) (hb : Below W.heap.size W W') : Wd g la W' := fun j hj =>
 ⟨(hb.cell (p := ⟨g, j, none⟩) hg).trans (h j hj).1, (hb.frozen (p := ⟨g, j, none⟩) hg).trans (h j hj).2⟩
theorem Wd.put {g : Nat} {la : Nat → ByteArray} {W : World} (h : Wd g la W) {d : Int} {q : Nat} (hq : d.toNat = q) (hq16 : q < 16) (v : ByteArray) : Wd g (Tre.put la d v) (W.setCell ⟨g, q, none⟩ (.string v)) := fun j hj => by
 rw [World.frozen?_setCell]
 refine ⟨?_, (h j hj).2⟩
 unfold Tre.put
 rw [hq]
 by_cases e : j = q
 · subst e; rw [if_pos rfl]; exact World.cell?_setCell_same _ _ _ (h j hj).1
 · rw [if_neg e, World.cell?_setCell_other _ _ _ _ (by intro e'; simp only [Addr.mk.injEq] at e'; omega)]
   exact (h j hj).1
set_option maxHeartbeats 2000000 in
set_option maxRecDepth 100000 in
theorem right_lines (A : Option Addr) (cap : Nat) (L : List Line) (w : World) (hR : Rd w 3 A L.length (lines L)) (_hcap : L.length ≤ cap) (_hc : cap ≤ maxLen) :
 Calls Tryz.prog 44 #[.slice A L.length cap] w fun e w' => e = .returned (.bool (rightB L)) ∧ Below w.heap.size w w' := by
 unfold maxLen at _hc
 unfold rightB
 go_enter Tryz.func44, Tryz.ntmps44
 by_cases h200 : 200 < L.length
 · have hz : (200 : Int) < (L.length : Int) := by omega
   have hd : Hid (decide (L.length ≤ 200) = false) := decide_eq_false (by omega)
   go_wp2
   go_ret
   exact ⟨ret_bool (by rw [hd.out]; rfl), Below.refl _ _⟩
 · have hz : ¬ (200 : Int) < (L.length : Int) := by omega
   have hd : Hid (decide (L.length ≤ 200) = true) := decide_eq_true (by omega)
   go_wp2
   have hWd : Wd w.heap.size (fun _ => ⟨#[]⟩) (w.alloc (.cells (Array.replicate 16 (.string ⟨#[]⟩)) 121)) := wd_new w _
   have hb0 : Below w.heap.size w (w.alloc (.cells (Array.replicate 16 (.string ⟨#[]⟩)) 121)) := (Below.refl _ _).alloc (Nat.le_refl _) _
   have hl0 : w.heap.size < (w.alloc (.cells (Array.replicate 16 (.string ⟨#[]⟩)) 121)).heap.size := by simp
   change Code.wp _ _ _ _ (w.alloc (.cells (Array.replicate 16 (.string ⟨#[]⟩)) 121))
   generalize w.alloc (.cells (Array.replicate 16 (.string ⟨#[]⟩)) 121) = w0 at *
   have HW := Lib.hid hWd
   have HB := Lib.hid hb0
   have HR := Lib.hid hR
   obtain ⟨g, hg⟩ : ∃ g, w.heap.size = g := ⟨_, rfl⟩
   have HG : Hid (w.heap.size = g) := hg
   rw [hg] at HW hl0 ⊢
   clear hWd hb0 hR hg h200
   go_loopw [4, 12] (fun vd vi wr => ∃ (k : Nat) (d : Int) (la : Nat → ByteArray), k ≤ L.length ∧ vi = .int .i64 k ∧ vd = .int .i64 d ∧ -1 ≤ d ∧ d ≤ 15 ∧ g < wr.heap.size ∧ Hid (rightGo d la (L.drop k) = rightGo (-1) (fun _ => ⟨#[]⟩) L) ∧ Hid (Wd g la wr) ∧ Hid (Below w.heap.size w wr)) (fun _ vi _ => L.length - (intOf vi).toNat)
   case atStart => exact ⟨0, -1, _, Nat.zero_le _, rfl, rfl, by omega, by omega, hl0, rfl, HW, HB⟩
   case round =>
    clear HW HB hl0
    obtain ⟨k, d, la, hk, rfl, rfl, hd0, hd1, hgl, HQ, HW, HB⟩ := hrel
    by_cases hlt : k < L.length
    · obtain ⟨B, O, rfl, hab, hadd, x0, x1, x2⟩ := (HR.out.below HB.out).line hlt
      have hst : Hid (rightGo (-1) (fun _ => ⟨#[]⟩) L = if rgOk d la L[k] then rightGo L[k].depth (put la L[k].depth L[k].word) (L.drop (k + 1)) else false) := by
       show _ = _
       rw [← HQ.out, List.drop_eq_getElem_cons hlt]; rfl
      have HOK : Hid (rgOk d la L[k] = (soundB L[k] && decide (L[k].depth ≤ d + 1) && !(decide (L[k].depth ≤ d) && leB L[k].word (la L[k].depth.toNat)))) := rfl
      have hsd : Hid (soundB L[k] = true → 0 ≤ L[k].depth ∧ L[k].depth < 16) := fun h => by
       unfold soundB at h; simp only [Bool.and_eq_true, decide_eq_true_eq] at h; exact ⟨h.1.1.1.1, h.1.1.1.2⟩
      have hbb : Below wr.heap.size wr (wr.alloc (.cells #[.int .i64 L[k].depth, .string L[k].word, .int .i64 L[k].mark] 52)) := (Below.refl _ _).alloc (Nat.le_refl _) _
      have b0 : ∀ m os, (grow (redrawn (wr.alloc (.cells #[.int .i64 L[k].depth, .string L[k].word, .int .i64 L[k].mark] 52)) m) os).cell? ⟨wr.heap.size, 0, none⟩ = some (.int .i64 L[k].depth) := fun m os => cell_regrown (by rw [World.cell?_alloc_at _ _ _ _ rfl]; rfl) m os
      have b1 : ∀ m os, (grow (redrawn (wr.alloc (.cells #[.int .i64 L[k].depth, .string L[k].word, .int .i64 L[k].mark] 52)) m) os).cell? ⟨wr.heap.size, 1, none⟩ = some (.string L[k].word) := fun m os => cell_regrown (by rw [World.cell?_alloc_at _ _ _ _ rfl]; rfl) m os
      have b2 : ∀ m os, (grow (redrawn (wr.alloc (.cells #[.int .i64 L[k].depth, .string L[k].word, .int .i64 L[k].mark] 52)) m) os).cell? ⟨wr.heap.size, 2, none⟩ = some (.int .i64 L[k].mark) := fun m os => cell_regrown (by rw [World.cell?_alloc_at _ _ _ _ rfl]; rfl) m os
      have hs : ∀ m os, Calls Tryz.prog 78 #[.agg #[.int .i64 L[k].depth, .string L[k].word, .int .i64 L[k].mark]] (grow (redrawn (wr.alloc (.cells #[.int .i64 L[k].depth, .string L[k].word, .int .i64 L[k].mark] 52)) m) os) fun e w' => e = .returned (.bool (soundB L[k])) ∧ ∃ p : Regrown, w' = grow (redrawn (wr.alloc (.cells #[.int .i64 L[k].depth, .string L[k].word, .int .i64 L[k].mark] 52)) p.d) p.os := fun m os => Calls.regrown_of (sound_line L[k] _)
      have hw16 := fun q (hq : q < 16) m os => cell_regrown (((HW.out.below hgl hbb) q hq).1) m os
      have HB1 : Hid (Below w.heap.size w (wr.alloc (.cells #[.int .i64 L[k].depth, .string L[k].word, .int .i64 L[k].mark] 52))) := below_step HB.out hbb
      have HW1 := Lib.hid (HW.out.below hgl hbb)
      have hgl1 : g < (wr.alloc (.cells #[.int .i64 L[k].depth, .string L[k].word, .int .i64 L[k].mark] 52)).heap.size := by simp; omega
      have HW16 := Lib.hid hw16
      clear hbb hw16 HW HB HQ
      generalize L[k] = x at *
      go_wp2
      generalize wr.alloc (.cells #[.int .i64 x.depth, .string x.word, .int .i64 x.mark] 52) = w2 at *
      generalize wr.heap.size = bx at b0 b1 b2 ⊢
      clear x0 x1 x2 hab hadd
      by_cases hsb : soundB x = true
      · obtain ⟨xd0, xd1⟩ := hsd.out hsb
        by_cases hle : x.depth ≤ d + 1
        · by_cases hld : x.depth ≤ d
          · obtain ⟨q, hq⟩ : ∃ q, x.depth.toNat = q := ⟨_, rfl⟩
            have hq16 : q < 16 := by omega
            have hqc := HW16.out q hq16
            rw [hsb] at hs
            have HXQ : Hid (x.depth = (q : Int)) := by show _ = _; omega
            by_cases hlb : leB x.word (la q) = true
            · have HF : Hid (rightGo (-1) (fun _ => ⟨#[]⟩) L = false) := by
               show _ = _
               rw [hst.out, HOK.out, hsb, decide_eq_true hle, decide_eq_true hld, hq, hlb]; rfl
              have hlbv : (Op.bytesLess x.word.toList (la q).toList || x.word.toList == (la q).toList) = true := hlb
              obtain ⟨xd, hxd⟩ : ∃ xd, x.depth = xd := ⟨_, rfl⟩
              have hxd2 : x.depth = xd := hxd
              rw [hxd] at b0 hq xd0 xd1 hle hld hs
              have g1 : decide (d + 1 < xd) = false := decide_eq_false (by omega)
              have g2 : decide (xd ≤ d) = true := decide_eq_true hld
              have HXD := Lib.hid hxd2
              clear hxd hxd2 hlb
              refine wp_region_quiet_below (by kernel_rfl) (by kernel_rfl) ?_
              repeat (go_big_quiet_step ((go_at_call 78; exact hs _ _)))
              refine wpQuiet_nil ?_
              intro _ hw'
              obtain ⟨⟨dq, osq⟩, hw''⟩ := hw'
              subst hw''
              have hgr := below_regrown w2 dq osq
              have HW3 := Lib.hid (HW1.out.below hgl1 hgr)
              have HB3 : Hid (Below w.heap.size w (grow (redrawn w2 dq) osq)) := below_step HB1.out hgr
              have hgl3 : g < (grow (redrawn w2 dq) osq).heap.size := Nat.lt_of_lt_of_le hgl1 hgr.size
              have z0 : (grow (redrawn w2 dq) osq).cell? ⟨bx, 0, none⟩ = some (.int .i64 xd) := b0 dq osq
              have z1 : (grow (redrawn w2 dq) osq).cell? ⟨bx, 1, none⟩ = some (.string x.word) := b1 dq osq
              clear b0 b1 b2 hs HW16 HW1 HB1 hgr hgl1
              generalize grow (redrawn w2 dq) osq = w3 at *
              go_wp2
              go_ret
              exact ⟨ret_bool (by rw [hd.out, HF.out]; rfl), HB3.out⟩
            · have hlf : leB x.word (la q) = false := by simpa using hlb
              have HT : Hid (rightGo x.depth (put la x.depth x.word) (L.drop (k + 1)) = rightGo (-1) (fun _ => ⟨#[]⟩) L) := by
               show _ = _
               rw [hst.out, HOK.out, hsb, decide_eq_true hle, decide_eq_true hld, hq, hlf]; rfl
              have hlbv : (Op.bytesLess x.word.toList (la q).toList || x.word.toList == (la q).toList) = false := hlf
              obtain ⟨xd, hxd⟩ : ∃ xd, x.depth = xd := ⟨_, rfl⟩
              have hxd2 : x.depth = xd := hxd
              rw [hxd] at b0 hq xd0 xd1 hle hld hs
              have g1 : decide (d + 1 < xd) = false := decide_eq_false (by omega)
              have g2 : decide (xd ≤ d) = true := decide_eq_true hld
              have HXD := Lib.hid hxd2
              have HXE : Hid (xd = (q : Int)) := by show _ = _; omega
              clear hxd hxd2 hlb hlf
              refine wp_region_quiet_below (by kernel_rfl) (by kernel_rfl) ?_
              repeat (go_big_quiet_step ((go_at_call 78; exact hs _ _)))
              refine wpQuiet_nil ?_
              intro _ hw'
              obtain ⟨⟨dq, osq⟩, hw''⟩ := hw'
              subst hw''
              have hgr := below_regrown w2 dq osq
              have HW3 := Lib.hid (HW1.out.below hgl1 hgr)
              have HB3 : Hid (Below w.heap.size w (grow (redrawn w2 dq) osq)) := below_step HB1.out hgr
              have hgl3 : g < (grow (redrawn w2 dq) osq).heap.size := Nat.lt_of_lt_of_le hgl1 hgr.size
              have z0 : (grow (redrawn w2 dq) osq).cell? ⟨bx, 0, none⟩ = some (.int .i64 xd) := b0 dq osq
              have z1 : (grow (redrawn w2 dq) osq).cell? ⟨bx, 1, none⟩ = some (.string x.word) := b1 dq osq
              clear b0 b1 b2 hs HW16 HW1 HB1 hgr hgl1
              generalize grow (redrawn w2 dq) osq = w3 at *
              have cq := (HW3.out q hq16).1
              have fq := (HW3.out q hq16).2
              have HWP := Lib.hid (HW3.out.put (d := x.depth) (by rw [HXQ.out]; rfl) hq16 x.word)
              have HBP : Hid (Below w.heap.size w (w3.setCell ⟨g, q, none⟩ (.string x.word))) := HB3.out.setCell (by show w.heap.size ≤ g; rw [HG.out]; omega) _
              have hgp : g < (w3.setCell ⟨g, q, none⟩ (.string x.word)).heap.size := by simpa using hgl3
              clear HW3 HB3
              go_wp2
              go_roundw
              case rel => exact ⟨k + 1, x.depth, _, by omega, by go_num, by rw [HXD.out], by have := HXD.out; omega, by have := HXD.out; omega, hgp, HT, HWP, HBP⟩
              case measure => simp [intOf]; omega
          · obtain ⟨q, hq⟩ : ∃ q, x.depth.toNat = q := ⟨_, rfl⟩
            have hq16 : q < 16 := by omega
            rw [hsb] at hs
            have HXQ : Hid (x.depth = (q : Int)) := by show _ = _; omega
            have HT : Hid (rightGo x.depth (put la x.depth x.word) (L.drop (k + 1)) = rightGo (-1) (fun _ => ⟨#[]⟩) L) := by
             show _ = _
             rw [hst.out, HOK.out, hsb, decide_eq_true hle, decide_eq_false hld]; rfl
            obtain ⟨xd, hxd⟩ : ∃ xd, x.depth = xd := ⟨_, rfl⟩
            have hxd2 : x.depth = xd := hxd
            rw [hxd] at b0 hq xd0 xd1 hle hld hs
            have g1 : decide (d + 1 < xd) = false := decide_eq_false (by omega)
            have g2 : decide (xd ≤ d) = false := decide_eq_false hld
            have HXD := Lib.hid hxd2
            have HXE : Hid (xd = (q : Int)) := by show _ = _; omega
            clear hxd hxd2
            refine wp_region_quiet_below (by kernel_rfl) (by kernel_rfl) ?_
            repeat (go_big_quiet_step ((go_at_call 78; exact hs _ _)))
            refine wpQuiet_nil ?_
            intro _ hw'
            obtain ⟨⟨dq, osq⟩, hw''⟩ := hw'
            subst hw''
            have hgr := below_regrown w2 dq osq
            have HW3 := Lib.hid (HW1.out.below hgl1 hgr)
            have HB3 : Hid (Below w.heap.size w (grow (redrawn w2 dq) osq)) := below_step HB1.out hgr
            have hgl3 : g < (grow (redrawn w2 dq) osq).heap.size := Nat.lt_of_lt_of_le hgl1 hgr.size
            have z0 : (grow (redrawn w2 dq) osq).cell? ⟨bx, 0, none⟩ = some (.int .i64 xd) := b0 dq osq
            have z1 : (grow (redrawn w2 dq) osq).cell? ⟨bx, 1, none⟩ = some (.string x.word) := b1 dq osq
            clear b0 b1 b2 hs HW16 HW1 HB1 hgr hgl1
            generalize grow (redrawn w2 dq) osq = w3 at *
            have cq := (HW3.out q hq16).1
            have fq := (HW3.out q hq16).2
            have HWP := Lib.hid (HW3.out.put (d := x.depth) (by rw [HXQ.out]; rfl) hq16 x.word)
            have HBP : Hid (Below w.heap.size w (w3.setCell ⟨g, q, none⟩ (.string x.word))) := HB3.out.setCell (by show w.heap.size ≤ g; rw [HG.out]; omega) _
            have hgp : g < (w3.setCell ⟨g, q, none⟩ (.string x.word)).heap.size := by simpa using hgl3
            clear HW3 HB3
            go_wp2
            go_roundw
            case rel => exact ⟨k + 1, x.depth, _, by omega, by go_num, by rw [HXD.out], by have := HXD.out; omega, by have := HXD.out; omega, hgp, HT, HWP, HBP⟩
            case measure => simp [intOf]; omega
        · rw [hsb] at hs
          have HF : Hid (rightGo (-1) (fun _ => ⟨#[]⟩) L = false) := by
           show _ = _
           rw [hst.out, HOK.out, hsb, decide_eq_false hle]; rfl
          obtain ⟨xd, hxd⟩ : ∃ xd, x.depth = xd := ⟨_, rfl⟩
          rw [hxd] at b0 xd0 xd1 hle hs
          have g1 : decide (d + 1 < xd) = true := decide_eq_true (by omega)
          clear hxd
          refine wp_region_quiet_below (by kernel_rfl) (by kernel_rfl) ?_
          repeat (go_big_quiet_step ((go_at_call 78; exact hs _ _)))
          refine wpQuiet_nil ?_
          intro _ hw'
          obtain ⟨⟨dq, osq⟩, hw''⟩ := hw'
          subst hw''
          have hgr := below_regrown w2 dq osq
          have HW3 := Lib.hid (HW1.out.below hgl1 hgr)
          have HB3 : Hid (Below w.heap.size w (grow (redrawn w2 dq) osq)) := below_step HB1.out hgr
          have hgl3 : g < (grow (redrawn w2 dq) osq).heap.size := Nat.lt_of_lt_of_le hgl1 hgr.size
          have z0 : (grow (redrawn w2 dq) osq).cell? ⟨bx, 0, none⟩ = some (.int .i64 xd) := b0 dq osq
          have z1 : (grow (redrawn w2 dq) osq).cell? ⟨bx, 1, none⟩ = some (.string x.word) := b1 dq osq
          clear b0 b1 b2 hs HW16 HW1 HB1 hgr hgl1
          generalize grow (redrawn w2 dq) osq = w3 at *
          go_wp2
          go_ret
          exact ⟨ret_bool (by rw [hd.out, HF.out]; rfl), HB3.out⟩
      · have hsf : soundB x = false := by simpa using hsb
        rw [hsf] at hs
        have HF : Hid (rightGo (-1) (fun _ => ⟨#[]⟩) L = false) := by
         show _ = _
         rw [hst.out, HOK.out, hsf]; rfl
        refine wp_region_quiet_below (by kernel_rfl) (by kernel_rfl) ?_
        repeat (go_big_quiet_step ((go_at_call 78; exact hs _ _)))
        refine wpQuiet_nil ?_
        intro _ hw'
        obtain ⟨⟨dq, osq⟩, hw''⟩ := hw'
        subst hw''
        have hgr := below_regrown w2 dq osq
        have HW3 := Lib.hid (HW1.out.below hgl1 hgr)
        have HB3 : Hid (Below w.heap.size w (grow (redrawn w2 dq) osq)) := below_step HB1.out hgr
        have hgl3 : g < (grow (redrawn w2 dq) osq).heap.size := Nat.lt_of_lt_of_le hgl1 hgr.size
        have z0 : (grow (redrawn w2 dq) osq).cell? ⟨bx, 0, none⟩ = some (.int .i64 x.depth) := b0 dq osq
        have z1 : (grow (redrawn w2 dq) osq).cell? ⟨bx, 1, none⟩ = some (.string x.word) := b1 dq osq
        clear b0 b1 b2 hs HW16 HW1 HB1 hgr hgl1
        generalize grow (redrawn w2 dq) osq = w3 at *
        go_wp2
        go_ret
        exact ⟨ret_bool (by rw [hd.out, HF.out]; rfl), HB3.out⟩
    · obtain rfl : k = L.length := by omega
      have HF : Hid (rightGo (-1) (fun _ => ⟨#[]⟩) L = true) := by
       show _ = _
       rw [← HQ.out, List.drop_length]; rfl
      go_wp2
      go_ret
      exact ⟨ret_bool (by rw [hd.out, HF.out]; rfl), HB.out⟩
end Go.Proofs.YtjdknhalcpkeaaaGreatDoor
namespace Tre
open Go
def thereB (L : List Line) (i : Int) : Bool := decide (0 ≤ i) && decide (i < (L.length : Int)) && rightB L
def depthAt (L : List Line) (i : Nat) : Int := match L[i]? with | some l => l.depth | none => 0
theorem depthAt_lt {L : List Line} {i : Nat} (h : i < L.length) : depthAt L i = L[i].depth := by unfold depthAt; rw [List.getElem?_eq_getElem h]
def underFrom (L : List Line) (D : Int) : Nat → Int
 | 0 => -1
 | k + 1 => if D ≤ depthAt L k then underFrom L D k else (k : Int)
def underB (L : List Line) (i : Nat) : Int := underFrom L (depthAt L i) i
def endFrom (L : List Line) (D : Int) (k : Nat) : Nat := k + ((L.drop k).takeWhile fun l => decide (D < l.depth)).length
def endB (L : List Line) (i : Nat) : Nat := endFrom L (depthAt L i) (i + 1)
theorem endFrom_step {L : List Line} {D : Int} {k : Nat} (h : k < L.length) (hd : D < L[k].depth) : endFrom L D k = endFrom L D (k + 1) := by
 unfold endFrom
 rw [List.drop_eq_getElem_cons h, List.takeWhile_cons, decide_eq_true hd]
 simp; omega
theorem endFrom_stop {L : List Line} {D : Int} {k : Nat} (h : k < L.length) (hd : ¬ D < L[k].depth) : endFrom L D k = k := by
 unfold endFrom
 rw [List.drop_eq_getElem_cons h, List.takeWhile_cons, decide_eq_false hd]
 simp
theorem endFrom_end {L : List Line} {D : Int} : endFrom L D L.length = L.length := by unfold endFrom; simp
theorem endFrom_le (L : List Line) (D : Int) (k : Nat) (hk : k ≤ L.length) : k ≤ endFrom L D k ∧ endFrom L D k ≤ L.length := by
 unfold endFrom
 have h1 := (List.takeWhile_prefix (l := L.drop k) (fun l => decide (D < l.depth))).length_le
 rw [List.length_drop] at h1
 omega
theorem underFrom_lt (L : List Line) (D : Int) : ∀ k : Nat, -1 ≤ underFrom L D k ∧ underFrom L D k < (k : Int)
 | 0 => by unfold underFrom; omega
 | k + 1 => by
   unfold underFrom
   have := underFrom_lt L D k
   split <;> omega
end Tre
namespace Go.Proofs.YtjdknhalcpkeaaaGreatDoor
open Go Go.RowKit Go.Sort Tre
set_option maxHeartbeats 1000000 in
theorem there_lines (A : Option Addr) (cap : Nat) (L : List Line) (i : Int) (w : World) (hR : Rd w 3 A L.length (lines L)) (hcap : L.length ≤ cap) (hc : cap ≤ maxLen) :
 Calls Tryz.prog 89 #[.slice A L.length cap, .int .i64 i] w fun e w' => e = .returned (.bool (thereB L i)) ∧ Below w.heap.size w w' := by
 have HC := Lib.hid (right_lines A cap L w hR hcap hc)
 have HX : Hid (thereB L i = (decide (0 ≤ i) && decide (i < (L.length : Int)) && rightB L)) := rfl
 unfold maxLen at hc
 go_enter Tryz.func89, Tryz.ntmps89
 by_cases h0 : 0 ≤ i
 · by_cases h1 : i < (L.length : Int)
   · have HR : Hid (thereB L i = rightB L) := by show _ = _; rw [HX.out, decide_eq_true h0, decide_eq_true h1]; rfl
     clear HX
     go_wp2_with fail
     refine HC.out.mono ?_
     rintro e w1 ⟨rfl, hb1⟩
     generalize rightB L = r at *
     go_wp2
     all_goals
      go_ret
      exact ⟨ret_bool HR.out.symm, hb1⟩
   · have HR : Hid (thereB L i = false) := by show _ = _; rw [HX.out, decide_eq_false h1, Bool.and_false]; rfl
     clear HX HC
     go_wp2
     all_goals
      go_ret
      exact ⟨ret_bool HR.out.symm, Below.refl _ _⟩
 · have HR : Hid (thereB L i = false) := by show _ = _; rw [HX.out, decide_eq_false h0]; rfl
   clear HX HC
   go_wp2
   all_goals
    go_ret
    exact ⟨ret_bool HR.out.symm, Below.refl _ _⟩
set_option maxHeartbeats 2000000 in
set_option maxRecDepth 100000 in
theorem under_lines (A : Option Addr) (cap : Nat) (L : List Line) (i : Int) (w : World) (hR : Rd w 3 A L.length (lines L)) (hcap : L.length ≤ cap) (hc : cap ≤ maxLen) :
 Calls Tryz.prog 90 #[.slice A L.length cap, .int .i64 i] w fun e w' => e = .returned (.int .i64 (if thereB L i then underB L i.toNat else -1)) ∧ Below w.heap.size w w' := by
 have HC := Lib.hid (there_lines A cap L i w hR hcap hc)
 have HT : Hid (thereB L i = true → 0 ≤ i ∧ i < (L.length : Int)) := fun h => by
  unfold thereB at h; simp only [Bool.and_eq_true, decide_eq_true_eq] at h; exact h.1
 have HR := Lib.hid hR
 unfold maxLen at hc
 clear hR
 go_enter Tryz.func90, Tryz.ntmps90
 go_wp2_with fail
 refine HC.out.mono ?_
 rintro e w1 ⟨rfl, hb1⟩
 have HB1 := Lib.hid hb1
 have HR1 := Lib.hid (HR.out.below hb1)
 clear hb1 HR HC
 cases ht : thereB L i with
 | false =>
   have ht2 : ¬ thereB L i = true := by rw [ht]; decide
   go_wp2
   go_ret
   exact ⟨by first | rfl | simp, HB1.out⟩
 | true =>
   obtain ⟨h0, h1⟩ := HT.out (by first | rfl | exact ht)
   obtain ⟨n, rfl⟩ := Int.eq_ofNat_of_zero_le h0
   have hn : n < L.length := by omega
   clear HT h0 h1
   obtain ⟨B, O, rfl, hab, hadd, x0, x1, x2⟩ := HR1.out.line hn
   have hDn : Hid (depthAt L n = L[n].depth) := depthAt_lt hn
   obtain ⟨D, hD⟩ : ∃ D, L[n].depth = D := ⟨_, rfl⟩
   rw [hD] at x0
   have hDD : Hid (depthAt L n = D) := hDn.out.trans hD
   clear hD hDn x1 x2
   go_wp2
   go_loopw [5] (fun vk wr => ∃ (k : Nat) (z : Int), vk = .int .i64 z ∧ z + 1 = (k : Int) ∧ k ≤ n + 1 ∧ Hid (underFrom L D k = underFrom L D n) ∧ ∃ q, wr = w1.drewN q) (fun vk _ => (intOf vk + 1).toNat)
   case atStart =>
    refine ⟨n + 1, n, rfl, by omega, by omega, (show underFrom L D (n + 1) = underFrom L D n from ?_), 0, rfl⟩
    conv => lhs; unfold underFrom
    rw [hDD.out, if_pos (Int.le_refl _)]
   case round =>
    obtain ⟨k, z, rfl, hzk, hk, HQ, q, rfl⟩ := hrel
    have hU : Hid (underB L n = underFrom L D n) := by show _ = _; unfold underB; rw [hDD.out]
    by_cases hk0 : k = 0
    · have hz : z = -1 := by omega
      subst hz
      have HF : Hid (underB L n = -1) := by
       show _ = _
       rw [hU.out, ← HQ.out, hk0, underFrom]
      clear HQ hU hzk
      go_wp2_with fail
      go_quiet (fail)
      go_wp2
      go_ret
      exact ⟨ret_int (by simp [HF.out]), below_drewN HB1.out _⟩
    · obtain ⟨p, rfl⟩ : ∃ p, k = p + 1 := ⟨k - 1, by omega⟩
      obtain rfl : z = (p : Int) := by omega
      have hpl : p < L.length := by omega
      obtain ⟨B', O', hA', -, hadd', y0, -, -⟩ := HR1.out.line hpl
      injection hA' with hA'
      injection hA' with hBB hOO
      subst hBB hOO
      have hst : Hid (underFrom L D (p + 1) = if D ≤ L[p].depth then underFrom L D p else (p : Int)) := by
       show _ = _
       rw [← depthAt_lt hpl]; rfl
      generalize L[p].depth = E at *
      have hp0 : (0 : Int) ≤ (p : Int) := by omega
      by_cases hDE : D ≤ E
      · have HQ2 : Hid (underFrom L D p = underFrom L D n) := by show _ = _; rw [← HQ.out, hst.out, if_pos hDE]
        have hdd : decide (D ≤ E) = true := decide_eq_true hDE
        clear HQ hst hU
        go_wp2_with fail
        go_quiet (fail)
        go_wp2
        go_roundw
        case rel => exact ⟨p, (p : Int) - 1, rfl, by omega, by omega, HQ2, _, rfl⟩
        case measure => simp [intOf]
      · have HF : Hid (underB L n = (p : Int)) := by
         show _ = _
         rw [hU.out, ← HQ.out, hst.out, if_neg hDE]
        have hdd : decide (D ≤ E) = false := decide_eq_false hDE
        clear HQ hst hU
        go_wp2_with fail
        go_quiet (fail)
        go_wp2
        go_ret
        exact ⟨ret_int (by simp [HF.out]), below_drewN HB1.out _⟩
set_option maxHeartbeats 2000000 in
set_option maxRecDepth 100000 in
theorem end_lines (A : Option Addr) (cap : Nat) (L : List Line) (i : Int) (w : World) (hR : Rd w 3 A L.length (lines L)) (hcap : L.length ≤ cap) (hc : cap ≤ maxLen) :
 Calls Tryz.prog 59 #[.slice A L.length cap, .int .i64 i] w fun e w' => e = .returned (.int .i64 (if thereB L i then ((endB L i.toNat : Nat) : Int) else 0)) ∧ Below w.heap.size w w' := by
 have HC := Lib.hid (there_lines A cap L i w hR hcap hc)
 have HT : Hid (thereB L i = true → 0 ≤ i ∧ i < (L.length : Int)) := fun h => by
  unfold thereB at h; simp only [Bool.and_eq_true, decide_eq_true_eq] at h; exact h.1
 have HR := Lib.hid hR
 unfold maxLen at hc
 clear hR
 go_enter Tryz.func59, Tryz.ntmps59
 go_wp2_with fail
 refine HC.out.mono ?_
 rintro e w1 ⟨rfl, hb1⟩
 have HB1 := Lib.hid hb1
 have HR1 := Lib.hid (HR.out.below hb1)
 clear hb1 HR HC
 cases ht : thereB L i with
 | false =>
   have ht2 : ¬ thereB L i = true := by rw [ht]; decide
   go_wp2
   go_ret
   exact ⟨by first | rfl | simp, HB1.out⟩
 | true =>
   obtain ⟨h0, h1⟩ := HT.out (by first | rfl | exact ht)
   obtain ⟨n, rfl⟩ := Int.eq_ofNat_of_zero_le h0
   have hn : n < L.length := by omega
   clear HT h0 h1
   obtain ⟨B, O, rfl, hab, hadd, x0, x1, x2⟩ := HR1.out.line hn
   have hDn : Hid (depthAt L n = L[n].depth) := depthAt_lt hn
   obtain ⟨D, hD⟩ : ∃ D, L[n].depth = D := ⟨_, rfl⟩
   rw [hD] at x0
   have hDD : Hid (endB L n = endFrom L D (n + 1)) := by show _ = _; unfold endB; rw [hDn.out, hD]
   clear hD hDn x1 x2
   go_wp2
   go_loopw [5] (fun vk wr => ∃ k : Nat, vk = .int .i64 k ∧ n < k ∧ k ≤ L.length ∧ Hid (endFrom L D (n + 1) = endFrom L D k) ∧ ∃ q, wr = w1.drewN q) (fun vk _ => L.length - (intOf vk).toNat)
   case atStart => exact ⟨n + 1, by go_num, by omega, by omega, rfl, 0, rfl⟩
   case round =>
    obtain ⟨k, rfl, hnk, hk, HQ, q, rfl⟩ := hrel
    by_cases hlt : k < L.length
    · obtain ⟨B', O', hA', -, hadd', y0, -, -⟩ := HR1.out.line hlt
      injection hA' with hA'
      injection hA' with hBB hOO
      subst hBB hOO
      have hgo : Hid (D < L[k].depth → endFrom L D (n + 1) = endFrom L D (k + 1)) := fun hd => HQ.out.trans (endFrom_step hlt hd)
      have hno : Hid (¬ D < L[k].depth → endB L n = k) := fun hd => hDD.out.trans (HQ.out.trans (endFrom_stop hlt hd))
      generalize L[k].depth = E at *
      by_cases hDE : D < E
      · have HQ2 := Lib.hid (hgo.out hDE)
        have hdd : decide (D < E) = true := decide_eq_true hDE
        clear HQ hgo hno hDD
        go_wp2_with fail
        go_quiet (fail)
        go_wp2
        go_roundw
        case rel => exact ⟨k + 1, by go_num, by omega, by omega, HQ2, _, rfl⟩
        case measure => simp [intOf]; omega
      · have HF := Lib.hid (hno.out hDE)
        have hdd : decide (D < E) = false := decide_eq_false hDE
        clear HQ hgo hno hDD
        go_wp2_with fail
        go_quiet (fail)
        go_wp2
        go_ret
        exact ⟨ret_int (by simp [HF.out]), below_drewN HB1.out _⟩
    · obtain rfl : k = L.length := by omega
      have HF : Hid (endB L n = L.length) := hDD.out.trans (HQ.out.trans endFrom_end)
      have hdd : decide ((L.length : Int) < (L.length : Int)) = false := decide_eq_false (by omega)
      clear HQ hDD
      go_wp2_with fail
      go_quiet (fail)
      go_wp2
      go_ret
      exact ⟨ret_int (by simp [HF.out]), below_drewN HB1.out _⟩
end Go.Proofs.YtjdknhalcpkeaaaGreatDoor
