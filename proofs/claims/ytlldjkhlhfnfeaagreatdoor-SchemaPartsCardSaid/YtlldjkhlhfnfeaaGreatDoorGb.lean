/- Walks: the reference's parts; the library's Split, Cut, ReplaceAll at one byte, Join, in this seed's words. Lines in memory: a slice of api.Line reads as a list. A walk: tree.Right. Walks: tree.there, Under, End. A walk: tree.Path. Walks: tree.Path. A walk: tree.Kids. -/
import Derived.Test.YtlldjkhlhfnfeaaGreatDoorShelf
import Derived.Lib.SplitLaws
import Derived.BigQuiet
import Derived.BigGuard
import Derived.BigCall
import Derived.Lib.QuietBelow
import Derived.Deep.QuietTactic
import Derived.Test.YtlldjkhlhfnfeaaGreatDoorGa
namespace Adr
open Go
/-- How far the reference's parts has come: k bytes are seen, the part that is open begins at f. -/
def PRel (c : UInt8) (l : List UInt8) (k f : Nat) (D : List (List UInt8)) : Prop :=
  (k ≤ l.length ∧ f ≤ k ∧ parts c l = D ++ parts c (l.drop f) ∧ c ∉ (l.drop f).take (k - f)) ∨ (k = l.length + 1 ∧ D = parts c l)
theorem PRel.start (c : UInt8) (l : List UInt8) : PRel c l 0 0 [] := .inl ⟨by omega, by omega, by simp, by simp⟩
theorem PRel.form {c : UInt8} {l : List UInt8} {k f : Nat} {D : List (List UInt8)} (h : PRel c l k f D) (hk : k ≤ l.length) : f ≤ k ∧ parts c l = D ++ parts c (l.drop f) ∧ c ∉ (l.drop f).take (k - f) := by
  rcases h with ⟨_, a⟩ | ⟨e, _⟩
  · exact a
  · omega
theorem PRel.seg {c : UInt8} {l : List UInt8} {k f : Nat} {D : List (List UInt8)} (h : PRel c l k f D) (hk : k < l.length) : l.drop f = (l.drop f).take (k - f) ++ l[k] :: l.drop (k + 1) := by
  have hf := (h.form (by omega)).1
  have e := (List.take_append_drop (k - f) (l.drop f)).symm
  rw [List.drop_drop, show f + (k - f) = k by omega, List.drop_eq_getElem_cons hk] at e
  exact e
theorem PRel.hit {c : UInt8} {l : List UInt8} {k f : Nat} {D : List (List UInt8)} (h : PRel c l k f D) (hk : k < l.length) (hc : l[k] = c) : PRel c l (k + 1) (k + 1) (D ++ [(l.drop f).take (k - f)]) := by
  have hs := h.seg hk
  obtain ⟨hf, hp, hn⟩ := h.form (by omega)
  rw [hc] at hs
  refine .inl ⟨by omega, by omega, ?_, by simp⟩
  rw [hp, (congrArg (parts c) hs).trans (parts_append _ _ _ hn)]
  simp
theorem PRel.other {c : UInt8} {l : List UInt8} {k f : Nat} {D : List (List UInt8)} (h : PRel c l k f D) (hk : k < l.length) (hc : l[k] ≠ c) : PRel c l (k + 1) f D := by
  obtain ⟨hf, hp, hn⟩ := h.form (by omega)
  refine .inl ⟨by omega, by omega, hp, ?_⟩
  have e : (l.drop f).take (k + 1 - f) = (l.drop f).take (k - f) ++ [l[k]] := by
    rw [show k + 1 - f = (k - f) + 1 by omega, List.take_succ_eq_append_getElem (by simp; omega)]
    congr 2
    rw [List.getElem_drop]
    congr 1; omega
  rw [e, List.mem_append, not_or]
  exact ⟨hn, by simpa using fun x => hc x.symm⟩
theorem PRel.last {c : UInt8} {l : List UInt8} {f : Nat} {D : List (List UInt8)} (h : PRel c l l.length f D) : PRel c l (l.length + 1) (l.length + 1) (D ++ [(l.drop f).take (l.length - f)]) := by
  obtain ⟨hf, hp, hn⟩ := h.form (by omega)
  refine .inr ⟨rfl, ?_⟩
  have e : (l.drop f).take (l.length - f) = l.drop f := List.take_of_length_le (by simp)
  rw [e] at hn ⊢
  rw [hp, parts_free _ _ hn]
theorem PRel.done {c : UInt8} {l : List UInt8} {f : Nat} {D : List (List UInt8)} (h : PRel c l (l.length + 1) f D) : D = parts c l := by
  rcases h with ⟨a, _⟩ | ⟨_, e⟩
  · omega
  · exact e
theorem parts_len (c : UInt8) (l : List UInt8) : (parts c l).length ≤ l.length + 1 := by
  induction l with
  | nil => simp [parts_nil]
  | cons b r ih =>
    by_cases h : b = c
    · subst h; rw [parts_at]; simp; omega
    · rw [parts_other _ _ _ h, ahead_length _ _ (parts_ne _ _)]; simp; omega
/-- A part is no longer than the text. -/
theorem parts_short (c : UInt8) (l p : List UInt8) (h : p ∈ parts c l) : p.length ≤ l.length := by
  induction l generalizing p with
  | nil => simp [parts_nil] at h; subst h; simp
  | cons b r ih =>
    by_cases hb : b = c
    · subst hb
      rw [parts_at, List.mem_cons] at h
      rcases h with rfl | h
      · simp
      · have := ih p h; simp; omega
    · rw [parts_other _ _ _ hb] at h
      cases hp : parts c r with
      | nil => exact absurd hp (parts_ne c r)
      | cons x y =>
        rw [hp] at h ih
        simp only [ahead, List.mem_cons] at h
        rcases h with rfl | h
        · have := ih x (by simp); simp; omega
        · have := ih p (by simp [h]); simp; omega
end Adr
namespace Go.Proofs.YtlldjkhlhfnfeaaGreatDoor
open Go.RowKit

theorem info_string : (Tryz.prog.info? 9).map (fun i => (i.zero, i.size, i.bytes)) = some (some (.string ⟨#[]⟩), 1, 16) := by kernel_rfl

/-- What the reference's parts leaves: the parts' row. -/
def PartsEnd (w : World) (c : UInt8) (l : List UInt8) (e : Ending) (w' : World) : Prop :=
  ∃ A cap, e = .returned (.slice A (Adr.parts c l).length cap) ∧ (Adr.parts c l).length ≤ cap ∧ cap ≤ maxLen ∧ Rd w' 1 A (Adr.parts c l).length (strs (Adr.parts c l)) ∧ Below w.heap.size w w'

/-- The loop's relation. -/
def PartsAt (w : World) (c : UInt8) (l : List UInt8) (v f i : Value) (wr : World) : Prop :=
  ∃ (k q : Nat) (D : List (List UInt8)), k ≤ l.length + 1 ∧ q ≤ k ∧ i = .int .i64 k ∧ f = .int .i64 q ∧ D.length ≤ k ∧ wr.ownsRow w.heap.size 9 1 v D.length (strs D) ∧ Below w.heap.size w wr ∧ Hid (Adr.PRel c l k q D)

theorem own_push {w : World} {base : Nat} {v : Value} {s : ByteArray} {D : List (List UInt8)} {q k : Nat} (h : w.ownsRow base 9 1 v (D.length + 1) (strs D ++ [.string (s.extract q k)])) :
    w.ownsRow base 9 1 v (D ++ [(s.data.toList.drop q).take (k - q)]).length (strs (D ++ [(s.data.toList.drop q).take (k - q)])) := by
  rw [strs_append, strs_one, ← Lib.extract_eq, List.length_append]; exact h

end Go.Proofs.YtlldjkhlhfnfeaaGreatDoor

namespace Tre
open Go
structure Line where
  depth : Int
  word : ByteArray
  mark : Int
def Line.cells (l : Line) : List Value := [.int .i64 l.depth, .string l.word, .int .i64 l.mark]
def Line.agg (l : Line) : Value := .agg #[.int .i64 l.depth, .string l.word, .int .i64 l.mark]
def lines (L : List Line) : List Value := L.flatMap Line.cells
theorem lines_length (L : List Line) : (lines L).length = L.length * 3 := by
  unfold lines
  induction L with
  | nil => rfl
  | cons e L ih => simp only [List.flatMap_cons, List.length_append, ih, List.length_cons, Line.cells]; simp; omega
theorem lines_get (L : List Line) (i j : Nat) (hi : i < L.length) (hj : j < 3) : (lines L)[i * 3 + j]? = (L[i].cells)[j]? := by
  unfold lines
  induction L generalizing i with
  | nil => cases hi
  | cons e L ih =>
    cases i with
    | zero =>
      rw [List.flatMap_cons, List.getElem?_append_left (by simp [Line.cells]; omega)]; simp
    | succ i =>
      rw [List.flatMap_cons, List.getElem?_append_right (by simp [Line.cells]; omega), show (i + 1) * 3 + j - e.cells.length = i * 3 + j by simp [Line.cells]; omega]
      simpa using ih i (by simpa using hi)
theorem lines_append (L M : List Line) : lines (L ++ M) = lines L ++ lines M := by unfold lines; simp
theorem lines_one (e : Line) : lines [e] = e.cells := by unfold lines; simp
theorem cells_one (e : Line) : ∀ u ∈ e.cells, u.oneCell' = true := by
  intro u hu
  simp only [Line.cells, List.mem_cons, List.not_mem_nil, or_false] at hu
  rcases hu with rfl | rfl | rfl <;> rfl
/-- What a line may be. -/
def soundB (l : Line) : Bool := decide (0 ≤ l.depth) && decide (l.depth < 16) && decide (l.word.size ≤ 40) && decide (0 ≤ l.mark) && decide (l.mark ≤ 3)
end Tre
namespace Go.Proofs.YtlldjkhlhfnfeaaGreatDoor
open Go.RowKit Tre
/-- The three cells of one of them. -/
theorem Rd.line {w : World} {A : Option Addr} {L : List Line} (h : Rd w 3 A L.length (lines L)) {i : Nat} (hi : i < L.length) :
    ∃ B O, A = some ⟨B, O, none⟩ ∧ B < w.heap.size ∧ (⟨B, O, none⟩ : Addr).add (i * 3) = ⟨B, O + i * 3, none⟩ ∧ w.cell? ⟨B, O + i * 3, none⟩ = some (.int .i64 L[i].depth) ∧ w.cell? ⟨B, O + i * 3 + 1, none⟩ = some (.string L[i].word) ∧ w.cell? ⟨B, O + i * 3 + 2, none⟩ = some (.int .i64 L[i].mark) := by
  obtain ⟨ad, e, hb, hx⟩ := h.2 (by omega)
  have g := fun j (hj : j < 3) => lines_get L i j hi hj
  have h0 := hx (i * 3) _ (by have := g 0 (by omega); simpa [Line.cells] using this)
  have h1 := hx (i * 3 + 1) _ (by have := g 1 (by omega); simpa [Line.cells] using this)
  have h2 := hx (i * 3 + 2) _ (by have := g 2 (by omega); simpa [Line.cells] using this)
  have hs : ad.spot = none := by
    have h00 := hx 0 _ (by have := lines_get L 0 0 (by omega) (by omega); simpa [Line.cells] using this)
    exact World.cell?_spot h00
  obtain ⟨B, O, sp⟩ := ad
  obtain rfl : sp = none := hs
  rw [add_plain] at h0 h1 h2
  exact ⟨B, O, e, hb, add_plain _ _ _, h0, h1, h2⟩
theorem line_box {w w2 : World} {T : TypeId} (e : Line) (hb : Below (w.alloc (.cells #[.int .i64 e.depth, .string e.word, .int .i64 e.mark] T)).heap.size (w.alloc (.cells #[.int .i64 e.depth, .string e.word, .int .i64 e.mark] T)) w2) :
    w2.cell? ⟨w.heap.size, 0, none⟩ = some (.int .i64 e.depth) ∧ w2.cell? ⟨w.heap.size, 1, none⟩ = some (.string e.word) ∧ w2.cell? ⟨w.heap.size, 2, none⟩ = some (.int .i64 e.mark) := by
  refine ⟨?_, ?_, ?_⟩ <;> (rw [hb.cell (by simp), World.cell?_alloc_at _ _ _ _ rfl]; rfl)

set_option maxHeartbeats 1000000 in
theorem sound_line (l : Line) (w : World) : Calls Tryz.prog 75 #[l.agg] w fun e w' => e = .returned (.bool (soundB l)) ∧ Below w.heap.size w w' := by
  unfold Line.agg
  have hb : Below w.heap.size w (w.alloc (.cells #[.int .i64 l.depth, .string l.word, .int .i64 l.mark] 64)) := (Below.refl _ _).alloc (Nat.le_refl _) _
  have HB := Lib.hid hb
  have HX : Hid (soundB l = (decide (0 ≤ l.depth) && decide (l.depth < 16) && decide (l.word.size ≤ 40) && decide (0 ≤ l.mark) && decide (l.mark ≤ 3))) := rfl
  clear hb
  go_enter Tryz.func75, Tryz.ntmps75
  have HH : Hid (∀ b : Bool, b = (decide (0 ≤ l.depth) && decide (l.depth < 16) && decide (l.word.size ≤ 40) && decide (0 ≤ l.mark) && decide (l.mark ≤ 3)) → b = soundB l) := fun b hb => hb.trans HX.out.symm
  clear HX
  go_wp2
  all_goals
    go_ret
    refine ⟨ret_bool (HH.out _ ?_), HB.out⟩
    rw [Bool.eq_iff_iff]
    simp only [Bool.and_eq_true, decide_eq_true_eq, Bool.false_eq_true, false_iff]
    omega
end Go.Proofs.YtlldjkhlhfnfeaaGreatDoor

namespace Tre
open Go
/-- The words of each depth, with one more. -/
def put (la : Nat → ByteArray) (d : Int) (v : ByteArray) : Nat → ByteArray := fun j => if j = d.toNat then v else la j
def leB (a b : ByteArray) : Bool := Op.bytesLess a.toList b.toList || a.toList == b.toList
def rgOk (d : Int) (la : Nat → ByteArray) (l : Line) : Bool := soundB l && decide (l.depth ≤ d + 1) && !(decide (l.depth ≤ d) && leB l.word (la l.depth.toNat))
def rightGo (d : Int) (la : Nat → ByteArray) : List Line → Bool
  | [] => true
  | l :: r => if rgOk d la l then rightGo l.depth (put la l.depth l.word) r else false
def rightB (L : List Line) : Bool := decide (L.length ≤ 200) && rightGo (-1) (fun _ => ⟨#[]⟩) L
end Tre
namespace Go.Proofs.YtlldjkhlhfnfeaaGreatDoor
open Go Go.RowKit Go.Sort Tre

/-- The words' array. -/
def Wd (g : Nat) (la : Nat → ByteArray) (W : World) : Prop := ∀ j, j < 16 → W.cell? ⟨g, j, none⟩ = some (.string (la j)) ∧ W.frozen? ⟨g, j, none⟩ = false

theorem wd_new (w : World) (T : TypeId) : Wd w.heap.size (fun _ => ⟨#[]⟩) (w.alloc (.cells (Array.replicate 16 (.string ⟨#[]⟩)) T)) := by
  intro j hj
  refine ⟨?_, by simp⟩
  rw [World.cell?_alloc_at _ _ _ _ rfl, Array.getElem?_replicate, if_pos hj]
theorem Wd.below {g : Nat} {la : Nat → ByteArray} {W W' : World} (h : Wd g la W) (hg : g < W.heap.size) (hb : Below W.heap.size W W') : Wd g la W' := fun j hj =>
  ⟨(hb.cell (p := ⟨g, j, none⟩) hg).trans (h j hj).1, (hb.frozen (p := ⟨g, j, none⟩) hg).trans (h j hj).2⟩
theorem Wd.put {g : Nat} {la : Nat → ByteArray} {W : World} (h : Wd g la W) {d : Int} {q : Nat} (hq : d.toNat = q) (hq16 : q < 16) (v : ByteArray) : Wd g (Tre.put la d v) (W.setCell ⟨g, q, none⟩ (.string v)) := fun j hj => by
  rw [World.frozen?_setCell]
  refine ⟨?_, (h j hj).2⟩
  unfold Tre.put
  rw [hq]
  by_cases e : j = q
  · subst e; rw [if_pos rfl]; exact World.cell?_setCell_same _ _ _ (h j hj).1
  · rw [if_neg e, World.cell?_setCell_other _ _ _ _ (by intro e'; simp only [Addr.mk.injEq] at e'; omega)]
    exact (h j hj).1

set_option maxHeartbeats 2000000 in
set_option maxRecDepth 100000 in
theorem right_lines (A : Option Addr) (cap : Nat) (L : List Line) (w : World) (hR : Rd w 3 A L.length (lines L)) (_hcap : L.length ≤ cap) (_hc : cap ≤ maxLen) :
    Calls Tryz.prog 46 #[.slice A L.length cap] w fun e w' => e = .returned (.bool (rightB L)) ∧ Below w.heap.size w w' := by
  unfold maxLen at _hc
  unfold rightB
  go_enter Tryz.func46, Tryz.ntmps46
  by_cases h200 : 200 < L.length
  · have hz : (200 : Int) < (L.length : Int) := by omega
    have hd : Hid (decide (L.length ≤ 200) = false) := decide_eq_false (by omega)
    go_wp2
    go_ret
    exact ⟨ret_bool (by rw [hd.out]; rfl), Below.refl _ _⟩
  · have hz : ¬ (200 : Int) < (L.length : Int) := by omega
    have hd : Hid (decide (L.length ≤ 200) = true) := decide_eq_true (by omega)
    go_wp2
    have hWd : Wd w.heap.size (fun _ => ⟨#[]⟩) (w.alloc (.cells (Array.replicate 16 (.string ⟨#[]⟩)) 98)) := wd_new w _
    have hb0 : Below w.heap.size w (w.alloc (.cells (Array.replicate 16 (.string ⟨#[]⟩)) 98)) := (Below.refl _ _).alloc (Nat.le_refl _) _
    have hl0 : w.heap.size < (w.alloc (.cells (Array.replicate 16 (.string ⟨#[]⟩)) 98)).heap.size := by simp
    change Code.wp _ _ _ _ (w.alloc (.cells (Array.replicate 16 (.string ⟨#[]⟩)) 98))
    generalize w.alloc (.cells (Array.replicate 16 (.string ⟨#[]⟩)) 98) = w0 at *
    have HW := Lib.hid hWd
    have HB := Lib.hid hb0
    have HR := Lib.hid hR
    obtain ⟨g, hg⟩ : ∃ g, w.heap.size = g := ⟨_, rfl⟩
    have HG : Hid (w.heap.size = g) := hg
    rw [hg] at HW hl0 ⊢
    clear hWd hb0 hR hg h200
    go_loopw [4, 12] (fun vd vi wr => ∃ (k : Nat) (d : Int) (la : Nat → ByteArray), k ≤ L.length ∧ vi = .int .i64 k ∧ vd = .int .i64 d ∧ -1 ≤ d ∧ d ≤ 15 ∧ g < wr.heap.size ∧ Hid (rightGo d la (L.drop k) = rightGo (-1) (fun _ => ⟨#[]⟩) L) ∧ Hid (Wd g la wr) ∧ Hid (Below w.heap.size w wr)) (fun _ vi _ => L.length - (intOf vi).toNat)
    case atStart => exact ⟨0, -1, _, Nat.zero_le _, rfl, rfl, by omega, by omega, hl0, rfl, HW, HB⟩
    case round =>
      clear HW HB hl0
      obtain ⟨k, d, la, hk, rfl, rfl, hd0, hd1, hgl, HQ, HW, HB⟩ := hrel
      by_cases hlt : k < L.length
      · obtain ⟨B, O, rfl, hab, hadd, x0, x1, x2⟩ := (HR.out.below HB.out).line hlt
        have hst : Hid (rightGo (-1) (fun _ => ⟨#[]⟩) L = if rgOk d la L[k] then rightGo L[k].depth (put la L[k].depth L[k].word) (L.drop (k + 1)) else false) := by
          show _ = _
          rw [← HQ.out, List.drop_eq_getElem_cons hlt]; rfl
        have HOK : Hid (rgOk d la L[k] = (soundB L[k] && decide (L[k].depth ≤ d + 1) && !(decide (L[k].depth ≤ d) && leB L[k].word (la L[k].depth.toNat)))) := rfl
        have hsd : Hid (soundB L[k] = true → 0 ≤ L[k].depth ∧ L[k].depth < 16) := fun h => by
          unfold soundB at h; simp only [Bool.and_eq_true, decide_eq_true_eq] at h; exact ⟨h.1.1.1.1, h.1.1.1.2⟩
        have hbb : Below wr.heap.size wr (wr.alloc (.cells #[.int .i64 L[k].depth, .string L[k].word, .int .i64 L[k].mark] 64)) := (Below.refl _ _).alloc (Nat.le_refl _) _
        have b0 : ∀ m os, (grow (redrawn (wr.alloc (.cells #[.int .i64 L[k].depth, .string L[k].word, .int .i64 L[k].mark] 64)) m) os).cell? ⟨wr.heap.size, 0, none⟩ = some (.int .i64 L[k].depth) := fun m os => cell_regrown (by rw [World.cell?_alloc_at _ _ _ _ rfl]; rfl) m os
        have b1 : ∀ m os, (grow (redrawn (wr.alloc (.cells #[.int .i64 L[k].depth, .string L[k].word, .int .i64 L[k].mark] 64)) m) os).cell? ⟨wr.heap.size, 1, none⟩ = some (.string L[k].word) := fun m os => cell_regrown (by rw [World.cell?_alloc_at _ _ _ _ rfl]; rfl) m os
        have b2 : ∀ m os, (grow (redrawn (wr.alloc (.cells #[.int .i64 L[k].depth, .string L[k].word, .int .i64 L[k].mark] 64)) m) os).cell? ⟨wr.heap.size, 2, none⟩ = some (.int .i64 L[k].mark) := fun m os => cell_regrown (by rw [World.cell?_alloc_at _ _ _ _ rfl]; rfl) m os
        have hs : ∀ m os, Calls Tryz.prog 75 #[.agg #[.int .i64 L[k].depth, .string L[k].word, .int .i64 L[k].mark]] (grow (redrawn (wr.alloc (.cells #[.int .i64 L[k].depth, .string L[k].word, .int .i64 L[k].mark] 64)) m) os) fun e w' => e = .returned (.bool (soundB L[k])) ∧ ∃ p : Regrown, w' = grow (redrawn (wr.alloc (.cells #[.int .i64 L[k].depth, .string L[k].word, .int .i64 L[k].mark] 64)) p.d) p.os := fun m os => Calls.regrown_of (sound_line L[k] _)
        have hw16 := fun q (hq : q < 16) m os => cell_regrown (((HW.out.below hgl hbb) q hq).1) m os
        have HB1 : Hid (Below w.heap.size w (wr.alloc (.cells #[.int .i64 L[k].depth, .string L[k].word, .int .i64 L[k].mark] 64))) := below_step HB.out hbb
        have HW1 := Lib.hid (HW.out.below hgl hbb)
        have hgl1 : g < (wr.alloc (.cells #[.int .i64 L[k].depth, .string L[k].word, .int .i64 L[k].mark] 64)).heap.size := by simp; omega
        have HW16 := Lib.hid hw16
        clear hbb hw16 HW HB HQ
        generalize L[k] = x at *
        go_wp2
        generalize wr.alloc (.cells #[.int .i64 x.depth, .string x.word, .int .i64 x.mark] 64) = w2 at *
        generalize wr.heap.size = bx at b0 b1 b2 ⊢
        clear x0 x1 x2 hab hadd
        by_cases hsb : soundB x = true
        · obtain ⟨xd0, xd1⟩ := hsd.out hsb
          by_cases hle : x.depth ≤ d + 1
          · by_cases hld : x.depth ≤ d
            · obtain ⟨q, hq⟩ : ∃ q, x.depth.toNat = q := ⟨_, rfl⟩
              have hq16 : q < 16 := by omega
              have hqc := HW16.out q hq16
              rw [hsb] at hs
              have HXQ : Hid (x.depth = (q : Int)) := by show _ = _; omega
              by_cases hlb : leB x.word (la q) = true
              · have HF : Hid (rightGo (-1) (fun _ => ⟨#[]⟩) L = false) := by
                  show _ = _
                  rw [hst.out, HOK.out, hsb, decide_eq_true hle, decide_eq_true hld, hq, hlb]; rfl
                have hlbv : (Op.bytesLess x.word.toList (la q).toList || x.word.toList == (la q).toList) = true := hlb
                obtain ⟨xd, hxd⟩ : ∃ xd, x.depth = xd := ⟨_, rfl⟩
                have hxd2 : x.depth = xd := hxd
                rw [hxd] at b0 hq xd0 xd1 hle hld hs
                have g1 : decide (d + 1 < xd) = false := decide_eq_false (by omega)
                have g2 : decide (xd ≤ d) = true := decide_eq_true hld
                have HXD := Lib.hid hxd2
                clear hxd hxd2 hlb
                refine wp_region_quiet_below (by kernel_rfl) (by kernel_rfl) ?_
                repeat (go_big_quiet_step ((go_at_call 75; exact hs _ _)))
                refine wpQuiet_nil ?_
                intro _ hw'
                obtain ⟨⟨dq, osq⟩, hw''⟩ := hw'
                subst hw''
                have hgr := below_regrown w2 dq osq
                have HW3 := Lib.hid (HW1.out.below hgl1 hgr)
                have HB3 : Hid (Below w.heap.size w (grow (redrawn w2 dq) osq)) := below_step HB1.out hgr
                have hgl3 : g < (grow (redrawn w2 dq) osq).heap.size := Nat.lt_of_lt_of_le hgl1 hgr.size
                have z0 : (grow (redrawn w2 dq) osq).cell? ⟨bx, 0, none⟩ = some (.int .i64 xd) := b0 dq osq
                have z1 : (grow (redrawn w2 dq) osq).cell? ⟨bx, 1, none⟩ = some (.string x.word) := b1 dq osq
                clear b0 b1 b2 hs HW16 HW1 HB1 hgr hgl1
                generalize grow (redrawn w2 dq) osq = w3 at *
                go_wp2
                go_ret
                exact ⟨ret_bool (by rw [hd.out, HF.out]; rfl), HB3.out⟩
              · have hlf : leB x.word (la q) = false := by simpa using hlb
                have HT : Hid (rightGo x.depth (put la x.depth x.word) (L.drop (k + 1)) = rightGo (-1) (fun _ => ⟨#[]⟩) L) := by
                  show _ = _
                  rw [hst.out, HOK.out, hsb, decide_eq_true hle, decide_eq_true hld, hq, hlf]; rfl
                have hlbv : (Op.bytesLess x.word.toList (la q).toList || x.word.toList == (la q).toList) = false := hlf
                obtain ⟨xd, hxd⟩ : ∃ xd, x.depth = xd := ⟨_, rfl⟩
                have hxd2 : x.depth = xd := hxd
                rw [hxd] at b0 hq xd0 xd1 hle hld hs
                have g1 : decide (d + 1 < xd) = false := decide_eq_false (by omega)
                have g2 : decide (xd ≤ d) = true := decide_eq_true hld
                have HXD := Lib.hid hxd2
                have HXE : Hid (xd = (q : Int)) := by show _ = _; omega
                clear hxd hxd2 hlb hlf
                refine wp_region_quiet_below (by kernel_rfl) (by kernel_rfl) ?_
                repeat (go_big_quiet_step ((go_at_call 75; exact hs _ _)))
                refine wpQuiet_nil ?_
                intro _ hw'
                obtain ⟨⟨dq, osq⟩, hw''⟩ := hw'
                subst hw''
                have hgr := below_regrown w2 dq osq
                have HW3 := Lib.hid (HW1.out.below hgl1 hgr)
                have HB3 : Hid (Below w.heap.size w (grow (redrawn w2 dq) osq)) := below_step HB1.out hgr
                have hgl3 : g < (grow (redrawn w2 dq) osq).heap.size := Nat.lt_of_lt_of_le hgl1 hgr.size
                have z0 : (grow (redrawn w2 dq) osq).cell? ⟨bx, 0, none⟩ = some (.int .i64 xd) := b0 dq osq
                have z1 : (grow (redrawn w2 dq) osq).cell? ⟨bx, 1, none⟩ = some (.string x.word) := b1 dq osq
                clear b0 b1 b2 hs HW16 HW1 HB1 hgr hgl1
                generalize grow (redrawn w2 dq) osq = w3 at *
                have cq := (HW3.out q hq16).1
                have fq := (HW3.out q hq16).2
                have HWP := Lib.hid (HW3.out.put (d := x.depth) (by rw [HXQ.out]; rfl) hq16 x.word)
                have HBP : Hid (Below w.heap.size w (w3.setCell ⟨g, q, none⟩ (.string x.word))) := HB3.out.setCell (by show w.heap.size ≤ g; rw [HG.out]; omega) _
                have hgp : g < (w3.setCell ⟨g, q, none⟩ (.string x.word)).heap.size := by simpa using hgl3
                clear HW3 HB3
                go_wp2
                go_roundw
                case rel => exact ⟨k + 1, x.depth, _, by omega, by go_num, by rw [HXD.out], by have := HXD.out; omega, by have := HXD.out; omega, hgp, HT, HWP, HBP⟩
                case measure => simp [intOf]; omega
            · obtain ⟨q, hq⟩ : ∃ q, x.depth.toNat = q := ⟨_, rfl⟩
              have hq16 : q < 16 := by omega
              rw [hsb] at hs
              have HXQ : Hid (x.depth = (q : Int)) := by show _ = _; omega
              have HT : Hid (rightGo x.depth (put la x.depth x.word) (L.drop (k + 1)) = rightGo (-1) (fun _ => ⟨#[]⟩) L) := by
                show _ = _
                rw [hst.out, HOK.out, hsb, decide_eq_true hle, decide_eq_false hld]; rfl
              obtain ⟨xd, hxd⟩ : ∃ xd, x.depth = xd := ⟨_, rfl⟩
              have hxd2 : x.depth = xd := hxd
              rw [hxd] at b0 hq xd0 xd1 hle hld hs
              have g1 : decide (d + 1 < xd) = false := decide_eq_false (by omega)
              have g2 : decide (xd ≤ d) = false := decide_eq_false hld
              have HXD := Lib.hid hxd2
              have HXE : Hid (xd = (q : Int)) := by show _ = _; omega
              clear hxd hxd2
              refine wp_region_quiet_below (by kernel_rfl) (by kernel_rfl) ?_
              repeat (go_big_quiet_step ((go_at_call 75; exact hs _ _)))
              refine wpQuiet_nil ?_
              intro _ hw'
              obtain ⟨⟨dq, osq⟩, hw''⟩ := hw'
              subst hw''
              have hgr := below_regrown w2 dq osq
              have HW3 := Lib.hid (HW1.out.below hgl1 hgr)
              have HB3 : Hid (Below w.heap.size w (grow (redrawn w2 dq) osq)) := below_step HB1.out hgr
              have hgl3 : g < (grow (redrawn w2 dq) osq).heap.size := Nat.lt_of_lt_of_le hgl1 hgr.size
              have z0 : (grow (redrawn w2 dq) osq).cell? ⟨bx, 0, none⟩ = some (.int .i64 xd) := b0 dq osq
              have z1 : (grow (redrawn w2 dq) osq).cell? ⟨bx, 1, none⟩ = some (.string x.word) := b1 dq osq
              clear b0 b1 b2 hs HW16 HW1 HB1 hgr hgl1
              generalize grow (redrawn w2 dq) osq = w3 at *
              have cq := (HW3.out q hq16).1
              have fq := (HW3.out q hq16).2
              have HWP := Lib.hid (HW3.out.put (d := x.depth) (by rw [HXQ.out]; rfl) hq16 x.word)
              have HBP : Hid (Below w.heap.size w (w3.setCell ⟨g, q, none⟩ (.string x.word))) := HB3.out.setCell (by show w.heap.size ≤ g; rw [HG.out]; omega) _
              have hgp : g < (w3.setCell ⟨g, q, none⟩ (.string x.word)).heap.size := by simpa using hgl3
              clear HW3 HB3
              go_wp2
              go_roundw
              case rel => exact ⟨k + 1, x.depth, _, by omega, by go_num, by rw [HXD.out], by have := HXD.out; omega, by have := HXD.out; omega, hgp, HT, HWP, HBP⟩
              case measure => simp [intOf]; omega
          · rw [hsb] at hs
            have HF : Hid (rightGo (-1) (fun _ => ⟨#[]⟩) L = false) := by
              show _ = _
              rw [hst.out, HOK.out, hsb, decide_eq_false hle]; rfl
            obtain ⟨xd, hxd⟩ : ∃ xd, x.depth = xd := ⟨_, rfl⟩
            rw [hxd] at b0 xd0 xd1 hle hs
            have g1 : decide (d + 1 < xd) = true := decide_eq_true (by omega)
            clear hxd
            refine wp_region_quiet_below (by kernel_rfl) (by kernel_rfl) ?_
            repeat (go_big_quiet_step ((go_at_call 75; exact hs _ _)))
            refine wpQuiet_nil ?_
            intro _ hw'
            obtain ⟨⟨dq, osq⟩, hw''⟩ := hw'
            subst hw''
            have hgr := below_regrown w2 dq osq
            have HW3 := Lib.hid (HW1.out.below hgl1 hgr)
            have HB3 : Hid (Below w.heap.size w (grow (redrawn w2 dq) osq)) := below_step HB1.out hgr
            have hgl3 : g < (grow (redrawn w2 dq) osq).heap.size := Nat.lt_of_lt_of_le hgl1 hgr.size
            have z0 : (grow (redrawn w2 dq) osq).cell? ⟨bx, 0, none⟩ = some (.int .i64 xd) := b0 dq osq
            have z1 : (grow (redrawn w2 dq) osq).cell? ⟨bx, 1, none⟩ = some (.string x.word) := b1 dq osq
            clear b0 b1 b2 hs HW16 HW1 HB1 hgr hgl1
            generalize grow (redrawn w2 dq) osq = w3 at *
            go_wp2
            go_ret
            exact ⟨ret_bool (by rw [hd.out, HF.out]; rfl), HB3.out⟩
        · have hsf : soundB x = false := by simpa using hsb
          rw [hsf] at hs
          have HF : Hid (rightGo (-1) (fun _ => ⟨#[]⟩) L = false) := by
            show _ = _
            rw [hst.out, HOK.out, hsf]; rfl
          refine wp_region_quiet_below (by kernel_rfl) (by kernel_rfl) ?_
          repeat (go_big_quiet_step ((go_at_call 75; exact hs _ _)))
          refine wpQuiet_nil ?_
          intro _ hw'
          obtain ⟨⟨dq, osq⟩, hw''⟩ := hw'
          subst hw''
          have hgr := below_regrown w2 dq osq
          have HW3 := Lib.hid (HW1.out.below hgl1 hgr)
          have HB3 : Hid (Below w.heap.size w (grow (redrawn w2 dq) osq)) := below_step HB1.out hgr
          have hgl3 : g < (grow (redrawn w2 dq) osq).heap.size := Nat.lt_of_lt_of_le hgl1 hgr.size
          have z0 : (grow (redrawn w2 dq) osq).cell? ⟨bx, 0, none⟩ = some (.int .i64 x.depth) := b0 dq osq
          have z1 : (grow (redrawn w2 dq) osq).cell? ⟨bx, 1, none⟩ = some (.string x.word) := b1 dq osq
          clear b0 b1 b2 hs HW16 HW1 HB1 hgr hgl1
          generalize grow (redrawn w2 dq) osq = w3 at *
          go_wp2
          go_ret
          exact ⟨ret_bool (by rw [hd.out, HF.out]; rfl), HB3.out⟩
      · obtain rfl : k = L.length := by omega
        have HF : Hid (rightGo (-1) (fun _ => ⟨#[]⟩) L = true) := by
          show _ = _
          rw [← HQ.out, List.drop_length]; rfl
        go_wp2
        go_ret
        exact ⟨ret_bool (by rw [hd.out, HF.out]; rfl), HB.out⟩
end Go.Proofs.YtlldjkhlhfnfeaaGreatDoor

namespace Tre
open Go
def thereB (L : List Line) (i : Int) : Bool := decide (0 ≤ i) && decide (i < (L.length : Int)) && rightB L
def depthAt (L : List Line) (i : Nat) : Int := match L[i]? with | some l => l.depth | none => 0
theorem depthAt_lt {L : List Line} {i : Nat} (h : i < L.length) : depthAt L i = L[i].depth := by unfold depthAt; rw [List.getElem?_eq_getElem h]
/-- The last place ahead of k whose depth is lower than D; -1: there is none. -/
def underFrom (L : List Line) (D : Int) : Nat → Int
  | 0 => -1
  | k + 1 => if D ≤ depthAt L k then underFrom L D k else (k : Int)
def underB (L : List Line) (i : Nat) : Int := underFrom L (depthAt L i) i
/-- The first place from k on whose depth is not greater than D, or the end. -/
def endFrom (L : List Line) (D : Int) (k : Nat) : Nat := k + ((L.drop k).takeWhile fun l => decide (D < l.depth)).length
def endB (L : List Line) (i : Nat) : Nat := endFrom L (depthAt L i) (i + 1)
theorem endFrom_step {L : List Line} {D : Int} {k : Nat} (h : k < L.length) (hd : D < L[k].depth) : endFrom L D k = endFrom L D (k + 1) := by
  unfold endFrom
  rw [List.drop_eq_getElem_cons h, List.takeWhile_cons, decide_eq_true hd]
  simp; omega
theorem endFrom_stop {L : List Line} {D : Int} {k : Nat} (h : k < L.length) (hd : ¬ D < L[k].depth) : endFrom L D k = k := by
  unfold endFrom
  rw [List.drop_eq_getElem_cons h, List.takeWhile_cons, decide_eq_false hd]
  simp
theorem endFrom_end {L : List Line} {D : Int} : endFrom L D L.length = L.length := by unfold endFrom; simp
theorem endFrom_le (L : List Line) (D : Int) (k : Nat) (hk : k ≤ L.length) : k ≤ endFrom L D k ∧ endFrom L D k ≤ L.length := by
  unfold endFrom
  have h1 := (List.takeWhile_prefix (l := L.drop k) (fun l => decide (D < l.depth))).length_le
  rw [List.length_drop] at h1
  omega
theorem underFrom_lt (L : List Line) (D : Int) : ∀ k : Nat, -1 ≤ underFrom L D k ∧ underFrom L D k < (k : Int)
  | 0 => by unfold underFrom; omega
  | k + 1 => by
    unfold underFrom
    have := underFrom_lt L D k
    split <;> omega
end Tre
namespace Go.Proofs.YtlldjkhlhfnfeaaGreatDoor
open Go Go.RowKit Go.Sort Tre

set_option maxHeartbeats 1000000 in
theorem there_lines (A : Option Addr) (cap : Nat) (L : List Line) (i : Int) (w : World) (hR : Rd w 3 A L.length (lines L)) (hcap : L.length ≤ cap) (hc : cap ≤ maxLen) :
    Calls Tryz.prog 53 #[.slice A L.length cap, .int .i64 i] w fun e w' => e = .returned (.bool (thereB L i)) ∧ Below w.heap.size w w' := by
  have HC := Lib.hid (right_lines A cap L w hR hcap hc)
  have HX : Hid (thereB L i = (decide (0 ≤ i) && decide (i < (L.length : Int)) && rightB L)) := rfl
  unfold maxLen at hc
  go_enter Tryz.func53, Tryz.ntmps53
  by_cases h0 : 0 ≤ i
  · by_cases h1 : i < (L.length : Int)
    · have HR : Hid (thereB L i = rightB L) := by show _ = _; rw [HX.out, decide_eq_true h0, decide_eq_true h1]; rfl
      clear HX
      go_wp2_with fail
      refine HC.out.mono ?_
      rintro e w1 ⟨rfl, hb1⟩
      generalize rightB L = r at *
      go_wp2
      all_goals
        go_ret
        exact ⟨ret_bool HR.out.symm, hb1⟩
    · have HR : Hid (thereB L i = false) := by show _ = _; rw [HX.out, decide_eq_false h1, Bool.and_false]; rfl
      clear HX HC
      go_wp2
      all_goals
        go_ret
        exact ⟨ret_bool HR.out.symm, Below.refl _ _⟩
  · have HR : Hid (thereB L i = false) := by show _ = _; rw [HX.out, decide_eq_false h0]; rfl
    clear HX HC
    go_wp2
    all_goals
      go_ret
      exact ⟨ret_bool HR.out.symm, Below.refl _ _⟩

set_option maxHeartbeats 2000000 in
set_option maxRecDepth 100000 in
theorem under_lines (A : Option Addr) (cap : Nat) (L : List Line) (i : Int) (w : World) (hR : Rd w 3 A L.length (lines L)) (hcap : L.length ≤ cap) (hc : cap ≤ maxLen) :
    Calls Tryz.prog 78 #[.slice A L.length cap, .int .i64 i] w fun e w' => e = .returned (.int .i64 (if thereB L i then underB L i.toNat else -1)) ∧ Below w.heap.size w w' := by
  have HC := Lib.hid (there_lines A cap L i w hR hcap hc)
  have HT : Hid (thereB L i = true → 0 ≤ i ∧ i < (L.length : Int)) := fun h => by
    unfold thereB at h; simp only [Bool.and_eq_true, decide_eq_true_eq] at h; exact h.1
  have HR := Lib.hid hR
  unfold maxLen at hc
  clear hR
  go_enter Tryz.func78, Tryz.ntmps78
  go_wp2_with fail
  refine HC.out.mono ?_
  rintro e w1 ⟨rfl, hb1⟩
  have HB1 := Lib.hid hb1
  have HR1 := Lib.hid (HR.out.below hb1)
  clear hb1 HR HC
  cases ht : thereB L i with
  | false =>
    have ht2 : ¬ thereB L i = true := by rw [ht]; decide
    go_wp2
    go_ret
    exact ⟨by first | rfl | simp, HB1.out⟩
  | true =>
    obtain ⟨h0, h1⟩ := HT.out (by first | rfl | exact ht)
    obtain ⟨n, rfl⟩ := Int.eq_ofNat_of_zero_le h0
    have hn : n < L.length := by omega
    clear HT h0 h1
    obtain ⟨B, O, rfl, hab, hadd, x0, x1, x2⟩ := HR1.out.line hn
    have hDn : Hid (depthAt L n = L[n].depth) := depthAt_lt hn
    obtain ⟨D, hD⟩ : ∃ D, L[n].depth = D := ⟨_, rfl⟩
    rw [hD] at x0
    have hDD : Hid (depthAt L n = D) := hDn.out.trans hD
    clear hD hDn x1 x2
    go_wp2
    go_loopw [5] (fun vk wr => ∃ (k : Nat) (z : Int), vk = .int .i64 z ∧ z + 1 = (k : Int) ∧ k ≤ n + 1 ∧ Hid (underFrom L D k = underFrom L D n) ∧ ∃ q, wr = w1.drewN q) (fun vk _ => (intOf vk + 1).toNat)
    case atStart =>
      refine ⟨n + 1, n, rfl, by omega, by omega, (show underFrom L D (n + 1) = underFrom L D n from ?_), 0, rfl⟩
      conv => lhs; unfold underFrom
      rw [hDD.out, if_pos (Int.le_refl _)]
    case round =>
      obtain ⟨k, z, rfl, hzk, hk, HQ, q, rfl⟩ := hrel
      have hU : Hid (underB L n = underFrom L D n) := by show _ = _; unfold underB; rw [hDD.out]
      by_cases hk0 : k = 0
      · have hz : z = -1 := by omega
        subst hz
        have HF : Hid (underB L n = -1) := by
          show _ = _
          rw [hU.out, ← HQ.out, hk0, underFrom]
        clear HQ hU hzk
        go_wp2_with fail
        go_quiet (fail)
        go_wp2
        go_ret
        exact ⟨ret_int (by simp [HF.out]), below_drewN HB1.out _⟩
      · obtain ⟨p, rfl⟩ : ∃ p, k = p + 1 := ⟨k - 1, by omega⟩
        obtain rfl : z = (p : Int) := by omega
        have hpl : p < L.length := by omega
        obtain ⟨B', O', hA', -, hadd', y0, -, -⟩ := HR1.out.line hpl
        injection hA' with hA'
        injection hA' with hBB hOO
        subst hBB hOO
        have hst : Hid (underFrom L D (p + 1) = if D ≤ L[p].depth then underFrom L D p else (p : Int)) := by
          show _ = _
          rw [← depthAt_lt hpl]; rfl
        generalize L[p].depth = E at *
        have hp0 : (0 : Int) ≤ (p : Int) := by omega
        by_cases hDE : D ≤ E
        · have HQ2 : Hid (underFrom L D p = underFrom L D n) := by show _ = _; rw [← HQ.out, hst.out, if_pos hDE]
          have hdd : decide (D ≤ E) = true := decide_eq_true hDE
          clear HQ hst hU
          go_wp2_with fail
          go_quiet (fail)
          go_wp2
          go_roundw
          case rel => exact ⟨p, (p : Int) - 1, rfl, by omega, by omega, HQ2, _, rfl⟩
          case measure => simp [intOf]
        · have HF : Hid (underB L n = (p : Int)) := by
            show _ = _
            rw [hU.out, ← HQ.out, hst.out, if_neg hDE]
          have hdd : decide (D ≤ E) = false := decide_eq_false hDE
          clear HQ hst hU
          go_wp2_with fail
          go_quiet (fail)
          go_wp2
          go_ret
          exact ⟨ret_int (by simp [HF.out]), below_drewN HB1.out _⟩

set_option maxHeartbeats 2000000 in
set_option maxRecDepth 100000 in
theorem end_lines (A : Option Addr) (cap : Nat) (L : List Line) (i : Int) (w : World) (hR : Rd w 3 A L.length (lines L)) (hcap : L.length ≤ cap) (hc : cap ≤ maxLen) :
    Calls Tryz.prog 51 #[.slice A L.length cap, .int .i64 i] w fun e w' => e = .returned (.int .i64 (if thereB L i then ((endB L i.toNat : Nat) : Int) else 0)) ∧ Below w.heap.size w w' := by
  have HC := Lib.hid (there_lines A cap L i w hR hcap hc)
  have HT : Hid (thereB L i = true → 0 ≤ i ∧ i < (L.length : Int)) := fun h => by
    unfold thereB at h; simp only [Bool.and_eq_true, decide_eq_true_eq] at h; exact h.1
  have HR := Lib.hid hR
  unfold maxLen at hc
  clear hR
  go_enter Tryz.func51, Tryz.ntmps51
  go_wp2_with fail
  refine HC.out.mono ?_
  rintro e w1 ⟨rfl, hb1⟩
  have HB1 := Lib.hid hb1
  have HR1 := Lib.hid (HR.out.below hb1)
  clear hb1 HR HC
  cases ht : thereB L i with
  | false =>
    have ht2 : ¬ thereB L i = true := by rw [ht]; decide
    go_wp2
    go_ret
    exact ⟨by first | rfl | simp, HB1.out⟩
  | true =>
    obtain ⟨h0, h1⟩ := HT.out (by first | rfl | exact ht)
    obtain ⟨n, rfl⟩ := Int.eq_ofNat_of_zero_le h0
    have hn : n < L.length := by omega
    clear HT h0 h1
    obtain ⟨B, O, rfl, hab, hadd, x0, x1, x2⟩ := HR1.out.line hn
    have hDn : Hid (depthAt L n = L[n].depth) := depthAt_lt hn
    obtain ⟨D, hD⟩ : ∃ D, L[n].depth = D := ⟨_, rfl⟩
    rw [hD] at x0
    have hDD : Hid (endB L n = endFrom L D (n + 1)) := by show _ = _; unfold endB; rw [hDn.out, hD]
    clear hD hDn x1 x2
    go_wp2
    go_loopw [5] (fun vk wr => ∃ k : Nat, vk = .int .i64 k ∧ n < k ∧ k ≤ L.length ∧ Hid (endFrom L D (n + 1) = endFrom L D k) ∧ ∃ q, wr = w1.drewN q) (fun vk _ => L.length - (intOf vk).toNat)
    case atStart => exact ⟨n + 1, by go_num, by omega, by omega, rfl, 0, rfl⟩
    case round =>
      obtain ⟨k, rfl, hnk, hk, HQ, q, rfl⟩ := hrel
      by_cases hlt : k < L.length
      · obtain ⟨B', O', hA', -, hadd', y0, -, -⟩ := HR1.out.line hlt
        injection hA' with hA'
        injection hA' with hBB hOO
        subst hBB hOO
        have hgo : Hid (D < L[k].depth → endFrom L D (n + 1) = endFrom L D (k + 1)) := fun hd => HQ.out.trans (endFrom_step hlt hd)
        have hno : Hid (¬ D < L[k].depth → endB L n = k) := fun hd => hDD.out.trans (HQ.out.trans (endFrom_stop hlt hd))
        generalize L[k].depth = E at *
        by_cases hDE : D < E
        · have HQ2 := Lib.hid (hgo.out hDE)
          have hdd : decide (D < E) = true := decide_eq_true hDE
          clear HQ hgo hno hDD
          go_wp2_with fail
          go_quiet (fail)
          go_wp2
          go_roundw
          case rel => exact ⟨k + 1, by go_num, by omega, by omega, HQ2, _, rfl⟩
          case measure => simp [intOf]; omega
        · have HF := Lib.hid (hno.out hDE)
          have hdd : decide (D < E) = false := decide_eq_false hDE
          clear HQ hgo hno hDD
          go_wp2_with fail
          go_quiet (fail)
          go_wp2
          go_ret
          exact ⟨ret_int (by simp [HF.out]), below_drewN HB1.out _⟩
      · obtain rfl : k = L.length := by omega
        have HF : Hid (endB L n = L.length) := hDD.out.trans (HQ.out.trans endFrom_end)
        have hdd : decide ((L.length : Int) < (L.length : Int)) = false := decide_eq_false (by omega)
        clear HQ hDD
        go_wp2_with fail
        go_quiet (fail)
        go_wp2
        go_ret
        exact ⟨ret_int (by simp [HF.out]), below_drewN HB1.out _⟩
end Go.Proofs.YtlldjkhlhfnfeaaGreatDoor

namespace Tre
open Go
def wordAt (L : List Line) (i : Nat) : ByteArray := match L[i]? with | some l => l.word | none => ⟨#[]⟩
theorem wordAt_lt {L : List Line} {i : Nat} (h : i < L.length) : wordAt L i = L[i].word := by unfold wordAt; rw [List.getElem?_eq_getElem h]
/-- The words from the line ahead of k up, in that order; with fuel. -/
def upsF (L : List Line) : Nat → Nat → List ByteArray
  | 0, _ => []
  | _ + 1, 0 => []
  | f + 1, k + 1 => wordAt L k :: upsF L f (underB L k + 1).toNat
theorem underB_lt (L : List Line) (k : Nat) : -1 ≤ underB L k ∧ underB L k < (k : Int) := underFrom_lt L _ k
theorem upsF_zero (L : List Line) : ∀ f, upsF L f 0 = []
  | 0 => rfl
  | _ + 1 => rfl
theorem upsF_same (L : List Line) : ∀ f k, k ≤ f → upsF L f k = upsF L k k
  | 0, 0, _ => rfl
  | f + 1, 0, _ => rfl
  | f + 1, k + 1, h => by
    have hu := underB_lt L k
    show _ :: _ = _ :: _
    rw [upsF_same L f _ (by omega), upsF_same L k _ (by omega)]
termination_by f k => f + k
def ups (L : List Line) (k : Nat) : List ByteArray := upsF L k k
theorem ups_zero (L : List Line) : ups L 0 = [] := rfl
theorem ups_succ (L : List Line) (k : Nat) : ups L (k + 1) = wordAt L k :: ups L (underB L k + 1).toNat := by
  have hu := underB_lt L k
  show _ :: _ = _
  unfold ups
  rw [upsF_same L k _ (by omega)]
theorem ups_len (L : List Line) : ∀ k, (ups L k).length ≤ k
  | 0 => by rw [ups_zero]; simp
  | k + 1 => by
    have hu := underB_lt L k
    rw [ups_succ, List.length_cons]
    have := ups_len L (underB L k + 1).toNat
    omega
/-- The path of a line. -/
def pathB (L : List Line) (i : Nat) : List ByteArray := (ups L (i + 1)).reverse
theorem pathB_len (L : List Line) (i : Nat) : (pathB L i).length ≤ i + 1 := by unfold pathB; rw [List.length_reverse]; exact ups_len L _
theorem pathB_pos (L : List Line) (i : Nat) : 0 < (pathB L i).length := by unfold pathB; rw [ups_succ]; simp
theorem pathB_top (L : List Line) (i : Nat) (h : underB L i = -1) : pathB L i = [wordAt L i] := by unfold pathB; rw [ups_succ, h]; rfl
theorem pathB_sub (L : List Line) (i j : Nat) (h : underB L i = (j : Int)) : pathB L i = pathB L j ++ [wordAt L i] := by
  unfold pathB; rw [ups_succ, h, List.reverse_cons]; rfl
/-- Strings in memory. -/
def sv (P : List ByteArray) : List Value := P.map Value.string
theorem sv_len (P : List ByteArray) : (sv P).length = P.length := by unfold sv; simp
theorem sv_get {P : List ByteArray} {j : Nat} (h : j < P.length) : (sv P)[j]? = some (.string P[j]) := by unfold sv; simp [h]
theorem sv_app (P Q : List ByteArray) : sv (P ++ Q) = sv P ++ sv Q := by unfold sv; simp
theorem sv_one (P : List ByteArray) : ∀ u ∈ sv P, u.oneCell' = true := by
  unfold sv; intro u hu
  obtain ⟨l, _, rfl⟩ := List.mem_map.1 hu
  rfl
end Tre
namespace Go.Proofs.YtlldjkhlhfnfeaaGreatDoor
open Go Go.RowKit Go.Sort Tre

/-- A slice whose cells begin a block. -/
def Zd (A : Option Addr) : Prop := ∀ ad, A = some ad → ∃ g, ad = ⟨g, 0, none⟩
theorem zd_none : Zd none := fun _ h => by cases h
theorem zd_some (g : Nat) : Zd (some ⟨g, 0, none⟩) := fun ad h => by cases h; exact ⟨g, rfl⟩
def PathEnd (w : World) (P : List ByteArray) (e : Ending) (w' : World) : Prop :=
  ∃ A c, e = .returned (.tuple #[.slice A P.length c, .int .i64 0]) ∧ P.length ≤ c ∧ c ≤ maxLen ∧ Rd w' 1 A P.length (sv P) ∧ Zd A ∧ Below w.heap.size w w'

theorem own_push_str {w : World} {base : Nat} {T : TypeId} {v : Value} {l : List ByteArray} {k : ByteArray} (h : w.ownsRow base T 1 v (l.length + 1) (sv l ++ [.string k])) : w.ownsRow base T 1 v (l ++ [k]).length (sv (l ++ [k])) := by
  unfold sv at *; simpa using h
theorem Rd.strAt {w : World} {A : Option Addr} {P : List ByteArray} (h : Rd w 1 A P.length (sv P)) {i : Nat} (hi : i < P.length) :
    ∃ B O, A = some ⟨B, O, none⟩ ∧ B < w.heap.size ∧ (⟨B, O, none⟩ : Addr).add i = ⟨B, O + i, none⟩ ∧ w.cell? ⟨B, O + i, none⟩ = some (.string P[i]) := by
  obtain ⟨ad, e, hb, hx⟩ := h.2 (by omega)
  have h0 := hx i _ (sv_get hi)
  have hs : ad.spot = none := by
    have h00 := hx 0 _ (sv_get (by omega : 0 < P.length))
    exact World.cell?_spot h00
  obtain ⟨B, O, sp⟩ := ad
  obtain rfl : sp = none := hs
  rw [add_plain] at h0
  exact ⟨B, O, e, hb, add_plain _ _ _, h0⟩
theorem strsOf_list (l : List ByteArray) : ((Lib.strsOf (fun i => l.getD i ByteArray.empty) l.length).reverse.map encStr) = sv l.reverse := by
  have : Lib.strsOf (fun i => l.getD i ByteArray.empty) l.length = l.map (·.data.toList) := by
    unfold Lib.strsOf
    refine List.ext_getElem (by simp) fun i h1 h2 => ?_
    have hi : i < l.length := by simpa using h2
    simp [hi]
  rw [this, ← List.map_reverse, List.map_map]
  unfold sv
  refine List.map_congr_left fun s _ => ?_
  show Value.string ⟨s.data.toList.toArray⟩ = _
  rw [mk_data]

theorem below_cells {B : Nat} {a : World} (b : Nat) (hb : B ≤ b) : ∀ (vs : List Value) (o : Nat) {w : World}, Below B a w → Below B a (w.setCells b o vs)
  | [], _, _, h => h
  | v :: r, o, _, h => below_cells b hb r (o + 1) (h.setCell (p := ⟨b, o, none⟩) hb v)

/-- slices.Reverse of a row of the call's own. -/
theorem reverse_own {w w1 : World} {v : Value} {l : List ByteArray} (hown : w1.ownsRow w.heap.size 9 1 v l.length (sv l)) (hb : Below w.heap.size w w1) (hl : l.length ≤ 100000) :
    Calls Tryz.prog 79 #[v] w1 fun e w' => e = .returned (.tuple #[]) ∧ ∃ A c, v = .slice A l.length c ∧ l.length ≤ c ∧ c ≤ maxLen ∧ Rd w' 1 A l.length (sv l.reverse) ∧ Zd A ∧ Below w.heap.size w w' := by
  rcases hown.2 with ⟨rfl, h0⟩ | ⟨g, c, cur, rfl, hg, hh, hnc, hcm, hsz, ht⟩
  · obtain rfl : l = [] := List.length_eq_zero_iff.1 h0
    refine (Tryz.slices_Reverse_string_empty none 0 w1).mono ?_
    rintro e w' ⟨rfl, rfl⟩
    exact ⟨rfl, none, 0, rfl, Nat.le_refl _, by unfold maxLen; omega, Rd.nil, zd_none, hb⟩
  · refine (Tryz.slices_Reverse_string_cells g 0 l.length c (fun i => l.getD i ByteArray.empty) w1 (by omega) (fun i hi => ?_) (fun j hj => hown.frozenAt _)).mono ?_
    · rw [Nat.zero_add, hown.cellAt i (by omega), sv_get hi]; simp [hi]
    · rintro e w' ⟨rfl, q, rfl⟩
      rw [strsOf_list]
      have hlt := (hown.lt g rfl).2
      have hb2 : Below w.heap.size w ((w1.drewN q).setCells g 0 (sv l.reverse)) := below_cells g hg _ _ (below_drewN hb q)
      refine ⟨rfl, _, c, rfl, hnc, hcm, ⟨by rw [sv_len]; simp, fun hn => ⟨_, rfl, ?_, fun j u hu => ?_⟩⟩, zd_some g, hb2⟩
      · exact Nat.lt_of_lt_of_le hlt (below_cells (B := 0) (a := w1) g (Nat.zero_le _) (sv l.reverse) 0 (w := w1.drewN q) (below_drewN ((Below.refl _ _)) q)).size
      · have hj : j < l.length := by have := (List.getElem?_eq_some_iff.1 hu).1; rw [sv_len] at this; simpa using this
        rw [add_plain]
        have := World.cell?_setCells_in g (sv l.reverse) 0 (w1.drewN q) (fun i hi => by
          have hi' : i < l.length := by rw [sv_len] at hi; simpa using hi
          show (w1.cell? _).isSome = true
          rw [Nat.zero_add, hown.cellAt i (by omega), sv_get hi']; rfl) j (by rw [sv_len]; simpa using hj)
        rw [this, ← hu]
        exact (List.getElem?_eq_getElem _).symm
end Go.Proofs.YtlldjkhlhfnfeaaGreatDoor

namespace Go.Proofs.YtlldjkhlhfnfeaaGreatDoor
open Go Go.RowKit Go.Sort Tre

theorem thereB_lt {L : List Line} {n : Nat} (h : rightB L = true) (hn : n < L.length) : thereB L (n : Int) = true := by
  unfold thereB; rw [h, decide_eq_true (by omega), decide_eq_true (by omega)]; rfl
theorem right_len {L : List Line} (h : rightB L = true) : L.length ≤ 200 := by
  unfold rightB at h; simp only [Bool.and_eq_true, decide_eq_true_eq] at h; exact h.1

set_option maxHeartbeats 2000000 in
set_option maxRecDepth 100000 in
theorem path_lines (A : Option Addr) (cap : Nat) (L : List Line) (n : Nat) (w : World) (hR : Rd w 3 A L.length (lines L)) (hcap : L.length ≤ cap) (hc : cap ≤ maxLen) (hr : rightB L = true) (hn : n < L.length) :
    Calls Tryz.prog 48 #[.slice A L.length cap, .int .i64 n] w (PathEnd w (pathB L n)) := by
  obtain ⟨i0, hi, hz0, hz1, hz2⟩ := info_parts info_string
  have HC := Lib.hid (there_lines A cap L n w hR hcap hc)
  have HU : Hid (∀ (k : Nat) W, Below w.heap.size w W → k < L.length → Calls Tryz.prog 78 #[.slice A L.length cap, .int .i64 k] W fun e w' => e = .returned (.int .i64 (underB L k)) ∧ Below W.heap.size W w') := fun k W hb hk => by
    have := under_lines A cap L k W (hR.below hb) hcap hc
    rw [thereB_lt hr hk] at this; simpa using this
  have hth := thereB_lt hr hn
  have h200 := right_len hr
  have HR := Lib.hid hR
  unfold maxLen at hc
  clear hR hr
  go_enter Tryz.func48, Tryz.ntmps48
  go_wp2_with fail
  refine HC.out.mono ?_
  rintro e w1 ⟨rfl, hb1⟩
  clear HC
  rw [hth]
  go_wp2
  go_loopw [6, 7] (fun v vk wr => ∃ (k : Nat) (z : Int) (O : List ByteArray), vk = .int .i64 z ∧ z + 1 = (k : Int) ∧ k ≤ n + 1 ∧ Hid (O ++ ups L k = ups L (n + 1)) ∧ O.length + k ≤ n + 1 ∧ wr.ownsRow w.heap.size 9 1 v O.length (sv O) ∧ Below w.heap.size w wr) (fun _ vk _ => (intOf vk + 1).toNat)
  case atStart => exact ⟨n + 1, n, [], rfl, by omega, by omega, rfl, by simp, World.ownsRow_nil _ _ _ _, hb1⟩
  case round =>
    clear hb1
    obtain ⟨k, z, O, rfl, hzk, hk, HQ, hO, hown, hb⟩ := hrel
    by_cases hk0 : k = 0
    · have hz : z = -1 := by omega
      subst hz
      have HF : Hid (O = ups L (n + 1)) := by
        show _ = _
        rw [← HQ.out, hk0, ups_zero, List.append_nil]
      have HV := Lib.hid (reverse_own hown hb (by omega))
      have HL : Hid (O.reverse = pathB L n) := by show _ = _; rw [HF.out]; rfl
      clear HQ hzk HU HR HF
      go_wp2_with fail
      refine HV.out.mono ?_
      rintro e w3 ⟨rfl, A', c, rfl, hlc, hcm, hRd, hzd, hb3⟩
      have K : Hid (PathEnd w (pathB L n) (.returned (.tuple #[.slice A' O.length c, .int .i64 0])) w3) := by
        rw [← HL.out]
        exact ⟨A', c, by rw [List.length_reverse], by rw [List.length_reverse]; exact hlc, hcm, by rw [List.length_reverse]; exact hRd, hzd, hb3⟩
      clear HV hown hb hlc hcm hRd hzd hb3 HL
      go_wp2
      exact bodyPost_ret (v := .tuple #[.slice A' O.length c, .int .i64 0]) (by simp [results, Tryz.results48, go_sem]) rfl K.out
    · obtain ⟨p, rfl⟩ : ∃ p, k = p + 1 := ⟨k - 1, by omega⟩
      obtain rfl : z = (p : Int) := by omega
      have hpl : p < L.length := by omega
      obtain ⟨B, Of, rfl, hab, hadd, -, x1, -⟩ := (HR.out.below hb).line hpl
      have hst : Hid (ups L (p + 1) = L[p].word :: ups L (underB L p + 1).toNat) := by
        show _ = _
        rw [ups_succ, wordAt_lt hpl]
      have hul := underB_lt L p
      have HUp := Lib.hid (fun W hb => HU.out p W hb hpl)
      generalize L[p].word = x at *
      generalize underB L p = u at *
      have HQ2 : Hid ((O ++ [x]) ++ ups L (u + 1).toNat = ups L (n + 1)) := by
        show _ = _
        rw [List.append_assoc, ← HQ.out, hst.out]; rfl
      clear HQ hst HU
      go_wp2_with (at_builtin; refine app_new rfl _ _ 26 rfl w wr 9 i0 _ 1 16 Tryz.underlying26 hi hz0 hz1 hz2 rfl (by decide) (by decide) hown hb rfl 1 1 [.string x] rfl rfl (by simp; rfl) (by omega) ?_; intro v' w' hown' hb')
      refine (HUp.out _ hb').mono ?_
      rintro e w3 ⟨rfl, hb3⟩
      have hown3 := own_below (own_push_str hown') hb3
      have hb4 := below_step hb' hb3
      clear hown hb hown' hb' hb3 HUp x1 hadd hab
      go_wp2_with fail
      go_roundw
      case rel => exact ⟨(u + 1).toNat, u, O ++ [x], rfl, by omega, by omega, HQ2, by simp; omega, hown3, hb4⟩
      case measure => simp [intOf]; omega
end Go.Proofs.YtlldjkhlhfnfeaaGreatDoor

namespace Tre
open Go
/-- The places from a on, up to E, of the depth D. -/
def kidsTo (L : List Line) (D : Int) (a k : Nat) : List Nat := (List.range k).filter fun i => decide (a ≤ i) && decide (depthAt L i = D)
theorem kidsTo_low (L : List Line) (D : Int) (a : Nat) : kidsTo L D a a = [] := by
  unfold kidsTo
  rw [List.filter_eq_nil_iff]
  intro i hi
  have : i < a := by simpa using hi
  simp; omega
theorem kidsTo_succ (L : List Line) (D : Int) (a k : Nat) (h : a ≤ k) : kidsTo L D a (k + 1) = if depthAt L k = D then kidsTo L D a k ++ [k] else kidsTo L D a k := by
  unfold kidsTo
  rw [List.range_succ, List.filter_append]
  by_cases hk : depthAt L k = D
  · rw [if_pos hk]; congr 1; simp [hk, h]
  · rw [if_neg hk]; simp [hk]
theorem kidsTo_len (L : List Line) (D : Int) (a k : Nat) : (kidsTo L D a k).length ≤ k := by
  unfold kidsTo; exact Nat.le_trans (List.length_filter_le _ _) (by simp)
theorem mem_kidsTo {L : List Line} {D : Int} {a k i : Nat} : i ∈ kidsTo L D a k ↔ i < k ∧ a ≤ i ∧ depthAt L i = D := by
  unfold kidsTo; simp [List.mem_filter]
def kidsTop (L : List Line) : List Nat := kidsTo L 0 0 L.length
def kidsB (L : List Line) (i : Nat) : List Nat := kidsTo L (depthAt L i + 1) (i + 1) (endB L i)
/-- Places in memory. -/
def iv (l : List Nat) : List Value := l.map fun k : Nat => Value.int .i64 (k : Int)
theorem iv_len (P : List Nat) : (iv P).length = P.length := by unfold iv; simp
theorem iv_get {P : List Nat} {j : Nat} (h : j < P.length) : (iv P)[j]? = some (.int .i64 (P[j] : Int)) := by unfold iv; simp [h]
theorem endB_le (L : List Line) (i : Nat) (hi : i < L.length) : i + 1 ≤ endB L i ∧ endB L i ≤ L.length := endFrom_le L _ _ (by omega)
end Tre
namespace Go.Proofs.YtlldjkhlhfnfeaaGreatDoor
open Go Go.RowKit Go.Sort Tre

def KidsEnd (w : World) (P : List Nat) (e : Ending) (w' : World) : Prop :=
  ∃ A c, e = .returned (.slice A P.length c) ∧ P.length ≤ c ∧ c ≤ maxLen ∧ Rd w' 1 A P.length (iv P) ∧ Below w.heap.size w w'
theorem info_i64 : (Tryz.prog.info? 3).map (fun i => (i.zero, i.size, i.bytes)) = some (some (.int .i64 0), 1, 8) := by kernel_rfl
theorem own_push_iv {w : World} {base : Nat} {T : TypeId} {v : Value} {l : List Nat} {k : Nat} (h : w.ownsRow base T 1 v (l.length + 1) (iv l ++ [.int .i64 (k : Int)])) : w.ownsRow base T 1 v (l ++ [k]).length (iv (l ++ [k])) := by
  unfold iv at *; simpa using h
theorem Rd.intAt {w : World} {A : Option Addr} {P : List Nat} (h : Rd w 1 A P.length (iv P)) {i : Nat} (hi : i < P.length) :
    ∃ B O, A = some ⟨B, O, none⟩ ∧ B < w.heap.size ∧ (⟨B, O, none⟩ : Addr).add i = ⟨B, O + i, none⟩ ∧ w.cell? ⟨B, O + i, none⟩ = some (.int .i64 (P[i] : Int)) := by
  obtain ⟨ad, e, hb, hx⟩ := h.2 (by omega)
  have h0 := hx i _ (iv_get hi)
  have hs : ad.spot = none := by
    have h00 := hx 0 _ (iv_get (by omega : 0 < P.length))
    exact World.cell?_spot h00
  obtain ⟨B, O, sp⟩ := ad
  obtain rfl : sp = none := hs
  rw [add_plain] at h0
  exact ⟨B, O, e, hb, add_plain _ _ _, h0⟩

theorem go_sound {d : Int} {la : Nat → ByteArray} : ∀ {L : List Line}, rightGo d la L = true → ∀ l ∈ L, soundB l = true
  | [], _, _, h => by cases h
  | x :: r, hg, l, hl => by
    unfold rightGo at hg
    split at hg
    · rename_i hok
      rcases List.mem_cons.1 hl with rfl | hl
      · unfold rgOk at hok; simp only [Bool.and_eq_true] at hok; exact hok.1.1
      · exact go_sound hg l hl
    · cases hg
theorem right_sound {L : List Line} (h : rightB L = true) : ∀ l ∈ L, soundB l = true := by
  unfold rightB at h; simp only [Bool.and_eq_true] at h; exact go_sound h.2
theorem right_depth {L : List Line} (h : rightB L = true) {n : Nat} (hn : n < L.length) : 0 ≤ L[n].depth ∧ L[n].depth < 16 := by
  have := right_sound h _ (List.getElem_mem hn)
  unfold soundB at this; simp only [Bool.and_eq_true, decide_eq_true_eq] at this
  exact ⟨this.1.1.1.1, this.1.1.1.2⟩

set_option maxHeartbeats 2000000 in
set_option maxRecDepth 100000 in
theorem kids_top (A : Option Addr) (cap : Nat) (L : List Line) (w : World) (hR : Rd w 3 A L.length (lines L)) (hcap : L.length ≤ cap) (hc : cap ≤ maxLen) (hr : rightB L = true) :
    Calls Tryz.prog 23 #[.slice A L.length cap, .int .i64 (-1)] w (KidsEnd w (kidsTop L)) := by
  obtain ⟨i0, hi, hz0, hz1, hz2⟩ := info_parts info_i64
  have HC := Lib.hid (right_lines A cap L w hR hcap hc)
  have h200 := right_len hr
  have HR := Lib.hid hR
  have hRt : Hid (rightB L = true) := hr
  unfold maxLen at hc
  clear hR hr
  unfold kidsTop
  go_enter Tryz.func23, Tryz.ntmps23
  go_wp2_with fail
  refine HC.out.mono ?_
  rintro e w1 ⟨rfl, hb1⟩
  clear HC
  rw [hRt.out]
  have hng : decide ((L.length : Int) ≤ -1) = false := decide_eq_false (by omega)
  go_wp2
  rw [show kidsTo L 0 0 L.length = kidsTo L (0 : Int) 0 L.length from rfl]
  go_loopw [8, 9] (fun v vk wr => ∃ k : Nat, vk = .int .i64 k ∧ 0 ≤ k ∧ k ≤ L.length ∧ wr.ownsRow w.heap.size 3 1 v (kidsTo L 0 0 k).length (iv (kidsTo L 0 0 k)) ∧ Below w.heap.size w wr) (fun _ vk _ => L.length - (intOf vk).toNat)
  case atStart => exact ⟨0, by go_num, by omega, by omega, by rw [kidsTo_low]; exact World.ownsRow_nil _ _ _ _, hb1⟩
  case round =>
    clear hb1
    obtain ⟨k, rfl, hak, hk, hown, hb⟩ := hrel
    by_cases hlt : k < L.length
    · have hpl : k < L.length := by omega
      obtain ⟨B', Of', rfl, hab', hadd', y0, -, -⟩ := (HR.out.below hb).line hpl
      have hst : Hid (kidsTo L 0 0 (k + 1) = if L[k].depth = 0 then kidsTo L 0 0 k ++ [k] else kidsTo L 0 0 k) := by
        show _ = _
        rw [kidsTo_succ _ _ _ _ hak, depthAt_lt hpl]
      have hlen := kidsTo_len L 0 0 k
      generalize L[k].depth = x at *
      by_cases hxD : x = 0
      · have HT : Hid (kidsTo L 0 0 (k + 1) = kidsTo L 0 0 k ++ [k]) := by show _ = _; rw [hst.out, if_pos hxD]
        have hxb : (x == 0) = true := by rw [beq_iff_eq]; exact hxD
        clear hst hxD
        generalize kidsTo L 0 0 k = sp at *
        go_wp2_with (at_builtin; refine app_new rfl _ _ 39 rfl w wr 3 i0 _ 1 8 Tryz.underlying39 hi hz0 hz1 hz2 rfl (by decide) (by decide) hown hb rfl 1 1 [.int .i64 (k : Int)] rfl rfl (by simp; rfl) (by omega) ?_; intro v' w' hown' hb')
        go_roundw
        case rel =>
          refine ⟨k + 1, by go_num, by omega, by omega, ?_⟩
          rw [HT.out]
          first | exact ⟨own_push_iv hown', hb'⟩ | exact own_push_iv hown'
        case measure => simp [intOf]; omega
      · have HT : Hid (kidsTo L 0 0 (k + 1) = kidsTo L 0 0 k) := by show _ = _; rw [hst.out, if_neg hxD]
        have hxb : (x == 0) = false := by rw [beq_eq_false_iff_ne]; exact hxD
        clear hst
        go_wp2_with fail
        go_roundw
        case rel => exact ⟨k + 1, by go_num, by omega, by omega, by rw [HT.out]; exact hown, hb⟩
        case measure => simp [intOf]; omega
    · obtain hkE : k = L.length := by omega
      subst hkE
      have hlen := kidsTo_len L 0 0 (L.length)
      obtain ⟨A', c, rfl, hc1, hc2, hRd⟩ := rd_own hown
      have K : Hid (KidsEnd w (kidsTo L 0 0 (L.length)) (.returned (.slice A' (kidsTo L 0 0 (L.length)).length c)) wr) := ⟨A', c, rfl, hc1, hc2, hRd, hb⟩
      clear hown hRd hb
      go_wp2
      go_ret
      exact K.out


set_option maxHeartbeats 2000000 in
set_option maxRecDepth 100000 in
theorem kids_line (A : Option Addr) (cap : Nat) (L : List Line) (n : Nat) (w : World) (hR : Rd w 3 A L.length (lines L)) (hcap : L.length ≤ cap) (hc : cap ≤ maxLen) (hr : rightB L = true) (hn : n < L.length) :
    Calls Tryz.prog 23 #[.slice A L.length cap, .int .i64 n] w (KidsEnd w (kidsB L n)) := by
  obtain ⟨i0, hi, hz0, hz1, hz2⟩ := info_parts info_i64
  have HC := Lib.hid (right_lines A cap L w hR hcap hc)
  have h200 := right_len hr
  have HR := Lib.hid hR
  have hEnd : Hid (∀ W, Below w.heap.size w W → Calls Tryz.prog 51 #[.slice A L.length cap, .int .i64 n] W fun e w' => e = .returned (.int .i64 (endB L n : Nat)) ∧ Below W.heap.size W w') := fun W hb => by
    have := end_lines A cap L n W (hR.below hb) hcap hc
    rw [thereB_lt hr hn] at this; simpa using this
  have hRt : Hid (rightB L = true) := hr
  have hel := endB_le L n hn
  unfold maxLen at hc
  have hdb := right_depth hr hn
  have hkb : kidsB L n = kidsTo L (L[n].depth + 1) (n + 1) (endB L n) := by unfold kidsB; rw [depthAt_lt hn]
  rw [hkb]
  obtain ⟨d, hd⟩ : ∃ d, L[n].depth = d := ⟨_, rfl⟩
  obtain ⟨E, hE⟩ : ∃ E, endB L n = E := ⟨_, rfl⟩
  rw [hd] at hdb ⊢
  rw [hE] at hEnd hel ⊢
  have HD := Lib.hid hd
  clear hR hr hkb hd hE
  go_enter Tryz.func23, Tryz.ntmps23
  go_wp2_with fail
  refine HC.out.mono ?_
  rintro e w1 ⟨rfl, hb1⟩
  clear HC
  rw [hRt.out]
  have hng : decide ((L.length : Int) ≤ (n : Int)) = false := decide_eq_false (by omega)
  obtain ⟨B, O, rfl, hab, hadd, x0, -, -⟩ := (HR.out.below hb1).line hn
  have hs : ∀ m os, Calls Tryz.prog 51 #[.slice (some ⟨B, O, none⟩) L.length cap, .int .i64 n] (grow (redrawn w1 m) os) fun e w' => e = .returned (.int .i64 (E : Nat)) ∧ ∃ p : Regrown, w' = grow (redrawn w1 p.d) p.os := fun m os => Calls.regrown_of (hEnd.out _ (below_step hb1 (below_regrown w1 m os)))
  rw [HD.out] at x0
  have b0 : ∀ m os, (grow (redrawn w1 m) os).cell? ⟨B, O + n * 3, none⟩ = some (.int .i64 d) := fun m os => cell_regrown x0 m os
  have HB1 := Lib.hid hb1
  clear hEnd x0 hb1
  go_wp2
  refine wp_region_quiet_below (by kernel_rfl) (by kernel_rfl) ?_
  repeat (go_big_quiet_step ((go_at_call 51; exact hs _ _)))
  refine wpQuiet_nil ?_
  intro _ hw'
  obtain ⟨⟨dq, osq⟩, hw''⟩ := hw'
  subst hw''
  have hb1 : Below w.heap.size w (grow (redrawn w1 dq) osq) := below_step HB1.out (below_regrown w1 dq osq)
  clear HB1 b0 hs
  generalize grow (redrawn w1 dq) osq = w3 at *
  go_wp2
  have hel2 : n + 1 ≤ E ∧ E ≤ L.length := by omega
  go_loopw [8, 9] (fun v vk wr => ∃ k : Nat, vk = .int .i64 k ∧ (n + 1) ≤ k ∧ k ≤ E ∧ wr.ownsRow w.heap.size 3 1 v (kidsTo L (d + 1) (n + 1) k).length (iv (kidsTo L (d + 1) (n + 1) k)) ∧ Below w.heap.size w wr) (fun _ vk _ => E - (intOf vk).toNat)
  case atStart => exact ⟨(n + 1), by go_num, by omega, by omega, by rw [kidsTo_low]; exact World.ownsRow_nil _ _ _ _, hb1⟩
  case round =>
    clear hb1
    obtain ⟨k, rfl, hak, hk, hown, hb⟩ := hrel
    by_cases hlt : k < E
    · have hpl : k < L.length := by omega
      obtain ⟨B', Of', hA', hab', hadd', y0, -, -⟩ := (HR.out.below hb).line hpl
      injection hA' with hA'
      injection hA' with hBB hOO
      subst hBB hOO
      have hst : Hid (kidsTo L (d + 1) (n + 1) (k + 1) = if L[k].depth = (d + 1) then kidsTo L (d + 1) (n + 1) k ++ [k] else kidsTo L (d + 1) (n + 1) k) := by
        show _ = _
        rw [kidsTo_succ _ _ _ _ hak, depthAt_lt hpl]
      have hlen := kidsTo_len L (d + 1) (n + 1) k
      generalize L[k].depth = x at *
      by_cases hxD : x = (d + 1)
      · have HT : Hid (kidsTo L (d + 1) (n + 1) (k + 1) = kidsTo L (d + 1) (n + 1) k ++ [k]) := by show _ = _; rw [hst.out, if_pos hxD]
        have hxb : (x == (d + 1)) = true := by rw [beq_iff_eq]; exact hxD
        clear hst hxD
        generalize kidsTo L (d + 1) (n + 1) k = sp at *
        go_wp2_with (at_builtin; refine app_new rfl _ _ 39 rfl w wr 3 i0 _ 1 8 Tryz.underlying39 hi hz0 hz1 hz2 rfl (by decide) (by decide) hown hb rfl 1 1 [.int .i64 (k : Int)] rfl rfl (by simp; rfl) (by omega) ?_; intro v' w' hown' hb')
        go_roundw
        case rel =>
          refine ⟨k + 1, by go_num, by omega, by omega, ?_⟩
          rw [HT.out]
          first | exact ⟨own_push_iv hown', hb'⟩ | exact own_push_iv hown'
        case measure => simp [intOf]; omega
      · have HT : Hid (kidsTo L (d + 1) (n + 1) (k + 1) = kidsTo L (d + 1) (n + 1) k) := by show _ = _; rw [hst.out, if_neg hxD]
        have hxb : (x == (d + 1)) = false := by rw [beq_eq_false_iff_ne]; exact hxD
        clear hst
        go_wp2_with fail
        go_roundw
        case rel => exact ⟨k + 1, by go_num, by omega, by omega, by rw [HT.out]; exact hown, hb⟩
        case measure => simp [intOf]; omega
    · obtain hkE : E = k := by omega
      subst hkE
      have hlen := kidsTo_len L (d + 1) (n + 1) (E)
      obtain ⟨A', c, rfl, hc1, hc2, hRd⟩ := rd_own hown
      have K : Hid (KidsEnd w (kidsTo L (d + 1) (n + 1) (E)) (.returned (.slice A' (kidsTo L (d + 1) (n + 1) (E)).length c)) wr) := ⟨A', c, rfl, hc1, hc2, hRd, hb⟩
      clear hown hRd hb
      go_wp2
      go_ret
      exact K.out

end Go.Proofs.YtlldjkhlhfnfeaaGreatDoor
