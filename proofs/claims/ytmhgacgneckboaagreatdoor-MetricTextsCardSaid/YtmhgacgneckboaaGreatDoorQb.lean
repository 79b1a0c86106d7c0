/- Walks: the reference's parts; the library's Split, Cut, ReplaceAll at one byte, Join, in this seed's words. Lines in memory: a slice of api.Line reads as a list. A walk: tree.Right. Walks: tree.there, Under, End. A walk: tree.Path. Walks: tree.Path. A walk: tree.Kids. -/
import Derived.Test.YtmhgacgneckboaaGreatDoorShelf
import Derived.Lib.SplitLaws
import Derived.BigQuiet
import Derived.BigGuard
import Derived.BigCall
import Derived.Lib.QuietBelow
import Derived.Deep.QuietTactic
import Derived.Test.YtmhgacgneckboaaGreatDoorQa
namespace Adr
open Go
/-- How far the reference's parts has come: k bytes are seen, the part that is open begins at f. -/
def PRel (c : UInt8) (l : List UInt8) (k f : Nat) (D : List (List UInt8)) : Prop :=
  (k ≤ l.length ∧ f ≤ k ∧ parts c l = D ++ parts c (l.drop f) ∧ c ∉ (l.drop f).take (k - f)) ∨ (k = l.length + 1 ∧ D = parts c l)
theorem PRel.start (c : UInt8) (l : List UInt8) : PRel c l 0 0 [] := .inl ⟨by omega, by omega, by simp, by simp⟩
theorem PRel.form {c : UInt8} {l : List UInt8} {k f : Nat} {D : List (List UInt8)} (h : PRel c l k f D) (hk : k ≤ l.length) : f ≤ k ∧ parts c l = D ++ parts c (l.drop f) ∧ c ∉ (l.drop f).take (k - f) := by
  rcases h with ⟨_, a⟩ | ⟨e, _⟩
  · exact a
  · omega
theorem PRel.seg {c : UInt8} {l : List UInt8} {k f : Nat} {D : List (List UInt8)} (h : PRel c l k f D) (hk : k < l.length) : l.drop f = (l.drop f).take (k - f) ++ l[k] :: l.drop (k + 1) := by
  have hf := (h.form (by omega)).1
  have e := (List.take_append_drop (k - f) (l.drop f)).symm
  rw [List.drop_drop, show f + (k - f) = k by omega, List.drop_eq_getElem_cons hk] at e
  exact e
theorem PRel.hit {c : UInt8} {l : List UInt8} {k f : Nat} {D : List (List UInt8)} (h : PRel c l k f D) (hk : k < l.length) (hc : l[k] = c) : PRel c l (k + 1) (k + 1) (D ++ [(l.drop f).take (k - f)]) := by
  have hs := h.seg hk
  obtain ⟨hf, hp, hn⟩ := h.form (by omega)
  rw [hc] at hs
  refine .inl ⟨by omega, by omega, ?_, by simp⟩
  rw [hp, (congrArg (parts c) hs).trans (parts_append _ _ _ hn)]
  simp
theorem PRel.other {c : UInt8} {l : List UInt8} {k f : Nat} {D : List (List UInt8)} (h : PRel c l k f D) (hk : k < l.length) (hc : l[k] ≠ c) : PRel c l (k + 1) f D := by
  obtain ⟨hf, hp, hn⟩ := h.form (by omega)
  refine .inl ⟨by omega, by omega, hp, ?_⟩
  have e : (l.drop f).take (k + 1 - f) = (l.drop f).take (k - f) ++ [l[k]] := by
    rw [show k + 1 - f = (k - f) + 1 by omega, List.take_succ_eq_append_getElem (by simp; omega)]
    congr 2
    rw [List.getElem_drop]
    congr 1; omega
  rw [e, List.mem_append, not_or]
  exact ⟨hn, by simpa using fun x => hc x.symm⟩
theorem PRel.last {c : UInt8} {l : List UInt8} {f : Nat} {D : List (List UInt8)} (h : PRel c l l.length f D) : PRel c l (l.length + 1) (l.length + 1) (D ++ [(l.drop f).take (l.length - f)]) := by
  obtain ⟨hf, hp, hn⟩ := h.form (by omega)
  refine .inr ⟨rfl, ?_⟩
  have e : (l.drop f).take (l.length - f) = l.drop f := List.take_of_length_le (by simp)
  rw [e] at hn ⊢
  rw [hp, parts_free _ _ hn]
theorem PRel.done {c : UInt8} {l : List UInt8} {f : Nat} {D : List (List UInt8)} (h : PRel c l (l.length + 1) f D) : D = parts c l := by
  rcases h with ⟨a, _⟩ | ⟨_, e⟩
  · omega
  · exact e
theorem parts_len (c : UInt8) (l : List UInt8) : (parts c l).length ≤ l.length + 1 := by
  induction l with
  | nil => simp [parts_nil]
  | cons b r ih =>
    by_cases h : b = c
    · subst h; rw [parts_at]; simp; omega
    · rw [parts_other _ _ _ h, ahead_length _ _ (parts_ne _ _)]; simp; omega
/-- A part is no longer than the text. -/
theorem parts_short (c : UInt8) (l p : List UInt8) (h : p ∈ parts c l) : p.length ≤ l.length := by
  induction l generalizing p with
  | nil => simp [parts_nil] at h; subst h; simp
  | cons b r ih =>
    by_cases hb : b = c
    · subst hb
      rw [parts_at, List.mem_cons] at h
      rcases h with rfl | h
      · simp
      · have := ih p h; simp; omega
    · rw [parts_other _ _ _ hb] at h
      cases hp : parts c r with
      | nil => exact absurd hp (parts_ne c r)
      | cons x y =>
        rw [hp] at h ih
        simp only [ahead, List.mem_cons] at h
        rcases h with rfl | h
        · have := ih x (by simp); simp; omega
        · have := ih p (by simp [h]); simp; omega
end Adr
namespace Go.Proofs.YtmhgacgneckboaaGreatDoor
open Go.RowKit

theorem info_string : (Tryz.prog.info? 9).map (fun i => (i.zero, i.size, i.bytes)) = some (some (.string ⟨#[]⟩), 1, 16) := by kernel_rfl

/-- What the reference's parts leaves: the parts' row. -/
def PartsEnd (w : World) (c : UInt8) (l : List UInt8) (e : Ending) (w' : World) : Prop :=
  ∃ A cap, e = .returned (.slice A (Adr.parts c l).length cap) ∧ (Adr.parts c l).length ≤ cap ∧ cap ≤ maxLen ∧ Rd w' 1 A (Adr.parts c l).length (strs (Adr.parts c l)) ∧ Below w.heap.size w w'

/-- The loop's relation. -/
def PartsAt (w : World) (c : UInt8) (l : List UInt8) (v f i : Value) (wr : World) : Prop :=
  ∃ (k q : Nat) (D : List (List UInt8)), k ≤ l.length + 1 ∧ q ≤ k ∧ i = .int .i64 k ∧ f = .int .i64 q ∧ D.length ≤ k ∧ wr.ownsRow w.heap.size 9 1 v D.length (strs D) ∧ Below w.heap.size w wr ∧ Hid (Adr.PRel c l k q D)

theorem own_push {w : World} {base : Nat} {v : Value} {s : ByteArray} {D : List (List UInt8)} {q k : Nat} (h : w.ownsRow base 9 1 v (D.length + 1) (strs D ++ [.string (s.extract q k)])) :
    w.ownsRow base 9 1 v (D ++ [(s.data.toList.drop q).take (k - q)]).length (strs (D ++ [(s.data.toList.drop q).take (k - q)])) := by
  rw [strs_append, strs_one, ← Lib.extract_eq, List.length_append]; exact h

end Go.Proofs.YtmhgacgneckboaaGreatDoor

namespace Tre
open Go
structure Line where
  depth : Int
  word : ByteArray
  mark : Int
def Line.cells (l : Line) : List Value := [.int .i64 l.depth, .string l.word, .int .i64 l.mark]
def Line.agg (l : Line) : Value := .agg #[.int .i64 l.depth, .string l.word, .int .i64 l.mark]
def lines (L : List Line) : List Value := L.flatMap Line.cells
theorem lines_length (L : List Line) : (lines L).length = L.length * 3 := by
  unfold lines
  induction L with
  | nil => rfl
  | cons e L ih => simp only [List.flatMap_cons, List.length_append, ih, List.length_cons, Line.cells]; simp; omega
theorem lines_get (L : List Line) (i j : Nat) (hi : i < L.length) (hj : j < 3) : (lines L)[i * 3 + j]? = (L[i].cells)[j]? := by
  unfold lines
  induction L generalizing i with
  | nil => cases hi
  | cons e L ih =>
    cases i with
    | zero =>
      rw [List.flatMap_cons, List.getElem?_append_left (by simp [Line.cells]; omega)]; simp
    | succ i =>
      rw [List.flatMap_cons, List.getElem?_append_right (by simp [Line.cells]; omega), show (i + 1) * 3 + j - e.cells.length = i * 3 + j by simp [Line.cells]; omega]
      simpa using ih i (by simpa using hi)
theorem lines_append (L M : List Line) : lines (L ++ M) = lines L ++ lines M := by unfold lines; simp
theorem lines_one (e : Line) : lines [e] = e.cells := by unfold lines; simp
theorem cells_one (e : Line) : ∀ u ∈ e.cells, u.oneCell' = true := by
  intro u hu
  simp only [Line.cells, List.mem_cons, List.not_mem_nil, or_false] at hu
  rcases hu with rfl | rfl | rfl <;> rfl
/-- What a line may be. -/
def soundB (l : Line) : Bool := decide (0 ≤ l.depth) && decide (l.depth < 16) && decide (l.word.size ≤ 40) && decide (0 ≤ l.mark) && decide (l.mark ≤ 3)
end Tre
namespace Go.Proofs.YtmhgacgneckboaaGreatDoor
open Go.RowKit Tre
/-- The three cells of one of them. -/
theorem Rd.line {w : World} {A : Option Addr} {L : List Line} (h : Rd w 3 A L.length (lines L)) {i : Nat} (hi : i < L.length) :
    ∃ B O, A = some ⟨B, O, none⟩ ∧ B < w.heap.size ∧ (⟨B, O, none⟩ : Addr).add (i * 3) = ⟨B, O + i * 3, none⟩ ∧ w.cell? ⟨B, O + i * 3, none⟩ = some (.int .i64 L[i].depth) ∧ w.cell? ⟨B, O + i * 3 + 1, none⟩ = some (.string L[i].word) ∧ w.cell? ⟨B, O + i * 3 + 2, none⟩ = some (.int .i64 L[i].mark) := by
  obtain ⟨ad, e, hb, hx⟩ := h.2 (by omega)
  have g := fun j (hj : j < 3) => lines_get L i j hi hj
  have h0 := hx (i * 3) _ (by have := g 0 (by omega); simpa [Line.cells] using this)
  have h1 := hx (i * 3 + 1) _ (by have := g 1 (by omega); simpa [Line.cells] using this)
  have h2 := hx (i * 3 + 2) _ (by have := g 2 (by omega); simpa [Line.cells] using this)
  have hs : ad.spot = none := by
    have h00 := hx 0 _ (by have := lines_get L 0 0 (by omega) (by omega); simpa [Line.cells] using this)
    exact World.cell?_spot h00
  obtain ⟨B, O, sp⟩ := ad
  obtain rfl : sp = none := hs
  rw [add_plain] at h0 h1 h2
  exact ⟨B, O, e, hb, add_plain _ _ _, h0, h1, h2⟩
theorem line_box {w w2 : World} {T : TypeId} (e : Line) (hb : Below (w.alloc (.cells #[.int .i64 e.depth, .string e.word, .int .i64 e.mark] T)).heap.size (w.alloc (.cells #[.int .i64 e.depth, .string e.word, .int .i64 e.mark] T)) w2) :
    w2.cell? ⟨w.heap.size, 0, none⟩ = some (.int .i64 e.depth) ∧ w2.cell? ⟨w.heap.size, 1, none⟩ = some (.string e.word) ∧ w2.cell? ⟨w.heap.size, 2, none⟩ = some (.int .i64 e.mark) := by
  refine ⟨?_, ?_, ?_⟩ <;> (rw [hb.cell (by simp), World.cell?_alloc_at _ _ _ _ rfl]; rfl)

end Go.Proofs.YtmhgacgneckboaaGreatDoor

namespace Tre
open Go
/-- The words of each depth, with one more. -/
def put (la : Nat → ByteArray) (d : Int) (v : ByteArray) : Nat → ByteArray := fun j => if j = d.toNat then v else la j
def leB (a b : ByteArray) : Bool := Op.bytesLess a.toList b.toList || a.toList == b.toList
def rgOk (d : Int) (la : Nat → ByteArray) (l : Line) : Bool := soundB l && decide (l.depth ≤ d + 1) && !(decide (l.depth ≤ d) && leB l.word (la l.depth.toNat))
def rightGo (d : Int) (la : Nat → ByteArray) : List Line → Bool
  | [] => true
  | l :: r => if rgOk d la l then rightGo l.depth (put la l.depth l.word) r else false
def rightB (L : List Line) : Bool := decide (L.length ≤ 200) && rightGo (-1) (fun _ => ⟨#[]⟩) L
end Tre
namespace Go.Proofs.YtmhgacgneckboaaGreatDoor
open Go Go.RowKit Go.Sort Tre

/-- The words' array. -/
def Wd (g : Nat) (la : Nat → ByteArray) (W : World) : Prop := ∀ j, j < 16 → W.cell? ⟨g, j, none⟩ = some (.string (la j)) ∧ W.frozen? ⟨g, j, none⟩ = false

theorem wd_new (w : World) (T : TypeId) : Wd w.heap.size (fun _ => ⟨#[]⟩) (w.alloc (.cells (Array.replicate 16 (.string ⟨#[]⟩)) T)) := by
  intro j hj
  refine ⟨?_, by simp⟩
  rw [World.cell?_alloc_at _ _ _ _ rfl, Array.getElem?_replicate, if_pos hj]
theorem Wd.below {g : Nat} {la : Nat → ByteArray} {W W' : World} (h : Wd g la W) (hg : g < W.heap.size) (hb : Below W.heap.size W W') : Wd g la W' := fun j hj =>
  ⟨(hb.cell (p := ⟨g, j, none⟩) hg).trans (h j hj).1, (hb.frozen (p := ⟨g, j, none⟩) hg).trans (h j hj).2⟩
theorem Wd.put {g : Nat} {la : Nat → ByteArray} {W : World} (h : Wd g la W) {d : Int} {q : Nat} (hq : d.toNat = q) (hq16 : q < 16) (v : ByteArray) : Wd g (Tre.put la d v) (W.setCell ⟨g, q, none⟩ (.string v)) := fun j hj => by
  rw [World.frozen?_setCell]
  refine ⟨?_, (h j hj).2⟩
  unfold Tre.put
  rw [hq]
  by_cases e : j = q
  · subst e; rw [if_pos rfl]; exact World.cell?_setCell_same _ _ _ (h j hj).1
  · rw [if_neg e, World.cell?_setCell_other _ _ _ _ (by intro e'; simp only [Addr.mk.injEq] at e'; omega)]
    exact (h j hj).1

end Go.Proofs.YtmhgacgneckboaaGreatDoor

namespace Tre
open Go
def thereB (L : List Line) (i : Int) : Bool := decide (0 ≤ i) && decide (i < (L.length : Int)) && rightB L
def depthAt (L : List Line) (i : Nat) : Int := match L[i]? with | some l => l.depth | none => 0
theorem depthAt_lt {L : List Line} {i : Nat} (h : i < L.length) : depthAt L i = L[i].depth := by unfold depthAt; rw [List.getElem?_eq_getElem h]
/-- The last place ahead of k whose depth is lower than D; -1: there is none. -/
def underFrom (L : List Line) (D : Int) : Nat → Int
  | 0 => -1
  | k + 1 => if D ≤ depthAt L k then underFrom L D k else (k : Int)
def underB (L : List Line) (i : Nat) : Int := underFrom L (depthAt L i) i
/-- The first place from k on whose depth is not greater than D, or the end. -/
def endFrom (L : List Line) (D : Int) (k : Nat) : Nat := k + ((L.drop k).takeWhile fun l => decide (D < l.depth)).length
def endB (L : List Line) (i : Nat) : Nat := endFrom L (depthAt L i) (i + 1)
theorem endFrom_step {L : List Line} {D : Int} {k : Nat} (h : k < L.length) (hd : D < L[k].depth) : endFrom L D k = endFrom L D (k + 1) := by
  unfold endFrom
  rw [List.drop_eq_getElem_cons h, List.takeWhile_cons, decide_eq_true hd]
  simp; omega
theorem endFrom_stop {L : List Line} {D : Int} {k : Nat} (h : k < L.length) (hd : ¬ D < L[k].depth) : endFrom L D k = k := by
  unfold endFrom
  rw [List.drop_eq_getElem_cons h, List.takeWhile_cons, decide_eq_false hd]
  simp
theorem endFrom_end {L : List Line} {D : Int} : endFrom L D L.length = L.length := by unfold endFrom; simp
theorem endFrom_le (L : List Line) (D : Int) (k : Nat) (hk : k ≤ L.length) : k ≤ endFrom L D k ∧ endFrom L D k ≤ L.length := by
  unfold endFrom
  have h1 := (List.takeWhile_prefix (l := L.drop k) (fun l => decide (D < l.depth))).length_le
  rw [List.length_drop] at h1
  omega
theorem underFrom_lt (L : List Line) (D : Int) : ∀ k : Nat, -1 ≤ underFrom L D k ∧ underFrom L D k < (k : Int)
  | 0 => by unfold underFrom; omega
  | k + 1 => by
    unfold underFrom
    have := underFrom_lt L D k
    split <;> omega
end Tre
namespace Go.Proofs.YtmhgacgneckboaaGreatDoor
open Go Go.RowKit Go.Sort Tre

end Go.Proofs.YtmhgacgneckboaaGreatDoor

namespace Tre
open Go
def wordAt (L : List Line) (i : Nat) : ByteArray := match L[i]? with | some l => l.word | none => ⟨#[]⟩
theorem wordAt_lt {L : List Line} {i : Nat} (h : i < L.length) : wordAt L i = L[i].word := by unfold wordAt; rw [List.getElem?_eq_getElem h]
/-- The words from the line ahead of k up, in that order; with fuel. -/
def upsF (L : List Line) : Nat → Nat → List ByteArray
  | 0, _ => []
  | _ + 1, 0 => []
  | f + 1, k + 1 => wordAt L k :: upsF L f (underB L k + 1).toNat
theorem underB_lt (L : List Line) (k : Nat) : -1 ≤ underB L k ∧ underB L k < (k : Int) := underFrom_lt L _ k
theorem upsF_zero (L : List Line) : ∀ f, upsF L f 0 = []
  | 0 => rfl
  | _ + 1 => rfl
theorem upsF_same (L : List Line) : ∀ f k, k ≤ f → upsF L f k = upsF L k k
  | 0, 0, _ => rfl
  | f + 1, 0, _ => rfl
  | f + 1, k + 1, h => by
    have hu := underB_lt L k
    show _ :: _ = _ :: _
    rw [upsF_same L f _ (by omega), upsF_same L k _ (by omega)]
termination_by f k => f + k
def ups (L : List Line) (k : Nat) : List ByteArray := upsF L k k
theorem ups_zero (L : List Line) : ups L 0 = [] := rfl
theorem ups_succ (L : List Line) (k : Nat) : ups L (k + 1) = wordAt L k :: ups L (underB L k + 1).toNat := by
  have hu := underB_lt L k
  show _ :: _ = _
  unfold ups
  rw [upsF_same L k _ (by omega)]
theorem ups_len (L : List Line) : ∀ k, (ups L k).length ≤ k
  | 0 => by rw [ups_zero]; simp
  | k + 1 => by
    have hu := underB_lt L k
    rw [ups_succ, List.length_cons]
    have := ups_len L (underB L k + 1).toNat
    omega
/-- The path of a line. -/
def pathB (L : List Line) (i : Nat) : List ByteArray := (ups L (i + 1)).reverse
theorem pathB_len (L : List Line) (i : Nat) : (pathB L i).length ≤ i + 1 := by unfold pathB; rw [List.length_reverse]; exact ups_len L _
theorem pathB_pos (L : List Line) (i : Nat) : 0 < (pathB L i).length := by unfold pathB; rw [ups_succ]; simp
theorem pathB_top (L : List Line) (i : Nat) (h : underB L i = -1) : pathB L i = [wordAt L i] := by unfold pathB; rw [ups_succ, h]; rfl
theorem pathB_sub (L : List Line) (i j : Nat) (h : underB L i = (j : Int)) : pathB L i = pathB L j ++ [wordAt L i] := by
  unfold pathB; rw [ups_succ, h, List.reverse_cons]; rfl
/-- Strings in memory. -/
def sv (P : List ByteArray) : List Value := P.map Value.string
theorem sv_len (P : List ByteArray) : (sv P).length = P.length := by unfold sv; simp
theorem sv_get {P : List ByteArray} {j : Nat} (h : j < P.length) : (sv P)[j]? = some (.string P[j]) := by unfold sv; simp [h]
theorem sv_app (P Q : List ByteArray) : sv (P ++ Q) = sv P ++ sv Q := by unfold sv; simp
theorem sv_one (P : List ByteArray) : ∀ u ∈ sv P, u.oneCell' = true := by
  unfold sv; intro u hu
  obtain ⟨l, _, rfl⟩ := List.mem_map.1 hu
  rfl
end Tre
namespace Go.Proofs.YtmhgacgneckboaaGreatDoor
open Go Go.RowKit Go.Sort Tre

/-- A slice whose cells begin a block. -/
def Zd (A : Option Addr) : Prop := ∀ ad, A = some ad → ∃ g, ad = ⟨g, 0, none⟩
theorem zd_none : Zd none := fun _ h => by cases h
theorem zd_some (g : Nat) : Zd (some ⟨g, 0, none⟩) := fun ad h => by cases h; exact ⟨g, rfl⟩
def PathEnd (w : World) (P : List ByteArray) (e : Ending) (w' : World) : Prop :=
  ∃ A c, e = .returned (.tuple #[.slice A P.length c, .int .i64 0]) ∧ P.length ≤ c ∧ c ≤ maxLen ∧ Rd w' 1 A P.length (sv P) ∧ Zd A ∧ Below w.heap.size w w'

theorem own_push_str {w : World} {base : Nat} {T : TypeId} {v : Value} {l : List ByteArray} {k : ByteArray} (h : w.ownsRow base T 1 v (l.length + 1) (sv l ++ [.string k])) : w.ownsRow base T 1 v (l ++ [k]).length (sv (l ++ [k])) := by
  unfold sv at *; simpa using h
theorem Rd.strAt {w : World} {A : Option Addr} {P : List ByteArray} (h : Rd w 1 A P.length (sv P)) {i : Nat} (hi : i < P.length) :
    ∃ B O, A = some ⟨B, O, none⟩ ∧ B < w.heap.size ∧ (⟨B, O, none⟩ : Addr).add i = ⟨B, O + i, none⟩ ∧ w.cell? ⟨B, O + i, none⟩ = some (.string P[i]) := by
  obtain ⟨ad, e, hb, hx⟩ := h.2 (by omega)
  have h0 := hx i _ (sv_get hi)
  have hs : ad.spot = none := by
    have h00 := hx 0 _ (sv_get (by omega : 0 < P.length))
    exact World.cell?_spot h00
  obtain ⟨B, O, sp⟩ := ad
  obtain rfl : sp = none := hs
  rw [add_plain] at h0
  exact ⟨B, O, e, hb, add_plain _ _ _, h0⟩
theorem below_cells {B : Nat} {a : World} (b : Nat) (hb : B ≤ b) : ∀ (vs : List Value) (o : Nat) {w : World}, Below B a w → Below B a (w.setCells b o vs)
  | [], _, _, h => h
  | v :: r, o, _, h => below_cells b hb r (o + 1) (h.setCell (p := ⟨b, o, none⟩) hb v)

end Go.Proofs.YtmhgacgneckboaaGreatDoor

namespace Go.Proofs.YtmhgacgneckboaaGreatDoor
open Go Go.RowKit Go.Sort Tre

theorem thereB_lt {L : List Line} {n : Nat} (h : rightB L = true) (hn : n < L.length) : thereB L (n : Int) = true := by
  unfold thereB; rw [h, decide_eq_true (by omega), decide_eq_true (by omega)]; rfl
theorem right_len {L : List Line} (h : rightB L = true) : L.length ≤ 200 := by
  unfold rightB at h; simp only [Bool.and_eq_true, decide_eq_true_eq] at h; exact h.1

end Go.Proofs.YtmhgacgneckboaaGreatDoor

namespace Tre
open Go
/-- The places from a on, up to E, of the depth D. -/
def kidsTo (L : List Line) (D : Int) (a k : Nat) : List Nat := (List.range k).filter fun i => decide (a ≤ i) && decide (depthAt L i = D)
theorem kidsTo_low (L : List Line) (D : Int) (a : Nat) : kidsTo L D a a = [] := by
  unfold kidsTo
  rw [List.filter_eq_nil_iff]
  intro i hi
  have : i < a := by simpa using hi
  simp; omega
theorem kidsTo_succ (L : List Line) (D : Int) (a k : Nat) (h : a ≤ k) : kidsTo L D a (k + 1) = if depthAt L k = D then kidsTo L D a k ++ [k] else kidsTo L D a k := by
  unfold kidsTo
  rw [List.range_succ, List.filter_append]
  by_cases hk : depthAt L k = D
  · rw [if_pos hk]; congr 1; simp [hk, h]
  · rw [if_neg hk]; simp [hk]
theorem kidsTo_len (L : List Line) (D : Int) (a k : Nat) : (kidsTo L D a k).length ≤ k := by
  unfold kidsTo; exact Nat.le_trans (List.length_filter_le _ _) (by simp)
theorem mem_kidsTo {L : List Line} {D : Int} {a k i : Nat} : i ∈ kidsTo L D a k ↔ i < k ∧ a ≤ i ∧ depthAt L i = D := by
  unfold kidsTo; simp [List.mem_filter]
def kidsTop (L : List Line) : List Nat := kidsTo L 0 0 L.length
def kidsB (L : List Line) (i : Nat) : List Nat := kidsTo L (depthAt L i + 1) (i + 1) (endB L i)
/-- Places in memory. -/
def iv (l : List Nat) : List Value := l.map fun k : Nat => Value.int .i64 (k : Int)
theorem iv_len (P : List Nat) : (iv P).length = P.length := by unfold iv; simp
theorem iv_get {P : List Nat} {j : Nat} (h : j < P.length) : (iv P)[j]? = some (.int .i64 (P[j] : Int)) := by unfold iv; simp [h]
theorem endB_le (L : List Line) (i : Nat) (hi : i < L.length) : i + 1 ≤ endB L i ∧ endB L i ≤ L.length := endFrom_le L _ _ (by omega)
end Tre
namespace Go.Proofs.YtmhgacgneckboaaGreatDoor
open Go Go.RowKit Go.Sort Tre

def KidsEnd (w : World) (P : List Nat) (e : Ending) (w' : World) : Prop :=
  ∃ A c, e = .returned (.slice A P.length c) ∧ P.length ≤ c ∧ c ≤ maxLen ∧ Rd w' 1 A P.length (iv P) ∧ Below w.heap.size w w'
theorem info_i64 : (Tryz.prog.info? 3).map (fun i => (i.zero, i.size, i.bytes)) = some (some (.int .i64 0), 1, 8) := by kernel_rfl
theorem own_push_iv {w : World} {base : Nat} {T : TypeId} {v : Value} {l : List Nat} {k : Nat} (h : w.ownsRow base T 1 v (l.length + 1) (iv l ++ [.int .i64 (k : Int)])) : w.ownsRow base T 1 v (l ++ [k]).length (iv (l ++ [k])) := by
  unfold iv at *; simpa using h
theorem Rd.intAt {w : World} {A : Option Addr} {P : List Nat} (h : Rd w 1 A P.length (iv P)) {i : Nat} (hi : i < P.length) :
    ∃ B O, A = some ⟨B, O, none⟩ ∧ B < w.heap.size ∧ (⟨B, O, none⟩ : Addr).add i = ⟨B, O + i, none⟩ ∧ w.cell? ⟨B, O + i, none⟩ = some (.int .i64 (P[i] : Int)) := by
  obtain ⟨ad, e, hb, hx⟩ := h.2 (by omega)
  have h0 := hx i _ (iv_get hi)
  have hs : ad.spot = none := by
    have h00 := hx 0 _ (iv_get (by omega : 0 < P.length))
    exact World.cell?_spot h00
  obtain ⟨B, O, sp⟩ := ad
  obtain rfl : sp = none := hs
  rw [add_plain] at h0
  exact ⟨B, O, e, hb, add_plain _ _ _, h0⟩

theorem go_sound {d : Int} {la : Nat → ByteArray} : ∀ {L : List Line}, rightGo d la L = true → ∀ l ∈ L, soundB l = true
  | [], _, _, h => by cases h
  | x :: r, hg, l, hl => by
    unfold rightGo at hg
    split at hg
    · rename_i hok
      rcases List.mem_cons.1 hl with rfl | hl
      · unfold rgOk at hok; simp only [Bool.and_eq_true] at hok; exact hok.1.1
      · exact go_sound hg l hl
    · cases hg
theorem right_sound {L : List Line} (h : rightB L = true) : ∀ l ∈ L, soundB l = true := by
  unfold rightB at h; simp only [Bool.and_eq_true] at h; exact go_sound h.2
theorem right_depth {L : List Line} (h : rightB L = true) {n : Nat} (hn : n < L.length) : 0 ≤ L[n].depth ∧ L[n].depth < 16 := by
  have := right_sound h _ (List.getElem_mem hn)
  unfold soundB at this; simp only [Bool.and_eq_true, decide_eq_true_eq] at this
  exact ⟨this.1.1.1.1, this.1.1.1.2⟩

end Go.Proofs.YtmhgacgneckboaaGreatDoor
