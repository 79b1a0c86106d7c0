/- A parameter that is a slice of entries: what lies in its cells, as a list. -/
import Derived.Test.YtlojeeakjgalpaaDoorEnt
import Derived.Deep.Slices
import Derived.Deep.Fields
import Derived.ChangeSame
namespace Go.Proofs.YtlojeeakjgalpaaDoor
open Go Go.ChangeShapes Go.WideShapes Go.Deep Go.RowKit Rte

section
variable {H : Type} {enc : TypeId × Value → H} {P : Program} {w : World} {base : Nat} {spare : Nat → Bool} {held : Bool}
/-- One cell of an element, and its reading. -/
theorem field_at {e : TypeId} {fs : Array Field} {n : Nat} {b : Addr} {x : DataW H × List MemPlace} {cs : List Value} (he : P.underlying e = some (.struct fs)) (hone : oneCellFields P fs = true) (hC : P.cellsOf e = fs.size)
    (hc : w.cells? base b (P.cellsOf e) = some cs) (ht : DataW.trod enc P w base spare held n e cs = some x) (j : Nat) (f : Field) (hj : fs[j]? = some f) :
    ∃ v y m, w.cell? (b.add j) = some v ∧ DataW.trod enc P w base spare held m f.type [v] = some y := by
  obtain ⟨ys, m, -, -, -, hyl, hf⟩ := DataW.trod_struct he ht
  obtain ⟨-, hl, hat⟩ := World.cells?_some hc
  obtain ⟨ho, hk⟩ := hone_of hone j f hj
  have hjs : j < fs.size := (Array.getElem?_eq_some_iff.1 hj).1
  have hjc : j < cs.length := by omega
  have hd : (cs.drop j).take 1 = [cs[j]] := by rw [List.drop_eq_getElem_cons hjc]; rfl
  have h1 := hf j f hj
  rw [ho, hk, hd] at h1
  exact ⟨cs[j], ys[j]'(by omega), m, (hat j (by omega)).trans (List.getElem?_eq_getElem hjc), h1.trans (List.getElem?_eq_getElem (by omega))⟩

theorem open_ents {r : Reach} {b0 : Nat} {t e : TypeId} {f0 f1 f2 f3 : Field} {v : Value} {d : DataW H} {p : List MemPlace} (ht : P.underlying t = some (.slice e)) (he : P.underlying e = some (.struct #[f0, f1, f2, f3]))
    (hone : oneCellFields P #[f0, f1, f2, f3] = true) (hC : P.cellsOf e = 4) (u0 : P.underlying f0.type = some .string) (u1 : P.underlying f1.type = some (.int .i64)) (u2 : P.underlying f2.type = some .string) (u3 : P.underlying f3.type = some .string)
    (hv : Value.okWide P w r b0 t v) (h : DataW.Trod enc P w base spare held t v d p) :
    ∃ (A : Option Addr) (cap : Nat) (L : List Ent), v = .slice A L.length cap ∧ L.length ≤ cap ∧ cap ≤ maxLen ∧ Rd w 4 A L.length (ents L) := by
  obtain ⟨a0, len, cap, rfl⟩ := okWide_slice ht hv
  obtain ⟨fuel, hf⟩ := h
  rcases open_slice ht hf with ⟨hcs, -⟩ | ⟨a, len', cap', m, n, D, Pl, hcs, -, hl, hm, hmm, -, hi⟩
  · simp [Value.cells] at hcs
    obtain ⟨rfl, rfl, rfl⟩ := hcs
    exact ⟨none, 0, [], rfl, Nat.le_refl _, by unfold maxLen; omega, Rd.nil⟩
  · simp [Value.cells] at hcs
    obtain ⟨rfl, rfl, rfl⟩ := hcs
    have hlm : len ≤ m := by rw [hmm]; split <;> omega
    have each : ∀ i, ∃ x : Ent, i < len → w.cell? (a.add (i * 4)) = some (.string x.host) ∧ w.cell? (a.add (i * 4 + 1)) = some (.int .i64 x.kind) ∧ w.cell? (a.add (i * 4 + 2)) = some (.string x.key) ∧ w.cell? (a.add (i * 4 + 3)) = some (.string x.val) := by
      intro i
      by_cases hlt : i < len
      · obtain ⟨cs, hc, htr⟩ := hi i (by omega)
        have F := field_at he hone hC hc htr
        obtain ⟨v0, y0, m0, c0, t0⟩ := F 0 f0 rfl
        obtain ⟨v1, y1, m1, c1, t1⟩ := F 1 f1 rfl
        obtain ⟨v2, y2, m2, c2, t2⟩ := F 2 f2 rfl
        obtain ⟨v3, y3, m3, c3, t3⟩ := F 3 f3 rfl
        obtain ⟨s0, e0, -⟩ := DataW.trod_string u0 t0
        obtain ⟨k1, e1, -⟩ := DataW.trod_int u1 t1
        obtain ⟨s2, e2, -⟩ := DataW.trod_string u2 t2
        obtain ⟨s3, e3, -⟩ := DataW.trod_string u3 t3
        injection e0 with e0
        injection e1 with e1
        injection e2 with e2
        injection e3 with e3
        rw [add_twice, hC] at c0 c1 c2 c3
        exact ⟨⟨s0, k1, s2, s3⟩, fun _ => ⟨by rw [← e0]; exact c0, by rw [← e1]; exact c1, by rw [← e2]; exact c2, by rw [← e3]; exact c3⟩⟩
      · exact ⟨⟨⟨#[]⟩, 0, ⟨#[]⟩, ⟨#[]⟩⟩, fun h => absurd h hlt⟩
    obtain ⟨f, hfx⟩ := Classical.axiomOfChoice each
    refine ⟨some a, cap, (List.range len).map f, by simp, by simpa using hl, hm, by rw [ents_length], fun hn => ?_⟩
    have hn' : 0 < len := by simpa using hn
    refine ⟨a, rfl, Lib.lt_of_cell (a := a) (by have := (hfx 0 hn').1; simpa [Addr.add] using this), fun j u hu => ?_⟩
    have hj : j < ((List.range len).map f).length * 4 := by
      have := (List.getElem?_eq_some_iff.1 hu).1
      rwa [ents_length] at this
    have hj' : j < len * 4 := by simpa using hj
    obtain ⟨i, q, rfl, hq⟩ : ∃ i q, j = i * 4 + q ∧ q < 4 := ⟨j / 4, j % 4, by omega, by omega⟩
    have hil : i < len := by omega
    rw [ents_get _ i q (by simpa using hil) hq] at hu
    obtain ⟨g0, g1, g2, g3⟩ := hfx i hil
    simp only [List.getElem_map, List.getElem_range, Ent.cells] at hu
    match q, hq with
    | 0, _ => rw [← hu]; simpa using g0
    | 1, _ => rw [← hu]; simpa using g1
    | 2, _ => rw [← hu]; simpa using g2
    | 3, _ => rw [← hu]; simpa using g3
end
end Go.Proofs.YtlojeeakjgalpaaDoor
