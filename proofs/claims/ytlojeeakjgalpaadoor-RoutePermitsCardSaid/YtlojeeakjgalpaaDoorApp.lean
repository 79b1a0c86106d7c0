/- An append of what came in, nil or not, onto a row of the call's own. -/
import Derived.Test.YtlojeeakjgalpaaDoorLwO
import Derived.Laws.AppendOwnNone
namespace Go.Proofs.YtlojeeakjgalpaaDoor
open Go Go.RowKit Rte

theorem app_src {P : Program} {ops : Array Oper} {rest : List Oper} {o : Oper} {a : Act} {Q : Exit → Act → World → Prop} (hgd : o.guard = none) (s x : Operand) (t : TypeId)
    (ho : o.op = .call { callee := .builtin .append, args := #[s, x], argTypes := #[t, t] })
    (w0 wr : World) (e : TypeId) (i : TypeInfo) (z : Value) (size bytes : Nat) (ht : P.underlying t = some (.slice e)) (hi : P.info? e = some i) (hz : i.zero = some z)
    (hsize : i.size = size) (hby : i.bytes = bytes) (hzs : z.cells.size = size) (hsz : 0 < size) (hb64 : bytes ≤ 64)
    {v : Value} {n : Nat} {xs : List Value} (hown : wr.ownsRow w0.heap.size e size v n xs) (hb : Below w0.heap.size w0 wr) (hs : a.eval s = v)
    (A : Option Addr) (m c : Nat) (news : List Value) (hx : a.eval x = .slice A m c) (hR : Rd wr size A m news) (hnil : A = none → c = 0) (h1 : ∀ u ∈ news, u.oneCell' = true)
    (hN : n + m ≤ 1000000000)
    (h : ∀ v' w', w'.ownsRow w0.heap.size e size v' (n + m) (xs ++ news) → Below w0.heap.size w0 w' → wpList P ops Q rest (a.put o.dst v') w') :
    wpList P ops Q (o :: rest) a wr := by
  have hbytes : (n + m) * bytes ≤ 140737488355328 := Nat.le_trans (Nat.mul_le_mul hN hb64) (by decide)
  rcases A with _ | ad
  · have hm : m = 0 := by
      rcases Nat.eq_zero_or_pos m with h0 | h0
      · exact h0
      · obtain ⟨ad, h, -⟩ := hR.2 h0
        cases h
    subst hm
    have hn : news = [] := List.eq_nil_of_length_eq_zero (by simpa using hR.1)
    subst hn
    obtain rfl := hnil rfl
    exact wpList_append_own_none hgd s x t ho w0.heap.size e i size ht hi v n xs hs hown hx (h v wr (by simpa using hown) hb)
  · refine wpList_append_own _ hgd s x t ho w0.heap.size e i z size bytes ht hi hz hsize hby hzs hsz v n xs hs hown ad m c news hx hR.1 ?_ h1 (by unfold maxLen; omega) hbytes hb.size ?_
    · intro j u hu
      obtain ⟨ad', e', -, hc⟩ := hR.cell hu
      injection e' with e'
      subst e'
      exact hc
    · intro v' w' hown' hg _
      exact h v' w' hown' (hb.grown hg hb.size fun q hq => (hown.lt q hq).1)
theorem ents_cells (L : List Ent) : ∀ u ∈ ents L, u.oneCell' = true := by
  intro u hu
  unfold ents at hu
  obtain ⟨x, -, hx⟩ := List.mem_flatMap.1 hu
  exact cells_one x u hx
theorem own_empty (w : World) (base : Nat) (T : TypeId) (hb : base ≤ w.heap.size) : (w.alloc (.cells #[] T)).ownsRow base T 4 (.slice (some ⟨w.heap.size, 0, none⟩) 0 0) 0 [] := by
  have := World.ownsRow_lit (e := T) (size := 4) (base := base) w #[] 0 hb (by unfold maxLen; omega) rfl
  simpa using this

section
open Go.ChangeShapes Go.Deep
variable {H : Type} {enc : TypeId × Value → H} {P : Program} {w : World} {base : Nat} {spare : Nat → Bool} {held : Bool}
theorem open_nil {t e : TypeId} {n cap : Nat} {d : DataW H} {p : List MemPlace} (ht : P.underlying t = some (.slice e)) (h : DataW.Trod enc P w base spare held t (.slice none n cap) d p) : cap = 0 := by
  obtain ⟨fuel, hf⟩ := h
  rcases open_slice ht hf with ⟨hcs, -⟩ | ⟨a, len', cap', m, n', D, Pl, hcs, -⟩
  · simp [Value.cells] at hcs; exact hcs.2
  · simp [Value.cells] at hcs
end
end Go.Proofs.YtlojeeakjgalpaaDoor
