/- Words for memory, of no program: slices that read as a list; an append onto a row of the call's own; strings as lists of bytes. -/
import Derived.WalkKit
import Derived.WalkSmall
import Derived.OwnWalk
import Derived.Laws.OwnMore
import Derived.Laws.AppendOwn
import Derived.Deep.Draws
import Derived.Lib.Strings
import Derived.Lib.Hide
namespace Go.Proofs.YtlojeeakjgalpaaDoor
open Go Go.RowKit

theorem add_block (a : Addr) (n : Nat) : (a.add n).block = a.block := by unfold Addr.add; split <;> rfl
theorem add_twice (a : Addr) (i j : Nat) : (a.add i).add j = a.add (i + j) := by
  unfold Addr.add
  by_cases hi : i = 0
  · simp [hi]
  · by_cases hj : j = 0
    · simp [hi, hj]
    · simp [hi, hj, Nat.add_assoc]
theorem add_plain (b o j : Nat) : (⟨b, o, none⟩ : Addr).add j = ⟨b, o + j, none⟩ := by
  unfold Addr.add; split
  · subst_vars; rfl
  · rfl

/-- The slice with address A and n elements of k cells each reads xs. -/
def Rd (w : World) (k : Nat) (A : Option Addr) (n : Nat) (xs : List Value) : Prop :=
  xs.length = n * k ∧ (0 < n → ∃ ad, A = some ad ∧ ad.block < w.heap.size ∧ ∀ j u, xs[j]? = some u → w.cell? (ad.add j) = some u)
section
variable {w w' : World} {k n : Nat} {A : Option Addr} {xs : List Value}
theorem Rd.nil : Rd w k A 0 [] := ⟨by simp, fun h => absurd h (by omega)⟩
theorem Rd.keep (h : Rd w k A n xs) (hs : w.heap.size ≤ w'.heap.size) (hc : ∀ p : Addr, p.block < w.heap.size → w'.cell? p = w.cell? p) : Rd w' k A n xs :=
  ⟨h.1, fun hn => by
    obtain ⟨ad, e, hb, hx⟩ := h.2 hn
    exact ⟨ad, e, Nat.lt_of_lt_of_le hb hs, fun j u hu => (hc _ (by rw [add_block]; exact hb)).trans (hx j u hu)⟩⟩
theorem Rd.below (h : Rd w k A n xs) (hb : Below w.heap.size w w') : Rd w' k A n xs := h.keep hb.size fun _ hp => hb.cell hp
theorem Rd.drew (h : Rd w k A n xs) : Rd w.drew k A n xs := h
theorem Rd.drewN (h : Rd w k A n xs) (m : Nat) : Rd (w.drewN m) k A n xs := h
theorem Rd.alloc (h : Rd w k A n xs) (o : Obj) : Rd (w.alloc o) k A n xs := h.keep (by simp) fun p hp => World.cell?_alloc_lt w o p hp
/-- The j-th cell. -/
theorem Rd.cell (h : Rd w k A n xs) {j : Nat} {u : Value} (hu : xs[j]? = some u) : ∃ ad, A = some ad ∧ ad.block < w.heap.size ∧ w.cell? (ad.add j) = some u := by
  have hj : j < xs.length := (List.getElem?_eq_some_iff.1 hu).1
  obtain ⟨ad, e, hb, hx⟩ := h.2 (by
    rcases Nat.eq_zero_or_pos n with h0 | h0
    · rw [h.1, h0] at hj; omega
    · exact h0)
  exact ⟨ad, e, hb, hx j u hu⟩
/-- A part: x[i:j]. -/
theorem Rd.part (h : Rd w k A n xs) {i j cap : Nat} (hij : i ≤ j) (hj : j ≤ n) (hc : n ≤ cap) : Rd w k (if cap = i then A else A.map (·.add (i * k))) (j - i) ((xs.drop (i * k)).take ((j - i) * k)) := by
  refine ⟨?_, fun hn => ?_⟩
  · rw [List.length_take, List.length_drop, h.1, ← Nat.sub_mul]
    exact Nat.min_eq_left (Nat.mul_le_mul_right _ (by omega))
  · obtain ⟨ad, rfl, hb, hx⟩ := h.2 (by omega)
    rw [if_neg (by omega)]
    refine ⟨ad.add (i * k), rfl, by rw [add_block]; exact hb, fun q u hu => ?_⟩
    rw [add_twice]
    refine hx _ u ?_
    by_cases hq : q < (j - i) * k
    · rw [List.getElem?_take_of_lt hq, List.getElem?_drop] at hu; exact hu
    · rw [List.getElem?_take_eq_none (by omega)] at hu; cases hu
theorem Rd.of_own {base : Nat} {e : TypeId} {c : Nat} (h : w.ownsRow base e k (.slice A n c) n xs) : Rd w k A n xs := by
  refine ⟨h.1, fun hn => ?_⟩
  rcases h.2 with ⟨hv, h0⟩ | ⟨g, cap, cur, hv, _, hh, _⟩
  · omega
  · injection hv with hA
    subst hA
    refine ⟨_, rfl, ?_, h.cells (g := g) rfl⟩
    rcases Nat.lt_or_ge g w.heap.size with hlt | hge
    · exact hlt
    · rw [Array.getElem?_eq_none hge] at hh; cases hh
/-- What is owned reads as a list. -/
theorem rd_own {base : Nat} {e : TypeId} {v : Value} (h : w.ownsRow base e k v n xs) : ∃ A c, v = .slice A n c ∧ n ≤ c ∧ c ≤ maxLen ∧ Rd w k A n xs := by
  rcases h.2 with ⟨rfl, rfl⟩ | ⟨g, cap, cur, rfl, hg, hh, hnc, hcm, hsz, ht⟩
  · exact ⟨none, 0, rfl, Nat.le_refl _, by unfold maxLen; omega, Rd.of_own (base := base) (e := e) (c := 0) h⟩
  · exact ⟨some ⟨g, 0, none⟩, cap, rfl, hnc, hcm, Rd.of_own h⟩
end

theorem own_below {w w' : World} {base : Nat} {e : TypeId} {k : Nat} {v : Value} {n : Nat} {xs : List Value} (h : w.ownsRow base e k v n xs) (hb : Below w.heap.size w w') : w'.ownsRow base e k v n xs :=
  h.kept (row := none) ⟨hb.os, hb.tape, hb.output, hb.size, fun i hi _ => hb.block i hi⟩ (by
    cases hv : v.ownBlock with
    | none => exact .inl rfl
    | some g => exact .inr (by simp))
/-- An append of what the call has just laid, onto a row of the call's own: w0 is the world at the call's beginning. -/
theorem app_new {P : Program} {ops : Array Oper} {rest : List Oper} {o : Oper} {a : Act} {Q : Exit → Act → World → Prop} (hgd : o.guard = none) (s x : Operand) (t : TypeId)
    (ho : o.op = .call { callee := .builtin .append, args := #[s, x], argTypes := #[t, t] })
    (w0 wr : World) (e : TypeId) (i : TypeInfo) (z : Value) (size bytes : Nat) (ht : P.underlying t = some (.slice e)) (hi : P.info? e = some i) (hz : i.zero = some z)
    (hsize : i.size = size) (hby : i.bytes = bytes) (hzs : z.cells.size = size) (hsz : 0 < size) (hb64 : bytes ≤ 64)
    {v : Value} {n : Nat} {xs : List Value} (hown : wr.ownsRow w0.heap.size e size v n xs) (hb : Below w0.heap.size w0 wr) (hs : a.eval s = v)
    (m c : Nat) (news : List Value) (hx : a.eval x = .slice (some ⟨wr.heap.size, 0, none⟩) m c) (hl : news.length = m * size) (h1 : ∀ u ∈ news, u.oneCell' = true)
    (hN : n + m ≤ 1000000000)
    (h : ∀ v' w', w'.ownsRow w0.heap.size e size v' (n + m) (xs ++ news) → Below w0.heap.size w0 w' → wpList P ops Q rest (a.put o.dst v') w') :
    wpList P ops Q (o :: rest) a (wr.alloc (.cells news.toArray e)) := by
  have hbytes : (n + m) * bytes ≤ 140737488355328 := Nat.le_trans (Nat.mul_le_mul hN hb64) (by decide)
  refine wpList_append_own _ hgd s x t ho w0.heap.size e i z size bytes ht hi hz hsize hby hzs hsz v n xs hs (hown.alloc _) ⟨wr.heap.size, 0, none⟩ m c news hx hl ?_ h1 (by unfold maxLen; omega) hbytes (Nat.le_trans hb.size (by simp)) ?_
  · intro j u hu
    have hj : j < news.length := (List.getElem?_eq_some_iff.1 hu).1
    rw [add_plain, Nat.zero_add, World.cell?_alloc_at _ _ _ _ rfl]
    simpa using hu
  · intro v' w' hown' hg _
    refine h v' w' hown' ((hb.alloc hb.size _).grown hg (Nat.le_trans hb.size (by simp)) fun q hq => (hown.lt q hq).1)

/-- An append inside a region that draws its order. -/
theorem step_app {P : Program} {ops : Array Oper} {o : Oper} {a : Act} {K : Act → World → Prop} {Q : Exit → Act → World → Prop} {E : Prop} (hgd : o.guard = none) (s x : Operand) (t : TypeId)
    (ho : o.op = .call { callee := .builtin .append, args := #[s, x], argTypes := #[t, t] })
    (w0 : World) {wr : World} (e : TypeId) (i : TypeInfo) (z : Value) (size bytes : Nat) (ht : P.underlying t = some (.slice e)) (hi : P.info? e = some i) (hz : i.zero = some z)
    (hsize : i.size = size) (hby : i.bytes = bytes) (hzs : z.cells.size = size) (hsz : 0 < size) (hb64 : bytes ≤ 64)
    {v : Value} {n : Nat} {xs : List Value} (hown : wr.ownsRow w0.heap.size e size v n xs) (hb : Below w0.heap.size w0 wr) (hs : a.eval s = v)
    (ad : Addr) (m c : Nat) (news : List Value) (hx : a.eval x = .slice (some ad) m c) (hl : news.length = m * size) (hnews : ∀ j u, news[j]? = some u → wr.cell? (ad.add j) = some u) (h1 : ∀ u ∈ news, u.oneCell' = true)
    (hN : n + m ≤ 1000000000)
    (h : ∀ v' w', w'.ownsRow w0.heap.size e size v' (n + m) (xs ++ news) → Below w0.heap.size w0 w' → K (a.put o.dst v') w') :
    if Region.wanted o (yielded ops a.tmps) = true then Oper.wp P o a wr K Q else E := by
  have hw : Region.wanted o (yielded ops a.tmps) = true := by simp [Region.wanted, hgd]
  have hbytes : (n + m) * bytes ≤ 140737488355328 := Nat.le_trans (Nat.mul_le_mul hN hb64) (by decide)
  rw [if_pos hw]
  exact wp_append_own wr s x t ho w0.heap.size e i z size bytes ht hi hz hsize hby hzs hsz v n xs hs hown ad m c news hx hl hnews h1 (by unfold maxLen; omega) hbytes hb.size
    fun v' w' hown' hg _ => h v' w' hown' (hb.grown hg hb.size fun q hq => (hown.lt q hq).1)

/-- Strings, as values. -/
def strs (L : List (List UInt8)) : List Value := L.map fun l => .string ⟨l.toArray⟩
theorem strs_length (L : List (List UInt8)) : (strs L).length = L.length := by unfold strs; simp
theorem strs_nil : strs [] = [] := rfl
theorem strs_append (L M : List (List UInt8)) : strs (L ++ M) = strs L ++ strs M := by unfold strs; simp
theorem strs_one (l : List UInt8) : strs [l] = [.string ⟨l.toArray⟩] := rfl
theorem strs_get {L : List (List UInt8)} {j : Nat} (h : j < L.length) : (strs L)[j]? = some (.string ⟨(L[j]).toArray⟩) := by unfold strs; simp [h]
theorem strs_cells (L : List (List UInt8)) : ∀ u ∈ strs L, u.oneCell' = true := by
  unfold strs; intro u hu
  obtain ⟨l, _, rfl⟩ := List.mem_map.1 hu
  rfl
theorem strs_of (L : List ByteArray) : L.map Value.string = strs (L.map (·.data.toList)) := by
  unfold strs; rw [List.map_map]; congr 1
theorem bytes_of (s : ByteArray) : ∃ l : List UInt8, s = ⟨l.toArray⟩ := ⟨s.data.toList, (Lib.mk_data s).symm⟩
end Go.Proofs.YtlojeeakjgalpaaDoor
