/- Words for memory: lists whose elements begin with a path (a slice of strings of its own). Walks: schema.rules; slices.EqualFunc at schema.fits, schema.match. -/
import Derived.Test.YtjdknhalcpkeaaaGreatDoorJ06
import Derived.Test.YtjdknhalcpkeaaaGreatDoorJ15
import Derived.Test.YtjdknhalcpkeaaaGreatDoorJ10
namespace Go.Proofs.YtjdknhalcpkeaaaGreatDoor
open Go Go.RowKit Tre
def Pv (w : World) (v : Value) (P : List ByteArray) : Prop :=
 ∃ b c, v = .slice (some ⟨b, 0, none⟩) P.length c ∧ P.length ≤ c ∧ c ≤ maxLen ∧ 0 < P.length ∧ Rd w 1 (some ⟨b, 0, none⟩) P.length (sv P)
theorem Pv.below {w w' : World} {v : Value} {P : List ByteArray} (h : Pv w v P) (hb : Below w.heap.size w w') : Pv w' v P := by
 obtain ⟨b, c, h1, h2, h3, h4, h5⟩ := h
 exact ⟨b, c, h1, h2, h3, h4, h5.below hb⟩
theorem Pv.head {w : World} {v : Value} {P : List ByteArray} (h : Pv w v P) : ∃ b c s, v = .slice (some ⟨b, 0, none⟩) P.length c ∧ b < w.heap.size ∧ w.cell? ⟨b, 0, none⟩ = some (.string s) := by
 obtain ⟨b, c, h1, -, -, h4, h5⟩ := h
 obtain ⟨ad, e, hb, hx⟩ := h5.2 h4
 injection e with e
 subst e
 have := hx 0 _ (sv_get h4)
 rw [add_plain] at this
 exact ⟨b, c, P[0], h1, hb, this⟩
theorem Pv.slice {w : World} {v : Value} {P : List ByteArray} (h : Pv w v P) : ∃ b c, v = .slice (some ⟨b, 0, none⟩) P.length c ∧ P.length ≤ c ∧ c ≤ maxLen ∧ 0 < P.length ∧ b < w.heap.size ∧ Pv w (.slice (some ⟨b, 0, none⟩) P.length c) P ∧ Rd w 1 (some ⟨b, 0, none⟩) P.length (sv P) := by
 obtain ⟨b', c', s, h1, hb, -⟩ := h.head
 obtain ⟨b, c, rfl, h2, h3, h4, h5⟩ := h
 injection h1 with e
 injection e with e
 injection e with e
 subst e
 exact ⟨b, c, rfl, h2, h3, h4, hb, ⟨b, c, rfl, h2, h3, h4, h5⟩, h5⟩
theorem Pv.rd {w : World} {b c : Nat} {P : List ByteArray} (h : Pv w (.slice (some ⟨b, 0, none⟩) P.length c) P) : Rd w 1 (some ⟨b, 0, none⟩) P.length (sv P) ∧ P.length ≤ c ∧ c ≤ maxLen ∧ 0 < P.length ∧ b < w.heap.size := by
 obtain ⟨b', c', e, h1, h2, h3, h4, -, h5⟩ := h.slice
 injection e with e1 _ e2
 injection e1 with e1
 injection e1 with e1
 subst e1 e2
 exact ⟨h5, h1, h2, h3, h4⟩
theorem Pv.one {w : World} {v : Value} {P : List ByteArray} (h : Pv w v P) : v.oneCell' = true := by
 obtain ⟨b, c, rfl, -⟩ := h; rfl
theorem Pv.kept {w w' : World} {v : Value} {P : List ByteArray} {row : Option Nat} (h : Pv w v P) (hg : w.grownBy w' row) (hne : ∀ b c, v = .slice (some ⟨b, 0, none⟩) P.length c → some b ≠ row) : Pv w' v P := by
 obtain ⟨b, c, h1, h2, h3, h4, h5⟩ := h
 refine ⟨b, c, h1, h2, h3, h4, h5.1, fun hn => ?_⟩
 obtain ⟨ad, e, hb, hx⟩ := h5.2 hn
 injection e with e
 subst e
 refine ⟨_, rfl, Nat.lt_of_lt_of_le hb hg.size, fun j u hu => ?_⟩
 exact hg.cell (hx j u hu) (by rw [add_block]; exact hne b c h1)
abbrev Item := List ByteArray × List Value
def icells : List Value → List Item → List Value
 | v :: vs, x :: xs => v :: x.2 ++ icells vs xs
 | _, _ => []
theorem icells_append : ∀ {vs us : List Value} {xs ys : List Item}, vs.length = xs.length → icells (vs ++ us) (xs ++ ys) = icells vs xs ++ icells us ys
 | [], _, [], _, _ => rfl
 | v :: vs, us, x :: xs, ys, h => by
   simp only [List.cons_append, icells]
   rw [icells_append (by simpa using h), List.append_assoc]
 | [], _, _ :: _, _, h => by cases h
 | _ :: _, _, [], _, h => by cases h
theorem icells_one (v : Value) (x : Item) : icells [v] [x] = v :: x.2 := by simp [icells]
theorem icells_get {k : Nat} : ∀ {vs : List Value} {xs : List Item} (_ : vs.length = xs.length) (_ : ∀ x ∈ xs, x.2.length + 1 = k) (i : Nat) (hi : i < xs.length) (hv : i < vs.length) (j : Nat) (_ : j < k), (icells vs xs)[i * k + j]? = (vs[i] :: xs[i].2)[j]?
 | [], [], _, _, i, hi, _, _, _ => absurd hi (by simp)
 | v :: vs, x :: xs, h, hk, i, hi, hv, j, hj => by
   have h1 := hk x (by simp)
   cases i with
   | zero =>
     simp only [icells, List.getElem_cons_zero]
     rw [List.getElem?_append_left (by simp; omega)]; simp
   | succ i =>
     simp only [icells, List.getElem_cons_succ]
     rw [List.getElem?_append_right (by simp [Nat.add_mul]; omega)]
     rw [← icells_get (vs := vs) (xs := xs) (by simpa using h) (fun y hy => hk y (by simp [hy])) i (by simpa using hi) (by simpa using hv) j hj]
     congr 1
     simp [Nat.add_mul]; omega
 | [], _ :: _, h, _, _, _, _, _, _ => by cases h
 | _ :: _, [], h, _, _, _, _, _, _ => by cases h
theorem icells_cell {vs : List Value} {xs : List Item} (h1 : ∀ v ∈ vs, v.oneCell' = true) (h2 : ∀ x ∈ xs, ∀ u ∈ x.2, u.oneCell' = true) : ∀ u ∈ icells vs xs, u.oneCell' = true := by
 induction vs generalizing xs with
 | nil => intro u hu; simp [icells] at hu
 | cons v vs ih =>
   cases xs with
   | nil => intro u hu; simp [icells] at hu
   | cons x xs =>
     intro u hu
     simp only [icells, List.cons_append, List.mem_cons, List.mem_append] at hu
     rcases hu with rfl | hu | hu
     · exact h1 _ (by simp)
     · exact h2 x (by simp) u hu
     · exact ih (fun v hv => h1 v (by simp [hv])) (fun y hy => h2 y (by simp [hy])) u hu
def Pvs (w : World) (vs : List Value) (xs : List Item) : Prop := vs.length = xs.length ∧ ∀ (i : Nat) (h : i < xs.length) (hv : i < vs.length), Pv w vs[i] xs[i].1
theorem Pvs.below {w w' : World} {vs : List Value} {xs : List Item} (h : Pvs w vs xs) (hb : Below w.heap.size w w') : Pvs w' vs xs := ⟨h.1, fun i hi hv => (h.2 i hi hv).below hb⟩
theorem Pvs.append {w : World} {vs us : List Value} {xs ys : List Item} (h : Pvs w vs xs) (k : Pvs w us ys) : Pvs w (vs ++ us) (xs ++ ys) := by
 refine ⟨by rw [List.length_append, List.length_append, h.1, k.1], fun i hi hv => ?_⟩
 by_cases hlt : i < xs.length
 · rw [List.getElem_append_left hlt, List.getElem_append_left (by rw [h.1]; exact hlt)]
   exact h.2 i hlt _
 · have hlv : vs.length = xs.length := h.1
   have hi2 : i - xs.length < ys.length := by rw [List.length_append] at hi; omega
   have e1 : (xs ++ ys)[i] = ys[i - xs.length] := List.getElem_append_right (by omega)
   have e2 : (vs ++ us)[i] = us[i - vs.length]'(by rw [k.1]; omega) := List.getElem_append_right (by omega)
   rw [e1, e2]
   have := k.2 (i - xs.length) hi2 (by rw [k.1]; exact hi2)
   simpa only [h.1] using this
theorem Pvs.one {w : World} {vs : List Value} {xs : List Item} (h : Pvs w vs xs) : ∀ v ∈ vs, v.oneCell' = true := by
 intro v hv
 obtain ⟨i, hi, rfl⟩ := List.getElem_of_mem hv
 exact (h.2 i (by rw [← h.1]; exact hi) hi).one
theorem Pvs.nil {w : World} : Pvs w [] [] := ⟨rfl, fun i h => absurd h (by simp)⟩
theorem Pvs.single {w : World} {v : Value} {x : Item} (h : Pv w v x.1) : Pvs w [v] [x] := by
 refine ⟨rfl, fun i hi _ => ?_⟩
 obtain rfl : i = 0 := by simpa using hi
 exact h
def Pd (w : World) (k : Nat) (A : Option Addr) (xs : List Item) : Prop := (∀ x ∈ xs, x.2.length + 1 = k) ∧ ∃ vs, Pvs w vs xs ∧ Rd w k A xs.length (icells vs xs)
theorem Pd.below {w w' : World} {k : Nat} {A : Option Addr} {xs : List Item} (h : Pd w k A xs) (hb : Below w.heap.size w w') : Pd w' k A xs := by
 obtain ⟨h1, vs, h2, h3⟩ := h
 exact ⟨h1, vs, h2.below hb, h3.below hb⟩
def Pl (w : World) (base : Nat) (T : TypeId) (k : Nat) (v : Value) (xs : List Item) : Prop :=
 (∀ x ∈ xs, x.2.length + 1 = k) ∧ (xs = [] → v = .slice none 0 0) ∧ ∃ vs, Pvs w vs xs ∧ w.ownsRow base T k v xs.length (icells vs xs)
theorem Pl.nil (w : World) (base : Nat) (T : TypeId) (k : Nat) : Pl w base T k (.slice none 0 0) [] := ⟨by simp, fun _ => rfl, [], Pvs.nil, World.ownsRow_nil _ _ _ _⟩
theorem Pl.below {w w' : World} {base : Nat} {T : TypeId} {k : Nat} {v : Value} {xs : List Item} (h : Pl w base T k v xs) (hb : Below w.heap.size w w') : Pl w' base T k v xs := by
 obtain ⟨h1, h2, vs, h3, h4⟩ := h
 exact ⟨h1, h2, vs, h3.below hb, own_below h4 hb⟩
theorem Pl.base {w : World} {base b2 : Nat} {T : TypeId} {k : Nat} {v : Value} {xs : List Item} (h : Pl w base T k v xs) (hb : b2 ≤ base) : Pl w b2 T k v xs := by
 obtain ⟨h1, h2, vs, h3, h4⟩ := h
 exact ⟨h1, h2, vs, h3, own_base h4 hb⟩
theorem Pl.read {w : World} {base : Nat} {T : TypeId} {k : Nat} {v : Value} {xs : List Item} (h : Pl w base T k v xs) : ∃ A c, v = .slice A xs.length c ∧ xs.length ≤ c ∧ c ≤ maxLen ∧ Pd w k A xs ∧ (A = none → c = 0) := by
 obtain ⟨h1, h2, vs, h3, h4⟩ := h
 obtain ⟨A, c, e, a, b, r, n, -⟩ := own_rd_nil h4
 exact ⟨A, c, e, a, b, ⟨h1, vs, h3, r⟩, n⟩
theorem own_apart {w : World} {base : Nat} {T : TypeId} {k : Nat} {v : Value} {xs : List Item} (h : Pl w base T k v xs) (_hk : 0 < k) {u : Value} {P : List ByteArray} (hp : Pv w u P) : ∀ b c, u = .slice (some ⟨b, 0, none⟩) P.length c → some b ≠ v.ownBlock := by
 intro b c hu e
 obtain ⟨h1, h2, vs, h3, h4⟩ := h
 obtain ⟨b', c', s, hu', hb, hs⟩ := hp.head
 rw [hu] at hu'
 injection hu' with hA
 injection hA with hA
 injection hA with hA
 subst hA
 rcases xs with _ | ⟨x, xs⟩
 · rw [h2 rfl] at e; cases e
 · cases vs with
   | nil => exact absurd h3.1 (by simp)
   | cons v0 vs =>
     have hx : (icells (v0 :: vs) (x :: xs))[0]? = some v0 := by simp [icells]
     have hc := h4.cells e.symm 0 v0 hx
     rw [add_plain, hs] at hc
     obtain ⟨b2, c2, h5, -⟩ := h3.2 0 (by simp) (by simp)
     simp only [List.getElem_cons_zero] at h5
     rw [h5] at hc
     cases hc
theorem Pl.grow {w w' : World} {base : Nat} {T : TypeId} {k : Nat} {v v' : Value} {xs ys : List Item} {us : List Value} (h : Pl w base T k v xs) (hk : 0 < k) (hys : ∀ x ∈ ys, x.2.length + 1 = k) (hu : Pvs w us ys)
 (hown : ∀ vs, Pvs w vs xs → w.ownsRow base T k v xs.length (icells vs xs) → w'.ownsRow base T k v' (xs.length + ys.length) (icells vs xs ++ icells us ys)) (hg : w.grownBy w' v.ownBlock) (hnil : v' = .slice none 0 0 ↔ v = .slice none 0 0 ∧ ys.length = 0) :
 Pl w' base T k v' (xs ++ ys) := by
 have hap := fun (u : Value) (P : List ByteArray) (hp : Pv w u P) => own_apart h hk hp
 obtain ⟨h1, h2, vs, h3, h4⟩ := h
 refine ⟨fun x hx => ?_, fun e => ?_, vs ++ us, ?_, ?_⟩
 · rcases List.mem_append.1 hx with hx | hx
   · exact h1 x hx
   · exact hys x hx
 · obtain ⟨rfl, rfl⟩ := List.append_eq_nil_iff.1 e
   exact hnil.2 ⟨h2 rfl, rfl⟩
 · have e1 : Pvs w' vs xs := ⟨h3.1, fun i hi hv => (h3.2 i hi hv).kept hg (hap _ _ (h3.2 i hi hv))⟩
   have e2 : Pvs w' us ys := ⟨hu.1, fun i hi hv => (hu.2 i hi hv).kept hg (hap _ _ (hu.2 i hi hv))⟩
   exact e1.append e2
 · rw [icells_append h3.1, List.length_append]
   exact hown vs h3 h4
theorem app_item {P : Program} {ops : Array Oper} {rest : List Oper} {o : Oper} {a : Act} {Q : Exit → Act → World → Prop} (hgd : o.guard = none) (s x : Operand) (t : TypeId)
 (ho : o.op = .call { callee := .builtin .append, args := #[s, x], argTypes := #[t, t] })
 (w0 wr : World) (e : TypeId) (i : TypeInfo) (z : Value) (k bytes : Nat) (ht : P.underlying t = some (.slice e)) (hi : P.info? e = some i) (hz : i.zero = some z)
 (hsize : i.size = k) (hby : i.bytes = bytes) (hzs : z.cells.size = k) (hsz : 0 < k) (hb64 : bytes ≤ 64)
 {v : Value} {xs : List Item} (hown : Pl wr w0.heap.size e k v xs) (hb : Below w0.heap.size w0 wr) (hs : a.eval s = v)
 (u : Value) (y : Item) (hy : y.2.length + 1 = k) (hy1 : ∀ c ∈ y.2, c.oneCell' = true) (hu : Pv wr u y.1) (hx : a.eval x = .slice (some ⟨wr.heap.size, 0, none⟩) 1 1) (hN : xs.length + 1 ≤ 1000000000)
 (h : ∀ v' w', Pl w' w0.heap.size e k v' (xs ++ [y]) → Below w0.heap.size w0 w' → wpList P ops Q rest (a.put o.dst v') w') :
 wpList P ops Q (o :: rest) a (wr.alloc (.cells (u :: y.2).toArray e)) := by
 have hbytes : (xs.length + 1) * bytes ≤ 140737488355328 := Nat.le_trans (Nat.mul_le_mul hN hb64) (by decide)
 have hba : Below wr.heap.size wr (wr.alloc (.cells (u :: y.2).toArray e)) := (Below.refl _ _).alloc (Nat.le_refl _) _
 have hP := hown.below hba
 obtain ⟨-, -, vs, h3, h4⟩ := hP
 refine wpList_append_own _ hgd s x t ho w0.heap.size e i z k bytes ht hi hz hsize hby hzs hsz v xs.length (icells vs xs) hs h4 ⟨wr.heap.size, 0, none⟩ 1 1 (u :: y.2) hx (by simp; omega) ?_ ?_ (by unfold maxLen; omega) hbytes (Nat.le_trans hb.size (by simp)) ?_
 · intro j c hc
   rw [add_plain, Nat.zero_add, World.cell?_alloc_at _ _ _ _ rfl]
   simpa using hc
 · intro c hc
   rcases List.mem_cons.1 hc with rfl | hc
   · exact hu.one
   · exact hy1 c hc
 · intro v' w' hown' hg hnil
   refine h v' w' ?_ ((hb.alloc hb.size _).grown hg (Nat.le_trans hb.size (by simp)) fun q hq => (h4.lt q hq).1)
   have hP := hown.below hba
   refine ⟨fun c hc => ?_, fun e => by simp at e, vs ++ [u], ?_, ?_⟩
   · rcases List.mem_append.1 hc with hc | hc
     · exact hown.1 c hc
     · rw [List.mem_singleton.1 hc]; exact hy
   · have e1 : Pvs w' vs xs := ⟨h3.1, fun i hi hv => (h3.2 i hi hv).kept hg (own_apart hP hsz (h3.2 i hi hv))⟩
     exact e1.append (Pvs.single ((hu.below hba).kept hg (own_apart hP hsz (hu.below hba))))
   · rw [icells_append h3.1, icells_one, List.length_append]
     exact hown'
theorem app_items {P : Program} {ops : Array Oper} {rest : List Oper} {o : Oper} {a : Act} {Q : Exit → Act → World → Prop} (hgd : o.guard = none) (s x : Operand) (t : TypeId)
 (ho : o.op = .call { callee := .builtin .append, args := #[s, x], argTypes := #[t, t] })
 (w0 wr : World) (e : TypeId) (i : TypeInfo) (z : Value) (k bytes : Nat) (ht : P.underlying t = some (.slice e)) (hi : P.info? e = some i) (hz : i.zero = some z)
 (hsize : i.size = k) (hby : i.bytes = bytes) (hzs : z.cells.size = k) (hsz : 0 < k) (hb64 : bytes ≤ 64)
 {v : Value} {xs : List Item} (hown : Pl wr w0.heap.size e k v xs) (hb : Below w0.heap.size w0 wr) (hs : a.eval s = v)
 (A : Option Addr) (c : Nat) (ys : List Item) (hx : a.eval x = .slice A ys.length c) (hR : Pd wr k A ys) (hnil : A = none → c = 0) (h1 : ∀ y ∈ ys, ∀ u ∈ y.2, u.oneCell' = true)
 (hN : xs.length + ys.length ≤ 1000000000)
 (h : ∀ v' w', Pl w' w0.heap.size e k v' (xs ++ ys) → Below w0.heap.size w0 w' → wpList P ops Q rest (a.put o.dst v') w') :
 wpList P ops Q (o :: rest) a wr := by
 have hbytes : (xs.length + ys.length) * bytes ≤ 140737488355328 := Nat.le_trans (Nat.mul_le_mul hN hb64) (by decide)
 obtain ⟨hk, us, hu, hr⟩ := hR
 have hown0 := hown
 obtain ⟨hx1, hx2, vs, h3, h4⟩ := hown
 rcases A with _ | ad
 · have hm : ys.length = 0 := by
    rcases Nat.eq_zero_or_pos ys.length with h0 | h0
    · exact h0
    · obtain ⟨ad, h, -⟩ := hr.2 h0
      cases h
   have hy0 : ys = [] := List.eq_nil_of_length_eq_zero hm
   subst hy0
   obtain rfl := hnil rfl
   exact wpList_append_own_none hgd s x t ho w0.heap.size e i k ht hi v xs.length (icells vs xs) hs h4 hx (h v wr (by simpa using hown0) hb)
 · refine wpList_append_own _ hgd s x t ho w0.heap.size e i z k bytes ht hi hz hsize hby hzs hsz v xs.length (icells vs xs) hs h4 ad ys.length c (icells us ys) hx hr.1 ?_ (icells_cell hu.one h1) (by unfold maxLen; omega) hbytes hb.size ?_
   · intro j u hu
     obtain ⟨ad', e', -, hc⟩ := hr.cell hu
     injection e' with e'
     subst e'
     exact hc
   · intro v' w' hown' hg hn
     refine h v' w' ?_ (hb.grown hg hb.size fun q hq => (h4.lt q hq).1)
     refine ⟨fun x hx => ?_, fun e => ?_, vs ++ us, ?_, ?_⟩
     · rcases List.mem_append.1 hx with hx | hx
       · exact hx1 x hx
       · exact hk x hx
     · obtain ⟨rfl, rfl⟩ := List.append_eq_nil_iff.1 e
       exact hn.2 ⟨hx2 rfl, rfl⟩
     · have e1 : Pvs w' vs xs := ⟨h3.1, fun i hi hv => (h3.2 i hi hv).kept hg (own_apart hown0 hsz (h3.2 i hi hv))⟩
       have e2 : Pvs w' us ys := ⟨hu.1, fun i hi hv => (hu.2 i hi hv).kept hg (own_apart hown0 hsz (hu.2 i hi hv))⟩
       exact e1.append e2
     · rw [icells_append h3.1, List.length_append]
       exact hown'
theorem Pd.at {w : World} {k : Nat} {A : Option Addr} {xs : List Item} (h : Pd w k A xs) {i : Nat} (hi : i < xs.length) :
 ∃ B O v, A = some ⟨B, O, none⟩ ∧ B < w.heap.size ∧ (⟨B, O, none⟩ : Addr).add (i * k) = ⟨B, O + i * k, none⟩ ∧ Pv w v xs[i].1 ∧ w.cell? ⟨B, O + i * k, none⟩ = some v ∧ ∀ j u, xs[i].2[j]? = some u → w.cell? ⟨B, O + i * k + (j + 1), none⟩ = some u := by
 obtain ⟨hk, vs, hv, hr⟩ := h
 obtain ⟨ad, e, hb, hx⟩ := hr.2 (by omega)
 have hkk := hk xs[i] (List.getElem_mem hi)
 have hiv : i < vs.length := by rw [hv.1]; exact hi
 have g := icells_get hv.1 hk i hi hiv
 have h0 := hx (i * k + 0) vs[i] (by rw [g 0 (by omega)]; rfl)
 have hs : ad.spot = none := by
  have := hx 0 _ (by
   have := icells_get hv.1 hk 0 (by omega) (by omega) 0 (by have := hk xs[0] (List.getElem_mem _); omega)
   rw [Nat.zero_mul, Nat.zero_add] at this
   rw [this]; rfl)
  exact World.cell?_spot this
 obtain ⟨B, O, sp⟩ := ad
 obtain rfl : sp = none := hs
 rw [add_plain] at h0
 refine ⟨B, O, vs[i], e, hb, add_plain _ _ _, hv.2 i hi hiv, h0, fun j u hu => ?_⟩
 have hj : j < xs[i].2.length := (List.getElem?_eq_some_iff.1 hu).1
 have := hx (i * k + (j + 1)) u (by rw [g (j + 1) (by omega)]; exact hu)
 rw [add_plain, ← Nat.add_assoc] at this
 exact this
end Go.Proofs.YtjdknhalcpkeaaaGreatDoor
namespace Sch
open Go Go.Lib Adr Mtr Tre
def bw (l : List UInt8) : ByteArray := ⟨l.toArray⟩
def ruleFrom (s : List UInt8) : Rule := ⟨(parts 32 (trimRightS s [43, 33])).map bw, !(decide (trimRightS s [43, 33] = s)), hasSuffix s [33]⟩
def allText : List UInt8 := [104, 111, 115, 116, 115, 124, 104, 111, 115, 116, 115, 32, 36, 110, 97, 109, 101, 124, 104, 111, 115, 116, 115, 32, 36, 110, 97, 109, 101, 32, 105, 112, 33, 124, 104, 111, 115, 116, 115, 32, 36, 110, 97, 109, 101, 32, 105, 112, 32, 36, 105, 112, 124, 104, 111, 115, 116, 115, 32, 36, 110, 97, 109, 101, 32, 109, 97, 99, 43, 124, 104, 111, 115, 116, 115, 32, 36, 110, 97, 109, 101, 32, 109, 97, 99, 32, 36, 109, 97, 99, 124, 104, 111, 115, 116, 115, 32, 36, 110, 97, 109, 101, 32, 118, 110, 105, 115, 124, 104, 111, 115, 116, 115, 32, 36, 110, 97, 109, 101, 32, 118, 110, 105, 115, 32, 36, 118, 110, 105, 124, 118, 110, 105, 115, 124, 118, 110, 105, 115, 32, 36, 118, 110, 105, 124, 118, 110, 105, 115, 32, 36, 118, 110, 105, 32, 115, 117, 98, 110, 101, 116, 33, 124, 118, 110, 105, 115, 32, 36, 118, 110, 105, 32, 115, 117, 98, 110, 101, 116, 32, 36, 112, 114, 101, 102, 105, 120, 124, 98, 105, 110, 100, 105, 110, 103, 115, 124, 98, 105, 110, 100, 105, 110, 103, 115, 32, 36, 105, 112, 124, 98, 105, 110, 100, 105, 110, 103, 115, 32, 36, 105, 112, 32, 104, 111, 115, 116, 33, 124, 98, 105, 110, 100, 105, 110, 103, 115, 32, 36, 105, 112, 32, 104, 111, 115, 116, 32, 36, 110, 97, 109, 101, 124, 98, 105, 110, 100, 105, 110, 103, 115, 32, 36, 105, 112, 32, 109, 97, 99, 33, 124, 98, 105, 110, 100, 105, 110, 103, 115, 32, 36, 105, 112, 32, 109, 97, 99, 32, 36, 109, 97, 99, 124, 98, 105, 110, 100, 105, 110, 103, 115, 32, 36, 105, 112, 32, 118, 110, 105, 33, 124, 98, 105, 110, 100, 105, 110, 103, 115, 32, 36, 105, 112, 32, 118, 110, 105, 32, 36, 118, 110, 105, 124, 114, 111, 117, 116, 101, 115, 124, 114, 111, 117, 116, 101, 115, 32, 36, 112, 114, 101, 102, 105, 120, 124, 114, 111, 117, 116, 101, 115, 32, 36, 112, 114, 101, 102, 105, 120, 32, 118, 105, 97, 33, 124, 114, 111, 117, 116, 101, 115, 32, 36, 112, 114, 101, 102, 105, 120, 32, 118, 105, 97, 32, 36, 110, 97, 109, 101, 124, 114, 111, 117, 116, 101, 115, 32, 36, 112, 114, 101, 102, 105, 120, 32, 109, 101, 116, 114, 105, 99, 43, 124, 114, 111, 117, 116, 101, 115, 32, 36, 112, 114, 101, 102, 105, 120, 32, 109, 101, 116, 114, 105, 99, 32, 36, 109, 101, 116, 114, 105, 99, 124, 112, 111, 108, 105, 99, 121, 124, 112, 111, 108, 105, 99, 121, 32, 36, 110, 117, 109, 124, 112, 111, 108, 105, 99, 121, 32, 36, 110, 117, 109, 32, 97, 99, 116, 105, 111, 110, 33, 124, 112, 111, 108, 105, 99, 121, 32, 36, 110, 117, 109, 32, 97, 99, 116, 105, 111, 110, 32, 36, 97, 99, 116, 105, 111, 110, 124, 112, 111, 108, 105, 99, 121, 32, 36, 110, 117, 109, 32, 102, 114, 111, 109, 43, 124, 112, 111, 108, 105, 99, 121, 32, 36, 110, 117, 109, 32, 102, 114, 111, 109, 32, 36, 112, 114, 101, 102, 105, 120, 124, 112, 111, 108, 105, 99, 121, 32, 36, 110, 117, 109, 32, 116, 111, 43, 124, 112, 111, 108, 105, 99, 121, 32, 36, 110, 117, 109, 32, 116, 111, 32, 36, 112, 114, 101, 102, 105, 120]
theorem rules_from : (parts 124 allText).map ruleFrom = rulesB := by kernel_rfl
theorem rules_len : (parts 124 allText).length = 34 := by decide +kernel
theorem piece_size : ∀ s ∈ parts 124 allText, s.length ≤ 40 := by decide +kernel
def ritem (r : Rule) : List ByteArray × List Value := (r.path, [.bool r.one, .bool r.needed])
def ritems : List (List ByteArray × List Value) := rulesB.map ritem
theorem ritems_len : ritems.length = 34 := by decide +kernel
end Sch
namespace Go.Proofs.YtjdknhalcpkeaaaGreatDoor
open Go Go.RowKit Go.Sort Sch Adr Mtr Tre
theorem sv_bw (L : List (List UInt8)) : sv (L.map bw) = strs L := by unfold sv strs bw; rw [List.map_map]; rfl
theorem split_pv (s : ByteArray) (c : UInt8) (w : World) (hE : Env w) (hs : s.size ≤ 100000000) :
 Calls Tryz.prog 86 #[.string s, .string ⟨#[c]⟩] w fun e w' => (∃ v, e = .returned v ∧ Pv w' v ((Adr.parts c s.data.toList).map bw)) ∧ Below w.heap.size w w' := by
 obtain ⟨m, hm⟩ := hE.mx
 refine (Tryz.strings_Split s ⟨#[c]⟩ m w (by omega) hm (Nat.le_refl 1)).mono fun e w' ⟨he, hw⟩ => ?_
 have hl := Adr.parts_len c s.data.toList
 rw [size_data] at hl
 rw [strs_of, Adr.splitB_parts] at hw
 have hc := Adr.countB_parts c s
 have hle : ((Adr.parts c s.data.toList).map bw).length = (Adr.parts c s.data.toList).length := List.length_map _
 refine ⟨⟨_, he, w.heap.size, (Adr.parts c s.data.toList).length, by rw [hle, hc], by rw [hle]; exact Nat.le_refl _, by unfold maxLen; omega, by rw [hle]; omega, ?_⟩, by rw [hw]; exact (Below.refl _ _).alloc (Nat.le_refl _) _⟩
 rw [hle, sv_bw]
 refine ⟨by rw [strs_length]; omega, fun _ => ⟨_, rfl, by rw [hw]; simp, fun j u hu => ?_⟩⟩
 rw [hw, add_plain, Nat.zero_add, World.cell?_alloc_at _ _ _ _ rfl]
 simpa using hu
theorem two_bools (a b : Bool) : ∀ c ∈ [Value.bool a, Value.bool b], c.oneCell' = true := by
 intro c hc
 simp only [List.mem_cons, List.not_mem_nil, or_false] at hc
 rcases hc with rfl | rfl <;> rfl
theorem info_rule : (Tryz.prog.info? 94).map (fun i => (i.zero, i.size, i.bytes)) = some (some (.agg #[.slice none 0 0, .bool false, .bool false]), 3, 32) := by kernel_rfl
def RulesEnd (w : World) (e : Ending) (w' : World) : Prop := (∃ v, e = .returned v ∧ Pl w' w.heap.size 94 3 v ritems) ∧ Below w.heap.size w w'
set_option maxHeartbeats 4000000 in
set_option maxRecDepth 100000 in
theorem rules_any (w : World) (hE : Env w) : Calls Tryz.prog 55 #[] w (RulesEnd w) := by
 obtain ⟨i0, hi, hz0, hz1, hz2⟩ := info_parts info_rule
 have HS : Hid (Calls Tryz.prog 86 #[.string ⟨allText.toArray⟩, .string ⟨#[124]⟩] w (PartsEnd w 124 allText)) := by
  have := split_any ⟨allText.toArray⟩ 124 w hE (by decide +kernel)
  rw [data_mk] at this; exact this
 have HE := Lib.hid hE
 have hlen := rules_len
 have HSZ := Lib.hid piece_size
 have HRF := Lib.hid rules_from
 clear hE
 go_enter Tryz.func55, Tryz.ntmps55
 go_wp2_with fail
 refine HS.out.mono ?_
 clear HS
 unfold PartsEnd
 generalize Adr.parts 124 allText = PS at *
 rintro e w1 ⟨A, cap, rfl, hc1, hc2, hRd, hb1⟩
 have HR : Hid (Rd w1 1 A (PS.map bw).length (sv (PS.map bw))) := by
  show Rd _ _ _ _ _
  rw [sv_bw, List.length_map]; exact hRd
 unfold maxLen at hc2
 clear hRd
 have HB1 := Lib.hid hb1
 clear hb1
 go_wp2
 go_loopw [1, 7] (fun v vi wr => ∃ k : Nat, k ≤ 34 ∧ vi = .int .i64 k ∧ Hid (Pl wr w1.heap.size 94 3 v ((PS.take k).map fun s => ritem (ruleFrom s))) ∧ Hid (Below w1.heap.size w1 wr)) (fun _ vi _ => 34 - (intOf vi).toNat)
 case atStart => exact ⟨0, Nat.zero_le _, rfl, Pl.nil _ _ _ _, Below.refl _ _⟩
 case round =>
  obtain ⟨k, hk, rfl, HP, HB⟩ := hrel
  by_cases hlt : k < 34
  · have hkl : k < PS.length := by omega
    have hkl2 : k < (PS.map bw).length := by rw [List.length_map]; exact hkl
    obtain ⟨B, O, rfl, hab, hadd, x0⟩ := (HR.out.below HB.out).strAt hkl2
    have hgx : (PS.map bw)[k] = bw PS[k] := List.getElem_map _
    rw [hgx] at x0
    have hps := HSZ.out _ (List.getElem_mem hkl)
    have hst : Hid ((PS.take (k + 1)).map (fun s => ritem (ruleFrom s)) = (PS.take k).map (fun s => ritem (ruleFrom s)) ++ [ritem (ruleFrom PS[k])]) := by
     show _ = _
     rw [List.take_succ_eq_append_getElem hkl, List.map_append]; rfl
    generalize PS[k] = s at *
    have hss : (bw s).size ≤ 40 := by unfold bw; rw [size_mk]; exact hps
    have HT : ∀ W, Hid (Calls Tryz.prog 87 #[.string (bw s), .string ⟨#[43, 33]⟩] W fun e w' => e = .returned (.string (bw (Lib.trimRightS s [43, 33]))) ∧ Below W.heap.size W w') := fun W => by
     have := trimRight_any (bw s) ⟨#[43, 33]⟩ W (by omega) (by decide) (by decide)
     unfold bw at this
     rw [data_mk] at this
     exact this
    have htl : (Lib.trimRightS s [43, 33]).length ≤ 100000000 := by
     have : (Lib.trimRightS s [43, 33]).length ≤ s.length := by
      unfold Lib.trimRightS
      rw [List.length_reverse]
      exact Nat.le_trans (List.dropWhile_suffix _).length_le (by simp)
     omega
    have HX : ∀ W, Env W → Hid (Calls Tryz.prog 86 #[.string (bw (Lib.trimRightS s [43, 33])), .string ⟨#[32]⟩] W fun e w' => (∃ v, e = .returned v ∧ Pv w' v (ruleFrom s).path) ∧ Below W.heap.size W w') := fun W hW => by
     have := split_pv (bw (Lib.trimRightS s [43, 33])) 32 W hW (by unfold bw; rw [size_mk]; exact htl)
     rw [show (bw (Lib.trimRightS s [43, 33])).data.toList = Lib.trimRightS s [43, 33] from data_mk _] at this
     exact this
    have HF : ∀ W, Hid (Calls Tryz.prog 88 #[.string (bw s), .string ⟨#[33]⟩] W fun e w' => e = .returned (.bool (ruleFrom s).needed) ∧ w' = W) := fun W => by
     have := Tryz.strings_HasSuffix (bw s) ⟨#[33]⟩ W (by omega)
     rw [show (bw s).data.toList = s from data_mk _] at this
     exact this
    have HO : Hid ((!((bw (Lib.trimRightS s [43, 33])).toList == (bw s).toList)) = (ruleFrom s).one) := by
     show _ = _
     unfold bw ruleFrom
     rw [Lib.toList_data, Lib.toList_data, data_mk, data_mk]
     show _ = !(decide _)
     rw [Bool.eq_iff_iff]
     simp
    have HRI : Hid (ritem (ruleFrom s) = ((ruleFrom s).path, [.bool (ruleFrom s).one, .bool (ruleFrom s).needed])) := rfl
    generalize ruleFrom s = r at *
    generalize bw (Lib.trimRightS s [43, 33]) = p at *
    generalize bw s = q at *
    clear hgx hkl2 hps
    go_wp2_with fail
    refine (HT _).out.mono ?_
    rintro e w2 ⟨rfl, hb2⟩
    have hb3 := below_step HB.out hb2
    have HP2 := Lib.hid (HP.out.below hb2)
    clear HP HB hb2 HT
    go_wp2_with fail
    refine (HX _ (HE.out.below (below_step HB1.out hb3))).out.mono ?_
    rintro e w3 ⟨⟨v3, rfl, hv3⟩, hb4⟩
    have hb5 := below_step hb3 hb4
    have HP3 := Lib.hid (HP2.out.below hb4)
    obtain ⟨b3, c3, rfl, -, -, -, -, hv3, -⟩ := hv3.slice
    have HV := Lib.hid hv3
    have HB5 := Lib.hid hb5
    clear HP2 hb3 hb4 HX hv3 hb5
    go_wp2_with fail
    refine (HF _).out.mono ?_
    rintro e w4 ⟨rfl, rfl⟩
    rw [HO.out]
    clear HF HO
    have hk2 : ((PS.take k).map (fun s => ritem (ruleFrom s))).length ≤ 34 := by rw [List.length_map, List.length_take]; omega
    generalize (PS.take k).map (fun s => ritem (ruleFrom s)) = its at *
    go_wp2_with (at_builtin; refine app_item rfl _ _ 89 rfl w1 w4 94 i0 _ 3 32 Tryz.underlying89 hi hz0 hz1 hz2 rfl (by decide) (by decide) HP3.out HB5.out rfl (.slice (some ⟨b3, 0, none⟩) r.path.length c3) (r.path, [.bool r.one, .bool r.needed]) rfl (two_bools _ _) HV.out rfl (by omega) ?_; intro v' w' hown' hb')
    go_roundw
    case rel => exact ⟨k + 1, by omega, by go_num, by show Pl _ _ _ _ _ _; rw [hst.out, HRI.out]; exact hown', hb'⟩
    case measure => simp [intOf]; omega
  · obtain rfl : k = 34 := by omega
    have HF : Hid ((PS.take 34).map (fun s => ritem (ruleFrom s)) = ritems) := by
     show _ = _
     rw [← hlen, List.take_length]
     unfold ritems
     rw [← HRF.out, List.map_map]; rfl
    have HPF := HP.out
    rw [HF.out] at HPF
    have HPG := Lib.hid (HPF.base HB1.out.size)
    have HBG := Lib.hid (below_step HB1.out HB.out)
    clear HP HB HPF HF
    go_wp2
    go_ret
    exact ⟨⟨_, rfl, HPG.out⟩, HBG.out⟩
end Go.Proofs.YtjdknhalcpkeaaaGreatDoor
