/- The frame of layer 11, with the library's cheats for the left shift. -/
import Derived.Deep.Slices
import Derived.Deep.Fields
import Derived.Test.YtmhgacgneckboaaGreatDoorQF
import Derived.Test.YtmhgacgneckboaaGreatDoorQx
namespace Go.Proofs.YtmhgacgneckboaaGreatDoor
open Go Go.ChangeShapes Go.WideShapes Go.ChangeAt Go.RowKit Go.Deep Dcp
/-- What the walks of layer 11 are told where they print any float. -/
structure EnvM (w : World) : Prop where
  f : EnvF w
  l : EnvL w
theorem EnvM.below {w w' : World} (h : EnvM w) (hb : Below w.heap.size w w') : EnvM w' := ⟨h.f.below hb, h.l.below hb⟩
theorem gCheat : Tryz.prog.globalNamed "internal/strconv.leftcheats" = some 9 := by kernel_rfl
theorem cheat_row {k : Nat} (hk : k < 61) : (Go.Pinned.cheatRows.map fun x => (DataW.agg [.lit (.int .i64 x.1), .lit (.string x.2)] : DataW Unit))[k]? = some (.agg [.lit (.int .i64 (lcD k)), .lit (.string (lcS k))]) := by
  have h1 : Go.Pinned.cheatRows.length = 61 := by decide +kernel
  rw [List.getElem?_map, List.getElem?_eq_getElem (by omega)]
  unfold lcD lcS
  rw [List.getD_eq_getElem?_getD, List.getElem?_eq_getElem (by omega)]
  rfl
theorem cheat_cells {H : Type} {enc : TypeId × Value → H} {P : Program} {w : World} {base : Nat} {sp : Nat → Bool} {held : Bool} {n : Nat} {e : TypeId} {f0 f1 : Field} {cs : List Value} {p : List MemPlace} {a : Int} {s : List UInt8}
    (he : P.underlying e = some (.struct #[f0, f1])) (o0 : f0.offset = 0) (o1 : f1.offset = 1) (c0 : P.cellsOf f0.type = 1) (c1 : P.cellsOf f1.type = 1)
    (u0 : P.underlying f0.type = some (.int .i64)) (u1 : P.underlying f1.type = some .string)
    (h : DataW.trod enc P w base sp held n e cs = some (.agg [.lit (.int .i64 a), .lit (.string s)], p)) : cs[0]? = some (.int .i64 a) ∧ cs[1]? = some (.string ⟨s.toArray⟩) := by
  obtain ⟨ys, k, -, hy, hyl, hyl2, hf⟩ := DataW.trod_struct he h
  have hys : ys.map (·.1) = [.lit (.int .i64 a), .lit (.string s)] := by
    have := congrArg Prod.fst hy
    injection this with this
    exact this.symm
  have g0 := hf 0 f0 rfl
  have g1 := hf 1 f1 rfl
  have hl2 : ys.length = 2 := hyl2
  rw [o0, c0, List.getElem?_eq_getElem (by omega)] at g0
  rw [o1, c1, List.getElem?_eq_getElem (by omega)] at g1
  obtain ⟨z0, e0, x0, -⟩ := DataW.trod_int u0 g0
  obtain ⟨z1, e1, x1, -⟩ := DataW.trod_string u1 g1
  have v0 : z0 = a := by
    have h1 := congrArg (·[0]?) hys
    simp only [List.getElem?_map, List.getElem?_cons_zero] at h1
    rw [List.getElem?_eq_getElem (by omega)] at h1
    simp only [Option.map_some, Option.some.injEq] at h1
    rw [x0] at h1
    injection h1 with h1; injection h1
  have v1 : z1.data.toList = s := by
    have h1 := congrArg (·[1]?) hys
    simp only [List.getElem?_map, List.getElem?_cons_succ, List.getElem?_cons_zero] at h1
    rw [List.getElem?_eq_getElem (by omega)] at h1
    simp only [Option.map_some, Option.some.injEq] at h1
    rw [x1] at h1
    injection h1 with h1; injection h1
  rw [v0] at e0
  have k0 := congrArg (·[0]?) e0
  have k1 := congrArg (·[0]?) e1
  simp only [List.getElem?_take, List.getElem?_drop, List.getElem?_cons_zero] at k0 k1
  constructor
  · simpa using k0
  · have : (⟨s.toArray⟩ : ByteArray) = z1 := by rw [← v1]
    rw [this]; simpa using k1
theorem cheats_of {base fuel : Nat} {sp : Nat → Bool} {held : Bool} {enc : TypeId × Value → Unit} {W : World} {cs : List Value} {p : List MemPlace} (hd : DataW.trod enc Tryz.prog W base sp held fuel 169 cs = some (Go.Pinned.leftcheats, p)) :
    ∃ T o cap : Nat, cs = [.slice (some ⟨T, o, none⟩) 61 cap] ∧ ∀ k, 1 ≤ k → k ≤ 60 → W.cell? ⟨T, o + k * 2, none⟩ = some (.int .i64 (lcD k)) ∧ W.cell? ⟨T, o + k * 2 + 1, none⟩ = some (.string ⟨(lcS k).toArray⟩) := by
  have ht : Tryz.prog.underlying 169 = some (.slice 168) := Tryz.underlying169
  rcases open_slice ht hd with ⟨-, hx⟩ | ⟨a, len, cap, m, n, D, Pl, rfl, -, hl, hm, hmm, hx, hi⟩
  · injection hx with h1 h2
    cases h1
  · have hrow : Go.Pinned.leftcheats = .slice ((List.range len).map D) ((List.range (m - len)).map fun j => D (len + j)) := congrArg Prod.fst hx
    have hrows : (Go.Pinned.cheatRows.map fun x => (DataW.agg [.lit (.int .i64 x.1), .lit (.string x.2)] : DataW Unit)) = (List.range len).map D := by
      unfold Go.Pinned.leftcheats at hrow
      injection hrow
    have hlen : len = 61 := by
      have := congrArg List.length hrows
      rw [List.length_map, List.length_map, List.length_range] at this
      have h1 : Go.Pinned.cheatRows.length = 61 := by decide +kernel
      omega
    subst hlen
    have hm61 : 61 ≤ m := by rw [hmm]; split <;> omega
    have each : ∀ k, k < 61 → W.cell? ((a.add (k * 2)).add 0) = some (.int .i64 (lcD k)) ∧ W.cell? ((a.add (k * 2)).add 1) = some (.string ⟨(lcS k).toArray⟩) := fun k hk => by
      have hDk : D k = .agg [.lit (.int .i64 (lcD k)), .lit (.string (lcS k))] := by
        have h1 := cheat_row hk
        rw [hrows, List.getElem?_map, List.getElem?_range hk] at h1
        injection h1
      obtain ⟨cs', hc, htr⟩ := hi k (by omega)
      have hC : Tryz.prog.cellsOf 168 = 2 := by kernel_rfl
      obtain ⟨-, hl1, hat⟩ := World.cells?_some hc
      rw [hDk] at htr
      obtain ⟨k0, k1⟩ := cheat_cells Tryz.underlying168 rfl rfl (by kernel_rfl) (by kernel_rfl) Tryz.underlying3 Tryz.underlying9 htr
      rw [hC] at hat
      exact ⟨(hat 0 (by omega)).trans k0, (hat 1 (by omega)).trans k1⟩
    obtain ⟨T, o, sp⟩ := a
    obtain rfl : sp = none := World.cell?_spot (each 0 (by omega)).1
    refine ⟨T, o, cap, rfl, fun k _ hk => ?_⟩
    obtain ⟨g1, g2⟩ := each k (by omega)
    rw [add_plain, add_plain] at g1 g2
    exact ⟨g1, g2⟩
theorem envM_of {W : World} (hsh : W.ShapedOpen Tryz.prog) (hL : laidMetH Tryz.prog seatLaid W) : EnvM W := by
  refine ⟨env_of hsh hL, ?_⟩
  rw [seat_plain] at hL
  have h7 := hL.tail.tail.tail.tail.tail.tail.tail
  obtain ⟨ps, ⟨g', t', cs, fuel, p, q, hg', ht', hvar, hd, _, _⟩, _⟩ := h7
  obtain rfl := Option.some.inj (gCheat.symm.trans hg')
  obtain rfl : t' = 169 := Option.some.inj (ht'.symm.trans (by kernel_rfl))
  obtain ⟨T, o, cap, hcs, hrow⟩ := cheats_of hd
  refine ⟨⟨T, o, cap, ?_, hrow⟩⟩
  have := World.var?_cell gCheat hvar 0
  rw [this, ← Array.getElem?_toList, hcs]; rfl
end Go.Proofs.YtmhgacgneckboaaGreatDoor
