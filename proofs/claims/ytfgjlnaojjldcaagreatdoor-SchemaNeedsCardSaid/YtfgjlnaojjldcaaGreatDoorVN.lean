/- A parameter that is a slice of lines, or of strings: what lies in its cells, as a list. A walk: SchemaNeeds. -/
import Derived.Deep.Slices
import Derived.Deep.Fields
import Derived.ChangeSame
import Derived.Test.YtfgjlnaojjldcaaGreatDoorGb
import Derived.Test.YtfgjlnaojjldcaaGreatDoorGn
import Derived.Test.YtfgjlnaojjldcaaGreatDoorGo
namespace Go.Proofs.YtfgjlnaojjldcaaGreatDoor
open Go Go.ChangeShapes Go.WideShapes Go.Deep Go.RowKit Tre

section
variable {H : Type} {enc : TypeId × Value → H} {P : Program} {w : World} {base : Nat} {spare : Nat → Bool} {held : Bool}
/-- One cell of an element, and its reading. -/
theorem field_at {e : TypeId} {fs : Array Field} {n : Nat} {b : Addr} {x : DataW H × List MemPlace} {cs : List Value} (he : P.underlying e = some (.struct fs)) (hone : oneCellFields P fs = true) (hC : P.cellsOf e = fs.size)
    (hc : w.cells? base b (P.cellsOf e) = some cs) (ht : DataW.trod enc P w base spare held n e cs = some x) (j : Nat) (f : Field) (hj : fs[j]? = some f) :
    ∃ v y m, w.cell? (b.add j) = some v ∧ DataW.trod enc P w base spare held m f.type [v] = some y := by
  obtain ⟨ys, m, -, -, -, hyl, hf⟩ := DataW.trod_struct he ht
  obtain ⟨-, hl, hat⟩ := World.cells?_some hc
  obtain ⟨ho, hk⟩ := hone_of hone j f hj
  have hjs : j < fs.size := (Array.getElem?_eq_some_iff.1 hj).1
  have hjc : j < cs.length := by omega
  have hd : (cs.drop j).take 1 = [cs[j]] := by rw [List.drop_eq_getElem_cons hjc]; rfl
  have h1 := hf j f hj
  rw [ho, hk, hd] at h1
  exact ⟨cs[j], ys[j]'(by omega), m, (hat j (by omega)).trans (List.getElem?_eq_getElem hjc), h1.trans (List.getElem?_eq_getElem (by omega))⟩

theorem open_lines {r : Reach} {b0 : Nat} {t e : TypeId} {f0 f1 f2 : Field} {v : Value} {d : DataW H} {p : List MemPlace} (ht : P.underlying t = some (.slice e)) (he : P.underlying e = some (.struct #[f0, f1, f2]))
    (hone : oneCellFields P #[f0, f1, f2] = true) (hC : P.cellsOf e = 3) (u0 : P.underlying f0.type = some (.int .i64)) (u1 : P.underlying f1.type = some .string) (u2 : P.underlying f2.type = some (.int .i64))
    (hv : Value.okWide P w r b0 t v) (h : DataW.Trod enc P w base spare held t v d p) :
    ∃ (A : Option Addr) (cap : Nat) (L : List Line), v = .slice A L.length cap ∧ L.length ≤ cap ∧ cap ≤ maxLen ∧ Rd w 3 A L.length (lines L) := by
  obtain ⟨a0, len, cap, rfl⟩ := okWide_slice ht hv
  obtain ⟨fuel, hf⟩ := h
  rcases open_slice ht hf with ⟨hcs, -⟩ | ⟨a, len', cap', m, n, D, Pl, hcs, -, hl, hm, hmm, -, hi⟩
  · simp [Value.cells] at hcs
    obtain ⟨rfl, rfl, rfl⟩ := hcs
    exact ⟨none, 0, [], rfl, Nat.le_refl _, by unfold maxLen; omega, Rd.nil⟩
  · simp [Value.cells] at hcs
    obtain ⟨rfl, rfl, rfl⟩ := hcs
    have hlm : len ≤ m := by rw [hmm]; split <;> omega
    have each : ∀ i, ∃ x : Line, i < len → w.cell? (a.add (i * 3)) = some (.int .i64 x.depth) ∧ w.cell? (a.add (i * 3 + 1)) = some (.string x.word) ∧ w.cell? (a.add (i * 3 + 2)) = some (.int .i64 x.mark) := by
      intro i
      by_cases hlt : i < len
      · obtain ⟨cs, hc, htr⟩ := hi i (by omega)
        have F := field_at he hone hC hc htr
        obtain ⟨v0, y0, m0, c0, t0⟩ := F 0 f0 rfl
        obtain ⟨v1, y1, m1, c1, t1⟩ := F 1 f1 rfl
        obtain ⟨v2, y2, m2, c2, t2⟩ := F 2 f2 rfl
        obtain ⟨k0, e0, -⟩ := DataW.trod_int u0 t0
        obtain ⟨s1, e1, -⟩ := DataW.trod_string u1 t1
        obtain ⟨k2, e2, -⟩ := DataW.trod_int u2 t2
        injection e0 with e0
        injection e1 with e1
        injection e2 with e2
        rw [add_twice, hC] at c0 c1 c2
        exact ⟨⟨k0, s1, k2⟩, fun _ => ⟨by rw [← e0]; exact c0, by rw [← e1]; exact c1, by rw [← e2]; exact c2⟩⟩
      · exact ⟨⟨0, ⟨#[]⟩, 0⟩, fun h => absurd h hlt⟩
    obtain ⟨f, hfx⟩ := Classical.axiomOfChoice each
    refine ⟨some a, cap, (List.range len).map f, by simp, by simpa using hl, hm, by rw [lines_length], fun hn => ?_⟩
    have hn' : 0 < len := by simpa using hn
    refine ⟨a, rfl, Lib.lt_of_cell (a := a) (by have := (hfx 0 hn').1; simpa [Addr.add] using this), fun j u hu => ?_⟩
    have hj : j < ((List.range len).map f).length * 3 := by
      have := (List.getElem?_eq_some_iff.1 hu).1
      rwa [lines_length] at this
    have hj' : j < len * 3 := by simpa using hj
    obtain ⟨i, q, rfl, hq⟩ : ∃ i q, j = i * 3 + q ∧ q < 3 := ⟨j / 3, j % 3, by omega, by omega⟩
    have hil : i < len := by omega
    rw [lines_get _ i q (by simpa using hil) hq] at hu
    obtain ⟨g0, g1, g2⟩ := hfx i hil
    simp only [List.getElem_map, List.getElem_range, Line.cells] at hu
    match q, hq with
    | 0, _ => rw [← hu]; simpa using g0
    | 1, _ => rw [← hu]; simpa using g1
    | 2, _ => rw [← hu]; simpa using g2

theorem open_strs {r : Reach} {b0 : Nat} {t e : TypeId} {v : Value} {d : DataW H} {p : List MemPlace} (ht : P.underlying t = some (.slice e)) (he : P.underlying e = some .string) (hC : P.cellsOf e = 1)
    (hv : Value.okWide P w r b0 t v) (h : DataW.Trod enc P w base spare held t v d p) :
    ∃ (A : Option Addr) (cap : Nat) (L : List ByteArray), v = .slice A L.length cap ∧ L.length ≤ cap ∧ cap ≤ maxLen ∧ Rd w 1 A L.length (sv L) := by
  obtain ⟨a0, len, cap, rfl⟩ := okWide_slice ht hv
  obtain ⟨fuel, hf⟩ := h
  rcases open_slice ht hf with ⟨hcs, -⟩ | ⟨a, len', cap', m, n, D, Pl, hcs, -, hl, hm, hmm, -, hi⟩
  · simp [Value.cells] at hcs
    obtain ⟨rfl, rfl, rfl⟩ := hcs
    exact ⟨none, 0, [], rfl, Nat.le_refl _, by unfold maxLen; omega, Rd.nil⟩
  · simp [Value.cells] at hcs
    obtain ⟨rfl, rfl, rfl⟩ := hcs
    have hlm : len ≤ m := by rw [hmm]; split <;> omega
    have each : ∀ i, ∃ x : ByteArray, i < len → w.cell? (a.add i) = some (.string x) := by
      intro i
      by_cases hlt : i < len
      · obtain ⟨cs, hc, htr⟩ := hi i (by omega)
        obtain ⟨-, hl1, hat⟩ := World.cells?_some hc
        rw [hC] at hl1
        obtain ⟨v0, rfl⟩ : ∃ v0, cs = [v0] := by
          match cs, hl1 with
          | [v0], _ => exact ⟨v0, rfl⟩
        obtain ⟨s1, e1, -⟩ := DataW.trod_string he htr
        injection e1 with e1
        have h0 := hat 0 (by rw [hC]; omega)
        rw [add_twice, hC, Nat.mul_one, Nat.add_zero] at h0
        exact ⟨s1, fun _ => by rw [h0, ← e1]; rfl⟩
      · exact ⟨⟨#[]⟩, fun h => absurd h hlt⟩
    obtain ⟨f, hfx⟩ := Classical.axiomOfChoice each
    refine ⟨some a, cap, (List.range len).map f, by simp, by simpa using hl, hm, by rw [sv_len, Nat.mul_one], fun hn => ?_⟩
    have hn' : 0 < len := by simpa using hn
    refine ⟨a, rfl, Lib.lt_of_cell (a := a) (by have := hfx 0 hn'; simpa [Addr.add] using this), fun j u hu => ?_⟩
    have hj : j < ((List.range len).map f).length := by
      have := (List.getElem?_eq_some_iff.1 hu).1
      rwa [sv_len] at this
    have hil : j < len := by simpa using hj
    rw [sv_get hj] at hu
    have g0 := hfx j hil
    simp only [List.getElem_map, List.getElem_range] at hu
    rw [← hu]; exact g0
end
end Go.Proofs.YtfgjlnaojjldcaaGreatDoor

namespace Go.Proofs.YtfgjlnaojjldcaaGreatDoor
open Go Go.RowKit Go.Sort Sch Adr Mtr Tre

theorem len_two {P : List ByteArray} (h : P.length = 2) : ∃ a b, P = [a, b] := by
  rcases P with _ | ⟨a, _ | ⟨b, _ | ⟨c, l⟩⟩⟩
  · simp at h
  · simp at h
  · exact ⟨a, b, rfl⟩
  · simp at h
theorem equal_same (L : List ByteArray) (hl : L.length ≤ 1000) (A1 : Option Addr) (c1 : Nat) (A2 : Option Addr) (c2 : Nat) (W : World) (h1 : Rd W 1 A1 L.length (sv L)) (h2 : Rd W 1 A2 L.length (sv L)) :
    Calls Tryz.prog 23 #[.slice A1 L.length c1, .slice A2 L.length c2] W fun e w' => e = .returned (.bool true) ∧ Below W.heap.size W w' :=
  (refEqual_any A1 c1 L A2 c2 L W h1 h2 (by unfold maxLen; omega) (by unfold maxLen; omega)).mono fun e w' ⟨h4, h5⟩ => ⟨by rw [h4, decide_eq_true rfl], h5⟩
set_option maxHeartbeats 2000000 in
set_option maxRecDepth 100000 in
theorem schemaNeeds_any (A : Option Addr) (cap : Nat) (P : List ByteArray) (w : World) (hE : Env w) (hR : Rd w 1 A P.length (sv P)) (hcap : P.length ≤ cap) (hc : cap ≤ maxLen) :
    Calls Tryz.prog 5 #[.slice A P.length cap] w fun e w' => e = .returned (.bool true) ∧ Below w.heap.size w w' := by
  have HA := Lib.hid (fun W (hb : Below w.heap.size w W) => awake13_any W (hE.below hb))
  have HSh := Lib.hid (short_any A cap P w hR hcap hc)
  cases hs : shortB P with
  | false =>
    rw [hs] at HSh
    clear hR hs
    go_enter Tryz.func5, Tryz.ntmps5
    go_wp2_with fail
    refine HSh.out.mono ?_
    rintro e w1 ⟨rfl, hb1⟩
    go_wp2_with fail
    refine (HA.out _ hb1).mono ?_
    rintro e w2 ⟨rfl, hb2⟩
    go_wp2_with fail
    go_ret
    exact ⟨rfl, below_step hb1 hb2⟩
  | true =>
    rw [hs] at HSh
    unfold shortB at hs
    rw [Bool.and_eq_true, decide_eq_true_eq, List.all_eq_true] at hs
    obtain ⟨hlen, hsz⟩ := hs
    have hps : Shw P := fun s h => by have := of_decide_eq_true (hsz s h); omega
    have HNe := Lib.hid (fun W (hb : Below w.heap.size w W) => Needs_any A cap P W (hE.below hb) (hR.below hb) (by omega) hps)
    have hnl := needs_le P
    have HEq := Lib.hid (equal_same (needsOf P) (by omega))
    unfold maxLen at hc
    by_cases hl : P.length = 2
    · obtain ⟨a, b, rfl⟩ : ∃ a b, P = [a, b] := len_two hl
      obtain ⟨B, O, rfl, -, -, z0⟩ := hR.strAt (i := 0) (by simp)
      simp only [List.getElem_cons_zero, Nat.add_zero] at z0
      have HZ := Lib.hid z0
      have HSec := Lib.hid (second_any a)
      have HKn := Lib.hid (fun W (hb : Below w.heap.size w W) => known_any (some ⟨B, O, none⟩) cap [a, b] W (hR.below hb) (by simp) (by simp) hps)
      have HKb : Hid (knownB [a, b] = if typeB (secondB a) b = true then 0 else 2) := rfl
      have HNb := Lib.hid (needs_2 a b)
      have HRn := Lib.hid (refNeeds_any a)
      have hk1 := emp_iff (secondB a)
      have hk2 := emp_list (secondB a)
      have hlen2 : ([a, b] : List ByteArray).length = 2 := rfl
      have HNo : Hid (secondB a = ⟨#[]⟩ → typeB (secondB a) b = false) := fun h => by rw [h]; exact type_none b
      rw [hlen2] at hcap hlen HSh HNe HKn ⊢
      generalize knownB [a, b] = kb at *
      generalize needsOf [a, b] = nd at *
      generalize secondB a = s at *
      generalize typeB s b = tb at *
      clear hR hl hsz hps hE hlen2 z0
      by_cases h : s = ⟨#[]⟩
      · have htb : tb = false := HNo.out h
        subst htb
        have hnd : nd = [] := HNb.out
        subst hnd
        have e1 : s.toList.isEmpty = true := by rw [hk1, decide_eq_true h]
        have e2 : s.toList = [] := hk2.2 h
        clear hk1 hk2 h HNb HKb HNo HKn HRn
        go_enter Tryz.func5, Tryz.ntmps5
        go_wp2_with fail
        refine HSh.out.mono ?_
        rintro e w1 ⟨rfl, hb1⟩
        have z1 := (hb1.cell (p := ⟨B, O, none⟩) (Lib.lt_of_cell HZ.out)).trans HZ.out
        go_wp2_with fail
        refine (HSec.out w1).mono ?_
        rintro e w2 ⟨rfl, hb2⟩
        have HB := Lib.hid (below_step hb1 hb2)
        clear hb1 hb2 HSec HZ z1
        go_wp2_with fail
        refine (HNe.out _ HB.out).mono ?_
        rintro e wn ⟨An, cn, rfl, hn1, hn2, hrn, -, hbn⟩
        have HBn := Lib.hid (below_step HB.out hbn)
        have HE1 := HEq.out An cn (none) (0) wn hrn (Rd.nil)
        clear HNe HB hrn hn1 hn2
        go_wp2_with fail
        refine HE1.mono ?_
        clear HE1
        rintro e wq ⟨rfl, hbq⟩
        have HBq := Lib.hid (below_step HBn.out hbq)
        clear hbq hbn HBn
        go_wp2_with fail
        refine (HA.out _ HBq.out).mono ?_
        rintro e wz ⟨rfl, hbz⟩
        go_wp2_with fail
        go_ret
        exact ⟨rfl, below_step HBq.out hbz⟩
      · have e1 : s.toList.isEmpty = false := by rw [hk1, decide_eq_false h]
        have e2 : ¬ s.toList = [] := fun e => h (hk2.1 e)
        clear hk1 hk2 h HNo
        cases tb with
        | false =>
          have hnd : nd = [] := HNb.out
          subst hnd
          have hkb : kb = 2 := HKb.out
          subst hkb
          clear HNb HKb HRn
          go_enter Tryz.func5, Tryz.ntmps5
          go_wp2_with fail
          refine HSh.out.mono ?_
          rintro e w1 ⟨rfl, hb1⟩
          have z1 := (hb1.cell (p := ⟨B, O, none⟩) (Lib.lt_of_cell HZ.out)).trans HZ.out
          go_wp2_with fail
          refine (HSec.out w1).mono ?_
          rintro e w2 ⟨rfl, hb2⟩
          have HB2 := Lib.hid (below_step hb1 hb2)
          clear hb1 hb2 HSec HZ z1
          go_wp2_with fail
          refine (HKn.out w2 HB2.out).mono ?_
          rintro e w3 ⟨rfl, hb3⟩
          have HB := Lib.hid (below_step HB2.out hb3)
          clear HKn HB2 hb3
          go_wp2_with fail
          refine (HNe.out _ HB.out).mono ?_
          rintro e wn ⟨An, cn, rfl, hn1, hn2, hrn, -, hbn⟩
          have HBn := Lib.hid (below_step HB.out hbn)
          have HE1 := HEq.out An cn (none) (0) wn hrn (Rd.nil)
          clear HNe HB hrn hn1 hn2
          go_wp2_with fail
          refine HE1.mono ?_
          clear HE1
          rintro e wq ⟨rfl, hbq⟩
          have HBq := Lib.hid (below_step HBn.out hbq)
          clear hbq hbn HBn
          go_wp2_with fail
          refine (HA.out _ HBq.out).mono ?_
          rintro e wz ⟨rfl, hbz⟩
          go_wp2_with fail
          go_ret
          exact ⟨rfl, below_step HBq.out hbz⟩
        | true =>
          have hnd : nd = needs2 a := HNb.out
          subst hnd
          have hkb : kb = 0 := HKb.out
          subst hkb
          clear HNb HKb
          go_enter Tryz.func5, Tryz.ntmps5
          go_wp2_with fail
          refine HSh.out.mono ?_
          rintro e w1 ⟨rfl, hb1⟩
          have z1 := (hb1.cell (p := ⟨B, O, none⟩) (Lib.lt_of_cell HZ.out)).trans HZ.out
          go_wp2_with fail
          refine (HSec.out w1).mono ?_
          rintro e w2 ⟨rfl, hb2⟩
          have HB2 := Lib.hid (below_step hb1 hb2)
          clear hb1 hb2 HSec z1
          go_wp2_with fail
          refine (HKn.out w2 HB2.out).mono ?_
          rintro e w3 ⟨rfl, hb3⟩
          have HB3 := Lib.hid (below_step HB2.out hb3)
          have z3 := (HB3.out.cell (p := ⟨B, O, none⟩) (Lib.lt_of_cell HZ.out)).trans HZ.out
          clear HKn HB2 hb3
          go_wp2_with fail
          refine (HRn.out w3).mono ?_
          rintro e w4 ⟨Ar, cr, rfl, hr1, hr2, hrr, -, hb4⟩
          have HB := Lib.hid (below_step HB3.out hb4)
          have HRR := Lib.hid hrr
          clear HRn HB3 hb4 z3 HZ hrr hr1 hr2
          go_wp2_with fail
          refine (HNe.out _ HB.out).mono ?_
          rintro e wn ⟨An, cn, rfl, hn1, hn2, hrn, -, hbn⟩
          have HBn := Lib.hid (below_step HB.out hbn)
          have HE1 := HEq.out An cn (Ar) (cr) wn hrn (HRR.out.below hbn)
          clear HNe HB hrn hn1 hn2
          go_wp2_with fail
          refine HE1.mono ?_
          clear HE1
          rintro e wq ⟨rfl, hbq⟩
          have HBq := Lib.hid (below_step HBn.out hbq)
          clear hbq hbn HBn
          go_wp2_with fail
          refine (HA.out _ HBq.out).mono ?_
          rintro e wz ⟨rfl, hbz⟩
          go_wp2_with fail
          go_ret
          exact ⟨rfl, below_step HBq.out hbz⟩
    · have hnd : needsOf P = [] := needs_other hl
      rw [hnd] at HNe HEq hnl
      have hl2 : ¬ ((P.length : Int) = 2) := by omega
      have hl3 : ((P.length : Int) == 2) = false := by simp; omega
      clear hR hl hsz hps hE hnd
      go_enter Tryz.func5, Tryz.ntmps5
      go_wp2_with fail
      refine HSh.out.mono ?_
      rintro e w1 ⟨rfl, hb1⟩
      have HB := Lib.hid hb1
      clear hb1
      go_wp2_with fail
      refine (HNe.out _ HB.out).mono ?_
      rintro e wn ⟨An, cn, rfl, hn1, hn2, hrn, -, hbn⟩
      have HBn := Lib.hid (below_step HB.out hbn)
      have HE1 := HEq.out An cn (none) (0) wn hrn (Rd.nil)
      clear HNe HB hrn hn1 hn2
      go_wp2_with fail
      refine HE1.mono ?_
      clear HE1
      rintro e wq ⟨rfl, hbq⟩
      have HBq := Lib.hid (below_step HBn.out hbq)
      clear hbq hbn HBn
      go_wp2_with fail
      refine (HA.out _ HBq.out).mono ?_
      rintro e wz ⟨rfl, hbz⟩
      go_wp2_with fail
      go_ret
      exact ⟨rfl, below_step HBq.out hbz⟩
end Go.Proofs.YtfgjlnaojjldcaaGreatDoor
