/- A parameter that is a slice of lines, or of strings: what lies in its cells, as a list. A parameter that is a slice of floats: what lies in its cells, as a list. Plain facts: sums of floats, added one by one. -/
import Derived.Deep.Slices
import Derived.Deep.Fields
import Derived.ChangeSame
import Derived.Laws.Cover2
import Derived.Test.YtmhgacgneckboaaGreatDoorQb
import Derived.Test.YtmhgacgneckboaaGreatDoorQn
namespace Go.Proofs.YtmhgacgneckboaaGreatDoor
open Go Go.ChangeShapes Go.WideShapes Go.Deep Go.RowKit Tre

section
variable {H : Type} {enc : TypeId × Value → H} {P : Program} {w : World} {base : Nat} {spare : Nat → Bool} {held : Bool}
/-- One cell of an element, and its reading. -/
theorem field_at {e : TypeId} {fs : Array Field} {n : Nat} {b : Addr} {x : DataW H × List MemPlace} {cs : List Value} (he : P.underlying e = some (.struct fs)) (hone : oneCellFields P fs = true) (hC : P.cellsOf e = fs.size)
    (hc : w.cells? base b (P.cellsOf e) = some cs) (ht : DataW.trod enc P w base spare held n e cs = some x) (j : Nat) (f : Field) (hj : fs[j]? = some f) :
    ∃ v y m, w.cell? (b.add j) = some v ∧ DataW.trod enc P w base spare held m f.type [v] = some y := by
  obtain ⟨ys, m, -, -, -, hyl, hf⟩ := DataW.trod_struct he ht
  obtain ⟨-, hl, hat⟩ := World.cells?_some hc
  obtain ⟨ho, hk⟩ := hone_of hone j f hj
  have hjs : j < fs.size := (Array.getElem?_eq_some_iff.1 hj).1
  have hjc : j < cs.length := by omega
  have hd : (cs.drop j).take 1 = [cs[j]] := by rw [List.drop_eq_getElem_cons hjc]; rfl
  have h1 := hf j f hj
  rw [ho, hk, hd] at h1
  exact ⟨cs[j], ys[j]'(by omega), m, (hat j (by omega)).trans (List.getElem?_eq_getElem hjc), h1.trans (List.getElem?_eq_getElem (by omega))⟩

theorem open_lines {r : Reach} {b0 : Nat} {t e : TypeId} {f0 f1 f2 : Field} {v : Value} {d : DataW H} {p : List MemPlace} (ht : P.underlying t = some (.slice e)) (he : P.underlying e = some (.struct #[f0, f1, f2]))
    (hone : oneCellFields P #[f0, f1, f2] = true) (hC : P.cellsOf e = 3) (u0 : P.underlying f0.type = some (.int .i64)) (u1 : P.underlying f1.type = some .string) (u2 : P.underlying f2.type = some (.int .i64))
    (hv : Value.okWide P w r b0 t v) (h : DataW.Trod enc P w base spare held t v d p) :
    ∃ (A : Option Addr) (cap : Nat) (L : List Line), v = .slice A L.length cap ∧ L.length ≤ cap ∧ cap ≤ maxLen ∧ Rd w 3 A L.length (lines L) := by
  obtain ⟨a0, len, cap, rfl⟩ := okWide_slice ht hv
  obtain ⟨fuel, hf⟩ := h
  rcases open_slice ht hf with ⟨hcs, -⟩ | ⟨a, len', cap', m, n, D, Pl, hcs, -, hl, hm, hmm, -, hi⟩
  · simp [Value.cells] at hcs
    obtain ⟨rfl, rfl, rfl⟩ := hcs
    exact ⟨none, 0, [], rfl, Nat.le_refl _, by unfold maxLen; omega, Rd.nil⟩
  · simp [Value.cells] at hcs
    obtain ⟨rfl, rfl, rfl⟩ := hcs
    have hlm : len ≤ m := by rw [hmm]; split <;> omega
    have each : ∀ i, ∃ x : Line, i < len → w.cell? (a.add (i * 3)) = some (.int .i64 x.depth) ∧ w.cell? (a.add (i * 3 + 1)) = some (.string x.word) ∧ w.cell? (a.add (i * 3 + 2)) = some (.int .i64 x.mark) := by
      intro i
      by_cases hlt : i < len
      · obtain ⟨cs, hc, htr⟩ := hi i (by omega)
        have F := field_at he hone hC hc htr
        obtain ⟨v0, y0, m0, c0, t0⟩ := F 0 f0 rfl
        obtain ⟨v1, y1, m1, c1, t1⟩ := F 1 f1 rfl
        obtain ⟨v2, y2, m2, c2, t2⟩ := F 2 f2 rfl
        obtain ⟨k0, e0, -⟩ := DataW.trod_int u0 t0
        obtain ⟨s1, e1, -⟩ := DataW.trod_string u1 t1
        obtain ⟨k2, e2, -⟩ := DataW.trod_int u2 t2
        injection e0 with e0
        injection e1 with e1
        injection e2 with e2
        rw [add_twice, hC] at c0 c1 c2
        exact ⟨⟨k0, s1, k2⟩, fun _ => ⟨by rw [← e0]; exact c0, by rw [← e1]; exact c1, by rw [← e2]; exact c2⟩⟩
      · exact ⟨⟨0, ⟨#[]⟩, 0⟩, fun h => absurd h hlt⟩
    obtain ⟨f, hfx⟩ := Classical.axiomOfChoice each
    refine ⟨some a, cap, (List.range len).map f, by simp, by simpa using hl, hm, by rw [lines_length], fun hn => ?_⟩
    have hn' : 0 < len := by simpa using hn
    refine ⟨a, rfl, Lib.lt_of_cell (a := a) (by have := (hfx 0 hn').1; simpa [Addr.add] using this), fun j u hu => ?_⟩
    have hj : j < ((List.range len).map f).length * 3 := by
      have := (List.getElem?_eq_some_iff.1 hu).1
      rwa [lines_length] at this
    have hj' : j < len * 3 := by simpa using hj
    obtain ⟨i, q, rfl, hq⟩ : ∃ i q, j = i * 3 + q ∧ q < 3 := ⟨j / 3, j % 3, by omega, by omega⟩
    have hil : i < len := by omega
    rw [lines_get _ i q (by simpa using hil) hq] at hu
    obtain ⟨g0, g1, g2⟩ := hfx i hil
    simp only [List.getElem_map, List.getElem_range, Line.cells] at hu
    match q, hq with
    | 0, _ => rw [← hu]; simpa using g0
    | 1, _ => rw [← hu]; simpa using g1
    | 2, _ => rw [← hu]; simpa using g2

theorem open_strs {r : Reach} {b0 : Nat} {t e : TypeId} {v : Value} {d : DataW H} {p : List MemPlace} (ht : P.underlying t = some (.slice e)) (he : P.underlying e = some .string) (hC : P.cellsOf e = 1)
    (hv : Value.okWide P w r b0 t v) (h : DataW.Trod enc P w base spare held t v d p) :
    ∃ (A : Option Addr) (cap : Nat) (L : List ByteArray), v = .slice A L.length cap ∧ L.length ≤ cap ∧ cap ≤ maxLen ∧ Rd w 1 A L.length (sv L) := by
  obtain ⟨a0, len, cap, rfl⟩ := okWide_slice ht hv
  obtain ⟨fuel, hf⟩ := h
  rcases open_slice ht hf with ⟨hcs, -⟩ | ⟨a, len', cap', m, n, D, Pl, hcs, -, hl, hm, hmm, -, hi⟩
  · simp [Value.cells] at hcs
    obtain ⟨rfl, rfl, rfl⟩ := hcs
    exact ⟨none, 0, [], rfl, Nat.le_refl _, by unfold maxLen; omega, Rd.nil⟩
  · simp [Value.cells] at hcs
    obtain ⟨rfl, rfl, rfl⟩ := hcs
    have hlm : len ≤ m := by rw [hmm]; split <;> omega
    have each : ∀ i, ∃ x : ByteArray, i < len → w.cell? (a.add i) = some (.string x) := by
      intro i
      by_cases hlt : i < len
      · obtain ⟨cs, hc, htr⟩ := hi i (by omega)
        obtain ⟨-, hl1, hat⟩ := World.cells?_some hc
        rw [hC] at hl1
        obtain ⟨v0, rfl⟩ : ∃ v0, cs = [v0] := by
          match cs, hl1 with
          | [v0], _ => exact ⟨v0, rfl⟩
        obtain ⟨s1, e1, -⟩ := DataW.trod_string he htr
        injection e1 with e1
        have h0 := hat 0 (by rw [hC]; omega)
        rw [add_twice, hC, Nat.mul_one, Nat.add_zero] at h0
        exact ⟨s1, fun _ => by rw [h0, ← e1]; rfl⟩
      · exact ⟨⟨#[]⟩, fun h => absurd h hlt⟩
    obtain ⟨f, hfx⟩ := Classical.axiomOfChoice each
    refine ⟨some a, cap, (List.range len).map f, by simp, by simpa using hl, hm, by rw [sv_len, Nat.mul_one], fun hn => ?_⟩
    have hn' : 0 < len := by simpa using hn
    refine ⟨a, rfl, Lib.lt_of_cell (a := a) (by have := hfx 0 hn'; simpa [Addr.add] using this), fun j u hu => ?_⟩
    have hj : j < ((List.range len).map f).length := by
      have := (List.getElem?_eq_some_iff.1 hu).1
      rwa [sv_len] at this
    have hil : j < len := by simpa using hj
    rw [sv_get hj] at hu
    have g0 := hfx j hil
    simp only [List.getElem_map, List.getElem_range] at hu
    rw [← hu]; exact g0
theorem open_nilL {t e : TypeId} {n cap : Nat} {d : DataW H} {p : List MemPlace} (ht : P.underlying t = some (.slice e)) (h : DataW.Trod enc P w base spare held t (.slice none n cap) d p) : cap = 0 := by
  obtain ⟨fuel, hf⟩ := h
  rcases open_slice ht hf with ⟨hcs, -⟩ | ⟨a, len', cap', m, n', D, Pl, hcs, -⟩
  · simp [Value.cells] at hcs; exact hcs.2
  · simp [Value.cells] at hcs
end
end Go.Proofs.YtmhgacgneckboaaGreatDoor

namespace Go.Proofs.YtmhgacgneckboaaGreatDoor
open Go Go.ChangeShapes Go.WideShapes Go.Deep Go.RowKit Tre Mtr

section
variable {H : Type} {enc : TypeId × Value → H} {P : Program} {w : World} {base : Nat} {spare : Nat → Bool} {held : Bool}
theorem trod_flt {e : TypeId} {n : Nat} {v : Value} {x : DataW H × List MemPlace} (ht : P.underlying e = some (.float .f64)) (h : DataW.trod enc P w base spare held n e [v] = some x) : ∃ b, v = .float .f64 b ∧ b < 18446744073709551616 := by
  cases n with
  | zero => simp [DataW.trod] at h
  | succ n =>
    simp only [DataW.trod, ht] at h
    cases v <;> simp at h
    rename_i k b
    obtain ⟨⟨rfl, hw⟩, -⟩ := h
    exact ⟨b, rfl, by simpa [Lit.wf] using hw⟩
theorem open_flts {r : Reach} {b0 : Nat} {t e : TypeId} {v : Value} {d : DataW H} {p : List MemPlace} (ht : P.underlying t = some (.slice e)) (he : P.underlying e = some (.float .f64)) (hC : P.cellsOf e = 1)
    (hv : Value.okWide P w r b0 t v) (h : DataW.Trod enc P w base spare held t v d p) :
    ∃ (A : Option Addr) (cap : Nat) (L : List Nat), v = .slice A L.length cap ∧ L.length ≤ cap ∧ cap ≤ maxLen ∧ Rd w 1 A L.length (fv L) ∧ ∀ x ∈ L, x < 18446744073709551616 := by
  obtain ⟨a0, len, cap, rfl⟩ := okWide_slice ht hv
  obtain ⟨fuel, hf⟩ := h
  rcases open_slice ht hf with ⟨hcs, -⟩ | ⟨a, len', cap', m, n, D, Pl, hcs, -, hl, hm, hmm, -, hi⟩
  · simp [Value.cells] at hcs
    obtain ⟨rfl, rfl, rfl⟩ := hcs
    exact ⟨none, 0, [], rfl, Nat.le_refl _, by unfold maxLen; omega, Rd.nil, fun _ h => by cases h⟩
  · simp [Value.cells] at hcs
    obtain ⟨rfl, rfl, rfl⟩ := hcs
    have hlm : len ≤ m := by rw [hmm]; split <;> omega
    have each : ∀ i, ∃ x : Nat, x < 18446744073709551616 ∧ (i < len → w.cell? (a.add i) = some (.float .f64 x)) := by
      intro i
      by_cases hlt : i < len
      · obtain ⟨cs, hc, htr⟩ := hi i (by omega)
        obtain ⟨-, hl1, hat⟩ := World.cells?_some hc
        rw [hC] at hl1
        obtain ⟨v0, rfl⟩ : ∃ v0, cs = [v0] := by
          match cs, hl1 with
          | [v0], _ => exact ⟨v0, rfl⟩
        obtain ⟨s1, e1, hs1⟩ := trod_flt he htr
        have h0 := hat 0 (by rw [hC]; omega)
        rw [add_twice, hC, Nat.mul_one, Nat.add_zero] at h0
        exact ⟨s1, hs1, fun _ => by rw [h0, ← e1]; rfl⟩
      · exact ⟨0, by decide, fun h => absurd h hlt⟩
    obtain ⟨f, hfx⟩ := Classical.axiomOfChoice each
    refine ⟨some a, cap, (List.range len).map f, by simp, by simpa using hl, hm, ⟨by rw [fv_len, Nat.mul_one], fun hn => ?_⟩, fun x hx => ?_⟩
    · have hn' : 0 < len := by simpa using hn
      refine ⟨a, rfl, Lib.lt_of_cell (a := a) (by have := (hfx 0).2 hn'; simpa [Addr.add] using this), fun j u hu => ?_⟩
      have hj : j < ((List.range len).map f).length := by
        have := (List.getElem?_eq_some_iff.1 hu).1
        rwa [fv_len] at this
      have hil : j < len := by simpa using hj
      rw [fv_get hj] at hu
      have g0 := (hfx j).2 hil
      simp only [List.getElem_map, List.getElem_range] at hu
      rw [← hu]; exact g0
    · obtain ⟨i, -, rfl⟩ := List.mem_map.1 hx
      exact (hfx i).1
end
end Go.Proofs.YtmhgacgneckboaaGreatDoor

namespace Mtr
open Go Ieee Fta
theorem rung_word (s : Bool) (r : Nat) (h : r < 9223372036854775808) : rungB (double.word s r) = r ∧ negB (double.word s r) = s := by
  unfold Format.word rungB negB
  rw [sign_d]
  cases s with
  | true =>
    rw [if_pos rfl]
    exact ⟨by omega, by rw [show (9223372036854775808 + r) / 9223372036854775808 % 2 = 1 by omega]; rfl⟩
  | false =>
    rw [if_neg (by decide)]
    exact ⟨by omega, by rw [show r / 9223372036854775808 % 2 = 0 by omega]; rfl⟩
theorem word_split (b : Nat) (h : b < 18446744073709551616) : double.word (negB b) (rungB b) = b := by
  obtain ⟨r, hr, e3, ⟨e4, e5⟩ | ⟨e4, e5⟩⟩ := split_bits b h
  · rw [e5, e3]; unfold Format.word; rw [if_neg (by decide)]; exact e4.symm
  · rw [e5, e3]; unfold Format.word; rw [if_pos rfl, sign_d]; exact e4.symm
theorem cut_pos (neg : Bool) (n d : Nat) (hn : n ≠ 0) (hd : d ≤ n.log2) : 1 ≤ Toward.even.cut neg n d := by
  unfold Toward.cut
  dsimp only
  rw [Nat.min_eq_left (by omega), Nat.one_shiftLeft]
  have h1 : 2 ^ d ≤ n := Nat.le_trans (Nat.pow_le_pow_right (by decide) hd) (Nat.log2_self_le hn)
  have h2 : 1 ≤ n / 2 ^ d := (Nat.one_le_div_iff (Nat.two_pow_pos _)).2 h1
  omega
/-- The nearest float of what is not zero, and no finer than floats are, is not zero. -/
theorem nearest_rung (neg : Bool) (mag : Nat) (place : Int) (h0 : mag ≠ 0) (hp : -1074 ≤ place) : ∃ r, 1 ≤ r ∧ r ≤ 9218868437227405312 ∧ double.nearest neg mag place = double.word neg r := by
  unfold Format.nearest
  rw [if_neg h0]
  dsimp only
  rw [frac_d, least_d, binade_d, infRung_d]
  refine ⟨_, ?_, Nat.min_le_right _ _, rfl⟩
  have hk : 1 ≤ Toward.even.cut neg (mag <<< (place - max (place + (mag.log2 : Int) - ((52 : Nat) : Int)) (-1074)).toNat) (max (place + (mag.log2 : Int) - ((52 : Nat) : Int)) (-1074) - place).toNat := by
    by_cases h : (max (place + (mag.log2 : Int) - ((52 : Nat) : Int)) (-1074) - place).toNat = 0
    · rw [h]
      refine cut_pos _ _ _ ?_ (Nat.zero_le _)
      rw [Nat.shiftLeft_eq]
      exact Nat.mul_ne_zero h0 (Nat.ne_of_gt (Nat.two_pow_pos _))
    · have e : (place - max (place + (mag.log2 : Int) - ((52 : Nat) : Int)) (-1074)).toNat = 0 := by omega
      rw [e, Nat.shiftLeft_zero]
      exact cut_pos _ _ _ h0 (by omega)
  generalize Toward.even.cut neg (mag <<< (place - max (place + (mag.log2 : Int) - ((52 : Nat) : Int)) (-1074)).toNat) (max (place + (mag.log2 : Int) - ((52 : Nat) : Int)) (-1074) - place).toNat = k at *
  rw [Nat.le_min]
  exact ⟨by omega, by decide⟩
theorem rneB_mul (m d : Nat) : rneB (m * 2 ^ d) d = m := by
  unfold rneB
  have h := Nat.two_pow_pos d
  rw [Nat.mul_div_cancel _ h, Nat.mul_mod_left, if_neg (by omega), Nat.add_zero]
/-- A float's own value has that float. -/
theorem nearest_exact (neg : Bool) (r : Nat) (h0 : 0 < r) (h : r < 9218868437227405312) : double.nearest neg (valR r) (-1074) = double.word neg r := by
  have hv : valR r ≠ 0 := by have := valR_pos.2 h0; omega
  unfold Format.nearest
  rw [if_neg hv]
  dsimp only
  rw [frac_d, least_d, binade_d, infRung_d]
  by_cases hs : r < 4503599627370496
  · have e : valR r = r := by unfold valR; rw [if_pos hs]
    rw [e] at hv ⊢
    have hl : r.log2 < 52 := (Nat.log2_lt hv).2 hs
    have e1 : max ((-1074 : Int) + (r.log2 : Int) - ((52 : Nat) : Int)) (-1074) = -1074 := by omega
    rw [e1, show ((-1074 : Int) - -1074).toNat = 0 by decide, Nat.shiftLeft_zero, cut_even _ _ _ (Nat.zero_le _)]
    have h2 := rneB_mul r 0
    rw [Nat.pow_zero, Nat.mul_one] at h2
    rw [h2, Nat.zero_mul, Nat.zero_add, Nat.min_eq_left (by omega)]
  · have e : valR r = (4503599627370496 + r % 4503599627370496) * 2 ^ (r / 4503599627370496 - 1) := by unfold valR; rw [if_neg hs]
    obtain ⟨d, hd⟩ : ∃ d, r / 4503599627370496 - 1 = d := ⟨_, rfl⟩
    have hm : r % 4503599627370496 < 4503599627370496 := Nat.mod_lt _ (by decide)
    have hr : d * 4503599627370496 + (4503599627370496 + r % 4503599627370496) = r := by omega
    rw [e, hd] at hv ⊢
    generalize 4503599627370496 + r % 4503599627370496 = m at *
    have hm1 : 4503599627370496 ≤ m := by omega
    have hm2 : m < 9007199254740992 := by omega
    have hl : (m * 2 ^ d).log2 = 52 + d := by
      refine (Nat.log2_eq_iff hv).2 ⟨?_, ?_⟩
      · rw [Nat.pow_add]; exact Nat.mul_le_mul_right _ hm1
      · rw [show 52 + d + 1 = 53 + d by omega, Nat.pow_add]; exact Nat.mul_lt_mul_of_pos_right hm2 (Nat.two_pow_pos _)
    rw [hl]
    have e1 : max ((-1074 : Int) + ((52 + d : Nat) : Int) - ((52 : Nat) : Int)) (-1074) = -1074 + (d : Int) := by omega
    rw [e1, show ((-1074 : Int) - (-1074 + (d : Int))).toNat = 0 by omega, Nat.shiftLeft_zero, show ((-1074 : Int) + (d : Int) - -1074).toNat = d by omega, cut_even _ _ _ (by omega), rneB_mul, hr, Nat.min_eq_left (by omega)]
theorem nan_read (b : Nat) (h : nanB b = true) : ∃ s f, double.read b = .nan s f := by
  rw [nanB_rung] at h
  exact read_nan b (of_decide_eq_true h)
theorem read_two (b : Nat) (h : nanB b = false) : (rungB b = 9218868437227405312 ∧ double.read b = .infinity (negB b)) ∨ (rungB b < 9218868437227405312 ∧ ∃ m i, double.read b = .number (negB b) m i ∧ -1074 ≤ i ∧ m * 2 ^ (i + 1074).toNat = valR (rungB b)) := by
  rw [nanB_rung] at h
  have h := of_decide_eq_false h
  by_cases k : rungB b = 9218868437227405312
  · exact Or.inl ⟨k, read_inf b k⟩
  · exact Or.inr ⟨by omega, read_num b (by omega)⟩
theorem add_nan (a x : Nat) (h : nanB a = true ∨ nanB x = true) : double.add a x = none := by
  unfold Format.add
  rcases h with h | h
  · obtain ⟨s, f, e⟩ := nan_read a h
    rw [e]; rfl
  · obtain ⟨s, f, e⟩ := nan_read x h
    rw [e]
    cases double.read a <;> rfl
theorem write_inf (s : Bool) : double.write (.infinity s) = double.word s 9218868437227405312 := by
  show double.word s double.infRung = _
  rw [infRung_d]
theorem nearest_nought (s : Bool) (p : Int) : double.nearest s 0 p = double.word s 0 := by unfold Format.nearest; rw [if_pos rfl]
/-- A sum that is a number: of what form. -/
theorem add_out {a x r : Nat} (h : double.add a x = some r) : ∃ s g, r = double.word s g ∧ g ≤ 9218868437227405312 ∧ (s = true → g = 0 → negB a = true ∧ rungB a = 0) := by
  cases hna : nanB a with
  | true => rw [add_nan a x (Or.inl hna)] at h; cases h
  | false =>
  cases hnx : nanB x with
  | true => rw [add_nan a x (Or.inr hnx)] at h; cases h
  | false =>
  unfold Format.add at h
  rcases read_two a hna with ⟨ka, ea⟩ | ⟨ka, m, i, ea, hi, hv⟩ <;> rcases read_two x hnx with ⟨kx, ex⟩ | ⟨kx, n, j, ex, hj, hw⟩ <;> rw [ea, ex] at h
  · by_cases hs : negB a = negB x
    · have : Datum.sum (.infinity (negB a)) (.infinity (negB x)) = some (.infinity (negB a)) := by show (if _ then _ else _) = _; rw [if_pos hs]
      rw [this, Option.map_some, write_inf] at h
      injection h with h
      exact ⟨_, _, h.symm, Nat.le_refl _, fun _ h => by cases h⟩
    · have : Datum.sum (.infinity (negB a)) (.infinity (negB x)) = none := by show (if _ then _ else _) = _; rw [if_neg hs]
      rw [this] at h; cases h
  · have : Datum.sum (.infinity (negB a)) (.number (negB x) n j) = some (.infinity (negB a)) := rfl
    rw [this, Option.map_some, write_inf] at h
    injection h with h
    exact ⟨_, _, h.symm, Nat.le_refl _, fun _ h => by cases h⟩
  · have : Datum.sum (.number (negB a) m i) (.infinity (negB x)) = some (.infinity (negB x)) := rfl
    rw [this, Option.map_some, write_inf] at h
    injection h with h
    exact ⟨_, _, h.symm, Nat.le_refl _, fun _ h => by cases h⟩
  · obtain ⟨T, hT⟩ : ∃ T, signed (negB a) m (i - min i j).toNat + signed (negB x) n (j - min i j).toNat = T := ⟨_, rfl⟩
    have : Datum.sum (.number (negB a) m i) (.number (negB x) n j) = some (.number (if T = 0 then negB a && negB x else decide (T < 0)) T.natAbs (min i j)) := by rw [← hT]; rfl
    rw [this, Option.map_some] at h
    injection h with h
    by_cases h0 : T = 0
    · rw [h0, if_pos rfl] at h
      have h : double.nearest (negB a && negB x) 0 (min i j) = r := h
      rw [nearest_nought] at h
      refine ⟨_, _, h.symm, by decide, fun hs _ => ?_⟩
      rw [Bool.and_eq_true] at hs
      refine ⟨hs.1, ?_⟩
      rw [hs.1, hs.2] at hT
      have e1 : signed true m (i - min i j).toNat = -((m <<< (i - min i j).toNat : Nat) : Int) := rfl
      have e2 : signed true n (j - min i j).toNat = -((n <<< (j - min i j).toNat : Nat) : Int) := rfl
      rw [e1, e2, Nat.shiftLeft_eq] at hT
      have hm0 : m * 2 ^ (i - min i j).toNat = 0 := by
        rw [h0] at hT
        generalize m * 2 ^ (i - min i j).toNat = u at *
        generalize n <<< (j - min i j).toNat = v at *
        omega
      have hm1 : m = 0 := by
        rcases Nat.mul_eq_zero.1 hm0 with h | h
        · exact h
        · have := Nat.two_pow_pos (i - min i j).toNat; omega
      rw [hm1, Nat.zero_mul] at hv
      have := @valR_pos (rungB a)
      omega
    · rw [if_neg h0] at h
      obtain ⟨g, hg1, hg2, hg3⟩ := nearest_rung (decide (T < 0)) T.natAbs (min i j) (by omega) (by omega)
      have h : double.nearest (decide (T < 0)) T.natAbs (min i j) = r := h
      rw [hg3] at h
      exact ⟨_, _, h.symm, hg2, fun _ k => by omega⟩
theorem add_good {a x r : Nat} (h : double.add a x = some r) : nanB r = false ∧ r < 18446744073709551616 := by
  obtain ⟨s, g, e, hg, -⟩ := add_out h
  obtain ⟨e1, -⟩ := rung_word s g (by omega)
  refine ⟨?_, ?_⟩
  · rw [nanB_rung, e, e1]; exact decide_eq_false (by omega)
  · rw [e]; unfold Format.word; rw [sign_d]; split <;> omega
/-- To nothing: the number itself, if it is not -0. -/
theorem add_zero_l {r : Nat} (hr : r < 18446744073709551616) (h : nanB r = false) (h2 : r ≠ 9223372036854775808) : double.add 0 r = some r := by
  have e0 : double.read 0 = .number false 0 (-1074) := by decide
  have hw := word_split r hr
  unfold Format.add
  rw [e0]
  rcases read_two r h with ⟨k, e⟩ | ⟨k, m, i, e, hi, hv⟩
  · rw [e]
    have : Datum.sum (.number false 0 (-1074)) (.infinity (negB r)) = some (.infinity (negB r)) := rfl
    rw [this, Option.map_some, write_inf, ← k, hw]
  · rw [e]
    have hmin : min (-1074) i = -1074 := by omega
    obtain ⟨T, hT⟩ : ∃ T, signed false 0 ((-1074) - min (-1074) i).toNat + signed (negB r) m (i - min (-1074) i).toNat = T := ⟨_, rfl⟩
    have hsum : Datum.sum (.number false 0 (-1074)) (.number (negB r) m i) = some (.number (if T = 0 then false && negB r else decide (T < 0)) T.natAbs (min (-1074) i)) := by rw [← hT]; rfl
    rw [hsum, Option.map_some]
    have hT2 : T = if negB r then -((valR (rungB r) : Nat) : Int) else ((valR (rungB r) : Nat) : Int) := by
      rw [← hT, hmin]
      have e1 : signed false 0 ((-1074 : Int) - -1074).toNat = 0 := by decide
      have e2 : (i - -1074).toNat = (i + 1074).toNat := by omega
      rw [e1, Int.zero_add, e2]
      unfold signed
      rw [Nat.shiftLeft_eq, hv]
    by_cases h0 : rungB r = 0
    · have hneg : negB r = false := by
        cases hn : negB r with
        | false => rfl
        | true =>
          exfalso; apply h2
          rw [← hw, hn, h0]; unfold Format.word; rw [if_pos rfl, sign_d]
      have hT0 : T = 0 := by rw [hT2, hneg, h0]; rfl
      rw [hT0, if_pos rfl]
      show some (double.nearest (false && negB r) 0 (min (-1074) i)) = _
      rw [nearest_nought, ← hw, hneg, h0]; rfl
    · have hp : 0 < valR (rungB r) := valR_pos.2 (by omega)
      have hT0 : T ≠ 0 := by rw [hT2]; split <;> omega
      rw [if_neg hT0]
      show some (double.nearest (decide (T < 0)) T.natAbs (min (-1074) i)) = _
      have hs : decide (T < 0) = negB r := by
        cases hn : negB r with
        | true => rw [hn, if_pos rfl] at hT2; exact decide_eq_true (by omega)
        | false => rw [hn, if_neg (by decide)] at hT2; exact decide_eq_false (by omega)
      have ha : T.natAbs = valR (rungB r) := by rw [hT2]; split <;> omega
      rw [hs, ha, hmin, nearest_exact _ _ (by omega) k, hw]
/-- The same float, or both none. -/
def EqR (a b : Nat) : Prop := a = b ∨ (nanB a = true ∧ nanB b = true)
theorem addR_nan {a x r : Nat} (h : nanB a = true ∨ nanB x = true) (hr : AddR a x r) : nanB r = true := by
  rcases hr with hr | ⟨-, hr, -⟩
  · rw [add_nan a x h] at hr; cases hr
  · exact hr
theorem addR_lt {a x r : Nat} (hr : AddR a x r) : r < 18446744073709551616 := by
  rcases hr with hr | ⟨-, -, hr⟩
  · exact (add_good hr).2
  · exact hr
theorem addR_eq {a b x r s : Nat} (he : EqR a b) (h1 : AddR a x r) (h2 : AddR b x s) : EqR r s := by
  rcases he with rfl | ⟨k1, k2⟩
  · rcases h1 with h1 | ⟨h1, k1, -⟩ <;> rcases h2 with h2 | ⟨h2, k2, -⟩
    · rw [h1] at h2; injection h2 with h2; exact Or.inl h2
    · rw [h1] at h2; cases h2
    · rw [h1] at h2; cases h2
    · exact Or.inr ⟨k1, k2⟩
  · exact Or.inr ⟨addR_nan (Or.inl k1) h1, addR_nan (Or.inl k2) h2⟩
theorem sumTo_eq {l : List Nat} : ∀ {k r s : Nat}, SumTo l k r → SumTo l k s → EqR r s
  | 0, r, s, h1, h2 => by
    have h1 : r = 0 := h1
    have h2 : s = 0 := h2
    exact Or.inl (by rw [h1, h2])
  | k + 1, r, s, ⟨a, h1, k1⟩, ⟨b, h2, k2⟩ => addR_eq (sumTo_eq h1 h2) k1 k2
theorem sumTo_lt {l : List Nat} {k r : Nat} (h : SumTo l k r) : r < 18446744073709551616 := by
  cases k with
  | zero => have h : r = 0 := h; omega
  | succ k => obtain ⟨a, -, h⟩ := h; exact addR_lt h
theorem same_eq {a b : Nat} (h : EqR a b) : (!aheadB a b && !aheadB b a) = true := by
  have e : rankB a = rankB b := by
    rcases h with rfl | ⟨h1, h2⟩
    · rfl
    · rw [rankB_nan h1, rankB_nan h2]
  unfold aheadB
  rw [e, decide_eq_false (by omega : ¬ rankB b < rankB b)]; rfl
/-- A sum that begins with 0 is never -0. -/
theorem sumTo_zero {l : List Nat} : ∀ {k r : Nat}, SumTo l k r → r ≠ 9223372036854775808
  | 0, r, h => by have h : r = 0 := h; omega
  | k + 1, r, ⟨a, h, k1⟩ => by
    have ih := sumTo_zero h
    have hl := sumTo_lt h
    intro e
    rcases k1 with k1 | ⟨-, k1, -⟩
    · obtain ⟨s, g, e2, hg, k2⟩ := add_out k1
      obtain ⟨r1, r2⟩ := rung_word s g (by omega)
      rw [← e2, e] at r1 r2
      have r3 : rungB 9223372036854775808 = 0 := by decide
      have r4 : negB 9223372036854775808 = true := by decide
      obtain ⟨q1, q2⟩ := k2 (r2.symm.trans r4) (r1.symm.trans r3)
      apply ih
      have := word_split a hl
      rw [q1, q2] at this
      rw [← this]; decide
    · rw [e] at k1; revert k1; decide
/-- The sum of two, of which the first is such a sum. -/
theorem two_eq {f x f' r r' : Nat} (he : EqR f r) (hr : r ≠ 9223372036854775808) (hl : r < 18446744073709551616) (h : SumTo [f, x] 2 f') (h2 : AddR r x r') : EqR f' r' := by
  obtain ⟨a, ⟨z, hz, h0⟩, h1⟩ := h
  have hz : z = 0 := hz
  subst hz
  have h0 : AddR 0 f a := h0
  have h1 : AddR a x f' := h1
  refine addR_eq ?_ h1 h2
  rcases he with rfl | ⟨k1, k2⟩
  · cases hn : nanB f with
    | true => exact Or.inr ⟨addR_nan (Or.inr hn) h0, hn⟩
    | false =>
      have e := add_zero_l hl hn hr
      rcases h0 with h0 | ⟨h0, -⟩
      · rw [e] at h0; injection h0 with h0; exact Or.inl h0.symm
      · rw [e] at h0; cases h0
  · exact Or.inr ⟨addR_nan (Or.inr k1) h0, k2⟩
theorem sumTo_take {l : List Nat} {n : Nat} (hn : n ≤ l.length) : ∀ {k r : Nat}, k ≤ n → (SumTo (l.take n) k r ↔ SumTo l k r)
  | 0, r, _ => Iff.rfl
  | k + 1, r, h => by
    have e : (l.take n).getD k 0 = l.getD k 0 := by
      rw [List.getD_eq_getElem?_getD, List.getD_eq_getElem?_getD, List.getElem?_take_of_lt (by omega)]
    unfold SumTo
    rw [e]
    constructor
    · rintro ⟨a, h1, h2⟩; exact ⟨a, (sumTo_take hn (by omega)).1 h1, h2⟩
    · rintro ⟨a, h1, h2⟩; exact ⟨a, (sumTo_take hn (by omega)).2 h1, h2⟩
/-- Infinite, of one sign, or none. -/
def InfR (s : Bool) (r : Nat) : Prop := nanB r = true ∨ r = double.word s 9218868437227405312
theorem inf_rungs (s : Bool) : rungB (double.word s 9218868437227405312) = 9218868437227405312 ∧ negB (double.word s 9218868437227405312) = s := rung_word s _ (by decide)
theorem inf_good (s : Bool) : nanB (double.word s 9218868437227405312) = false := by rw [nanB_rung, (inf_rungs s).1]; rfl
theorem inf_read (s : Bool) : double.read (double.word s 9218868437227405312) = .infinity s := by
  have := read_inf _ (inf_rungs s).1
  rw [(inf_rungs s).2] at this
  exact this
theorem inf_add {s : Bool} {a x r : Nat} (h : InfR s a ∨ InfR s x) (hr : AddR a x r) : InfR s r := by
  rcases hr with hr | ⟨-, hr, -⟩
  · cases hna : nanB a with
    | true => rw [add_nan a x (Or.inl hna)] at hr; cases hr
    | false =>
    cases hnx : nanB x with
    | true => rw [add_nan a x (Or.inr hnx)] at hr; cases hr
    | false =>
    unfold Format.add at hr
    refine Or.inr ?_
    rcases h with (h | h) | (h | h)
    · rw [hna] at h; cases h
    · rw [h, inf_read] at hr
      rcases read_two x hnx with ⟨kx, ex⟩ | ⟨kx, n, j, ex, hj, hw⟩
      · rw [ex] at hr
        by_cases hs : s = negB x
        · have : Datum.sum (.infinity s) (.infinity (negB x)) = some (.infinity s) := by show (if _ then _ else _) = _; rw [if_pos hs]
          rw [this, Option.map_some, write_inf] at hr
          injection hr with hr
          exact hr.symm
        · have : Datum.sum (.infinity s) (.infinity (negB x)) = none := by show (if _ then _ else _) = _; rw [if_neg hs]
          rw [this] at hr; cases hr
      · rw [ex] at hr
        have : Datum.sum (.infinity s) (.number (negB x) n j) = some (.infinity s) := rfl
        rw [this, Option.map_some, write_inf] at hr
        injection hr with hr
        exact hr.symm
    · rw [hnx] at h; cases h
    · rw [h, inf_read] at hr
      rcases read_two a hna with ⟨kx, ex⟩ | ⟨kx, n, j, ex, hj, hw⟩
      · rw [ex] at hr
        by_cases hs : negB a = s
        · have : Datum.sum (.infinity (negB a)) (.infinity s) = some (.infinity (negB a)) := by show (if _ then _ else _) = _; rw [if_pos hs]
          rw [this, Option.map_some, write_inf, hs] at hr
          injection hr with hr
          exact hr.symm
        · have : Datum.sum (.infinity (negB a)) (.infinity s) = none := by show (if _ then _ else _) = _; rw [if_neg hs]
          rw [this] at hr; cases hr
      · rw [ex] at hr
        have : Datum.sum (.number (negB a) n j) (.infinity s) = some (.infinity s) := rfl
        rw [this, Option.map_some, write_inf] at hr
        injection hr with hr
        exact hr.symm
  · exact Or.inl hr
theorem inf_both {r : Nat} (h1 : InfR false r) (h2 : InfR true r) : nanB r = true := by
  rcases h1 with h1 | h1
  · exact h1
  · rcases h2 with h2 | h2
    · exact h2
    · rw [h1] at h2; exact absurd h2 (by decide)
/-- Where the sum of the law stands behind k. -/
structure SumI (l : List Nat) (k want : Nat) (bad up down : Bool) : Prop where
  sum : SumTo l k want
  bad : bad = true → ∀ r, SumTo l k r → nanB r = true
  up : up = true → ∀ r, SumTo l k r → InfR false r
  down : down = true → ∀ r, SumTo l k r → InfR true r
theorem SumI.step {l : List Nat} {k want x want' : Nat} {bad up down b u d : Bool} (h : SumI l k want bad up down) (hx : l.getD k 0 = x) (ha : AddR want x want') (hb : b = true → nanB x = true) (hu : u = true → InfR false x) (hd : d = true → InfR true x) : SumI l (k + 1) want' (bad || b) (up || u) (down || d) := by
  refine ⟨⟨want, h.sum, by rw [hx]; exact ha⟩, ?_, ?_, ?_⟩
  · rintro e r ⟨a, h1, h2⟩
    rw [hx] at h2
    rw [Bool.or_eq_true] at e
    rcases e with e | e
    · exact addR_nan (Or.inl (h.bad e a h1)) h2
    · exact addR_nan (Or.inr (hb e)) h2
  · rintro e r ⟨a, h1, h2⟩
    rw [hx] at h2
    rw [Bool.or_eq_true] at e
    rcases e with e | e
    · exact inf_add (Or.inl (h.up e a h1)) h2
    · exact inf_add (Or.inr (hu e)) h2
  · rintro e r ⟨a, h1, h2⟩
    rw [hx] at h2
    rw [Bool.or_eq_true] at e
    rcases e with e | e
    · exact inf_add (Or.inl (h.down e a h1)) h2
    · exact inf_add (Or.inr (hd e)) h2
/-- A float less itself. -/
theorem sub_self (x : Nat) : double.sub x x = if rungB x < 9218868437227405312 then some 0 else none := by
  unfold Format.sub
  cases hn : nanB x with
  | true =>
    obtain ⟨s, f, e⟩ := nan_read x hn
    rw [nanB_rung] at hn
    have hn := of_decide_eq_true hn
    rw [e, if_neg (by omega)]; rfl
  | false =>
    rcases read_two x hn with ⟨k, e⟩ | ⟨k, m, i, e, hi, hv⟩
    · rw [e, k, if_neg (by omega)]
      have : Datum.sum (.infinity (negB x)) (Datum.opposite (.infinity (negB x))) = none := by cases negB x <;> rfl
      rw [this]; rfl
    · rw [e, if_pos k]
      have hT : signed (negB x) m (i - min i i).toNat + signed (!negB x) m (i - min i i).toNat = 0 := by
        cases negB x <;> simp [signed] <;> omega
      have : Datum.sum (.number (negB x) m i) (Datum.opposite (.number (negB x) m i)) = some (.number (if (0 : Int) = 0 then negB x && !negB x else decide ((0 : Int) < 0)) (Int.natAbs 0) (min i i)) := by
        show some (Datum.number (if signed (negB x) m (i - min i i).toNat + signed (!negB x) m (i - min i i).toNat = 0 then negB x && !negB x else decide (signed (negB x) m (i - min i i).toNat + signed (!negB x) m (i - min i i).toNat < 0)) (signed (negB x) m (i - min i i).toNat + signed (!negB x) m (i - min i i).toNat).natAbs (min i i)) = _
        rw [hT]
      rw [this, if_pos rfl, Bool.and_not_self]
      show some (double.nearest false 0 (min i i)) = _
      rw [nearest_nought]; rfl
end Mtr
