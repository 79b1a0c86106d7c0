/- Walks: the reference's parts; the library's Split, Cut, ReplaceAll at one byte, Join, in this seed's words. -/
import Derived.Test.YtlojeeakjgalpaaDoorShelf
import Derived.Test.YtlojeeakjgalpaaDoorEnv
import Derived.Test.YtlojeeakjgalpaaDoorW
import Derived.Test.YtlojeeakjgalpaaDoorCalc
import Derived.Lib.SplitLaws
namespace Adr
open Go
/-- How far the reference's parts has come: k bytes are seen, the part that is open begins at f. -/
def PRel (c : UInt8) (l : List UInt8) (k f : Nat) (D : List (List UInt8)) : Prop :=
  (k ≤ l.length ∧ f ≤ k ∧ parts c l = D ++ parts c (l.drop f) ∧ c ∉ (l.drop f).take (k - f)) ∨ (k = l.length + 1 ∧ D = parts c l)
theorem PRel.start (c : UInt8) (l : List UInt8) : PRel c l 0 0 [] := .inl ⟨by omega, by omega, by simp, by simp⟩
theorem PRel.form {c : UInt8} {l : List UInt8} {k f : Nat} {D : List (List UInt8)} (h : PRel c l k f D) (hk : k ≤ l.length) : f ≤ k ∧ parts c l = D ++ parts c (l.drop f) ∧ c ∉ (l.drop f).take (k - f) := by
  rcases h with ⟨_, a⟩ | ⟨e, _⟩
  · exact a
  · omega
theorem PRel.seg {c : UInt8} {l : List UInt8} {k f : Nat} {D : List (List UInt8)} (h : PRel c l k f D) (hk : k < l.length) : l.drop f = (l.drop f).take (k - f) ++ l[k] :: l.drop (k + 1) := by
  have hf := (h.form (by omega)).1
  have e := (List.take_append_drop (k - f) (l.drop f)).symm
  rw [List.drop_drop, show f + (k - f) = k by omega, List.drop_eq_getElem_cons hk] at e
  exact e
theorem PRel.hit {c : UInt8} {l : List UInt8} {k f : Nat} {D : List (List UInt8)} (h : PRel c l k f D) (hk : k < l.length) (hc : l[k] = c) : PRel c l (k + 1) (k + 1) (D ++ [(l.drop f).take (k - f)]) := by
  have hs := h.seg hk
  obtain ⟨hf, hp, hn⟩ := h.form (by omega)
  rw [hc] at hs
  refine .inl ⟨by omega, by omega, ?_, by simp⟩
  rw [hp, (congrArg (parts c) hs).trans (parts_append _ _ _ hn)]
  simp
theorem PRel.other {c : UInt8} {l : List UInt8} {k f : Nat} {D : List (List UInt8)} (h : PRel c l k f D) (hk : k < l.length) (hc : l[k] ≠ c) : PRel c l (k + 1) f D := by
  obtain ⟨hf, hp, hn⟩ := h.form (by omega)
  refine .inl ⟨by omega, by omega, hp, ?_⟩
  have e : (l.drop f).take (k + 1 - f) = (l.drop f).take (k - f) ++ [l[k]] := by
    rw [show k + 1 - f = (k - f) + 1 by omega, List.take_succ_eq_append_getElem (by simp; omega)]
    congr 2
    rw [List.getElem_drop]
    congr 1; omega
  rw [e, List.mem_append, not_or]
  exact ⟨hn, by simpa using fun x => hc x.symm⟩
theorem PRel.last {c : UInt8} {l : List UInt8} {f : Nat} {D : List (List UInt8)} (h : PRel c l l.length f D) : PRel c l (l.length + 1) (l.length + 1) (D ++ [(l.drop f).take (l.length - f)]) := by
  obtain ⟨hf, hp, hn⟩ := h.form (by omega)
  refine .inr ⟨rfl, ?_⟩
  have e : (l.drop f).take (l.length - f) = l.drop f := List.take_of_length_le (by simp)
  rw [e] at hn ⊢
  rw [hp, parts_free _ _ hn]
theorem PRel.done {c : UInt8} {l : List UInt8} {f : Nat} {D : List (List UInt8)} (h : PRel c l (l.length + 1) f D) : D = parts c l := by
  rcases h with ⟨a, _⟩ | ⟨_, e⟩
  · omega
  · exact e
theorem parts_len (c : UInt8) (l : List UInt8) : (parts c l).length ≤ l.length + 1 := by
  induction l with
  | nil => simp [parts_nil]
  | cons b r ih =>
    by_cases h : b = c
    · subst h; rw [parts_at]; simp; omega
    · rw [parts_other _ _ _ h, ahead_length _ _ (parts_ne _ _)]; simp; omega
/-- A part is no longer than the text. -/
theorem parts_short (c : UInt8) (l p : List UInt8) (h : p ∈ parts c l) : p.length ≤ l.length := by
  induction l generalizing p with
  | nil => simp [parts_nil] at h; subst h; simp
  | cons b r ih =>
    by_cases hb : b = c
    · subst hb
      rw [parts_at, List.mem_cons] at h
      rcases h with rfl | h
      · simp
      · have := ih p h; simp; omega
    · rw [parts_other _ _ _ hb] at h
      cases hp : parts c r with
      | nil => exact absurd hp (parts_ne c r)
      | cons x y =>
        rw [hp] at h ih
        simp only [ahead, List.mem_cons] at h
        rcases h with rfl | h
        · have := ih x (by simp); simp; omega
        · have := ih p (by simp [h]); simp; omega
end Adr
namespace Go.Proofs.YtlojeeakjgalpaaDoor
open Go.RowKit

theorem info_string : (Tryd.prog.info? 9).map (fun i => (i.zero, i.size, i.bytes)) = some (some (.string ⟨#[]⟩), 1, 16) := by kernel_rfl

/-- What the reference's parts leaves: the parts' row. -/
def PartsEnd (w : World) (c : UInt8) (l : List UInt8) (e : Ending) (w' : World) : Prop :=
  ∃ A cap, e = .returned (.slice A (Adr.parts c l).length cap) ∧ (Adr.parts c l).length ≤ cap ∧ cap ≤ maxLen ∧ Rd w' 1 A (Adr.parts c l).length (strs (Adr.parts c l)) ∧ Below w.heap.size w w'

/-- The loop's relation. -/
def PartsAt (w : World) (c : UInt8) (l : List UInt8) (v f i : Value) (wr : World) : Prop :=
  ∃ (k q : Nat) (D : List (List UInt8)), k ≤ l.length + 1 ∧ q ≤ k ∧ i = .int .i64 k ∧ f = .int .i64 q ∧ D.length ≤ k ∧ wr.ownsRow w.heap.size 9 1 v D.length (strs D) ∧ Below w.heap.size w wr ∧ Hid (Adr.PRel c l k q D)

theorem own_push {w : World} {base : Nat} {v : Value} {s : ByteArray} {D : List (List UInt8)} {q k : Nat} (h : w.ownsRow base 9 1 v (D.length + 1) (strs D ++ [.string (s.extract q k)])) :
    w.ownsRow base 9 1 v (D ++ [(s.data.toList.drop q).take (k - q)]).length (strs (D ++ [(s.data.toList.drop q).take (k - q)])) := by
  rw [strs_append, strs_one, ← Lib.extract_eq, List.length_append]; exact h

set_option maxHeartbeats 1000000 in
set_option maxRecDepth 100000 in
theorem parts_any (s : ByteArray) (c : UInt8) (w : World) (hs : s.size ≤ 100000000) :
    Calls Tryd.prog 31 #[.string s, .int .u8 (c.toNat : Int)] w (PartsEnd w c s.data.toList) := by
  obtain ⟨i0, hi, hz0, hz1, hz2⟩ := info_parts info_string
  have hsz := size_data s
  have Hz := Lib.hid hsz
  have hc256 := c.toNat_lt
  clear hsz
  go_enter Tryd.func31, Tryd.ntmps31
  go_wp2
  go_loopw [5, 6, 7] (fun v f i wr => PartsAt w c s.data.toList v f i wr) (fun _ _ i _ => s.size + 1 - (intOf i).toNat)
  case atStart => exact ⟨0, 0, [], by omega, by omega, rfl, rfl, by simp, World.ownsRow_nil _ _ _ _, Below.refl _ _, Adr.PRel.start _ _⟩
  case round =>
    obtain ⟨k, q, D, hk, hq, rfl, rfl, hD, hown, hb, hP⟩ := hrel
    rw [Hz.out] at hk
    by_cases h1 : k ≤ s.size
    · by_cases h2 : k < s.size
      · have hlt2 : k < s.data.toList.length := by rw [Hz.out]; exact h2
        have hget : s.data.toList[k] = s[k] := rfl
        have hne : ((k : Int) == (s.size : Int)) = false := by rw [beq_eq_false_iff_ne]; omega
        by_cases h3 : s[k] = c
        · have hP' := Lib.hid (hP.out.hit hlt2 (hget.trans h3))
          have heq : ((s[k].toNat : Int) == (c.toNat : Int)) = true := by rw [h3]; simp
          clear h3 hget hP
          go_wp2_with (at_builtin; refine app_new rfl _ _ 54 rfl w wr 9 i0 _ 1 16 Tryd.underlying54 hi hz0 hz1 hz2 rfl (by decide) (by decide) hown hb rfl 1 1 [.string (s.extract q k)] rfl rfl (by simp; rfl) (by omega) ?_; intro v' w' hown' hb')
          go_roundw
          case rel => exact ⟨k + 1, k + 1, _, by rw [Hz.out]; omega, by omega, by go_num, by go_num, by simp; omega, own_push hown', hb', hP'⟩
          case measure => simp [intOf]; omega
        · have hP' := Lib.hid (hP.out.other hlt2 (fun e => h3 (hget.symm.trans e)))
          have hneq : ((s[k].toNat : Int) == (c.toNat : Int)) = false := by
            rw [beq_eq_false_iff_ne]; intro e; exact h3 (UInt8.toNat_inj.1 (by omega))
          clear h3 hget hP
          go_wp2_with fail
          go_roundw
          case rel => exact ⟨k + 1, q, _, by rw [Hz.out]; omega, by omega, by go_num, rfl, by omega, hown, hb, hP'⟩
          case measure => simp [intOf]; omega
      · obtain rfl : k = s.size := by omega
        have hP' := hP.out
        rw [← Hz.out] at hP'
        have hP2 := Lib.hid hP'.last
        rw [Hz.out] at hP2
        have heq : ((s.size : Int) == (s.size : Int)) = true := by simp
        clear hP hP'
        go_wp2_with (at_builtin; refine app_new rfl _ _ 54 rfl w wr 9 i0 _ 1 16 Tryd.underlying54 hi hz0 hz1 hz2 rfl (by decide) (by decide) hown hb rfl 1 1 [.string (s.extract q s.size)] rfl rfl (by simp; rfl) (by omega) ?_; intro v' w' hown' hb')
        go_roundw
        case rel => exact ⟨s.size + 1, s.size + 1, _, by rw [Hz.out]; omega, by omega, by go_num, by go_num, by simp; omega, own_push hown', hb', hP2⟩
        case measure => simp [intOf]
    · have hk1 : s.size < k := by omega
      have HD := Lib.hid (show D = Adr.parts c s.data.toList from by
        have hP' := hP.out
        rw [show k = s.data.toList.length + 1 by rw [Hz.out]; omega] at hP'
        exact hP'.done)
      clear hP h1
      go_wp2_with fail
      go_ret
      obtain ⟨A, cap, rfl, h5, h6, h7⟩ := rd_own hown
      rw [HD.out] at h5 h7
      exact ⟨A, cap, by rw [HD.out]; rfl, h5, h6, h7, hb⟩
end Go.Proofs.YtlojeeakjgalpaaDoor
