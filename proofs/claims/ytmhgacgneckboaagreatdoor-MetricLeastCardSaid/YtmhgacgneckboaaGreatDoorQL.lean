/- Plain facts: the least of a list is the first one ahead of which none stands. The law MetricLeast. -/
import Derived.Test.YtmhgacgneckboaaGreatDoorQn
namespace Mtr
open Go Ieee Fta
/-- Stands none of the first m ahead of the one at i? -/
def noneTo (l : List Nat) (i : Nat) : Nat → Bool
  | 0 => true
  | m + 1 => noneTo l i m && !aheadB (l.getD m 0) (l.getD i 0)
/-- The first of k ahead of which none of all stands. -/
def wantTo (l : List Nat) : Nat → Option Nat
  | 0 => none
  | k + 1 => match wantTo l k with
    | some a => some a
    | none => if noneTo l k l.length then some k else none
def wantI (l : List Nat) (k : Nat) : Int := match wantTo l k with | none => -1 | some a => (a : Int)
theorem none_iff {l : List Nat} {i : Nat} : ∀ {m : Nat}, noneTo l i m = true ↔ ∀ j < m, aheadB (l.getD j 0) (l.getD i 0) = false
  | 0 => ⟨fun _ j h => absurd h (by omega), fun _ => rfl⟩
  | m + 1 => by
    unfold noneTo
    rw [Bool.and_eq_true, none_iff, Bool.not_eq_true']
    constructor
    · rintro ⟨h1, h2⟩ j hj
      rcases Nat.lt_or_ge j m with h | h
      · exact h1 j h
      · obtain rfl : j = m := by omega
        exact h2
    · intro h
      exact ⟨fun j hj => h j (by omega), h m (by omega)⟩
theorem ahead_iff {a b : Nat} : aheadB a b = true ↔ rankB a < rankB b := by unfold aheadB; exact decide_eq_true_iff
theorem ahead_iff_not {a b : Nat} : aheadB a b = false ↔ ¬ rankB a < rankB b := by unfold aheadB; exact decide_eq_false_iff_not
theorem least_spec {l : List Nat} : ∀ {k a : Nat}, leastTo l k = some a → (∀ j < k, aheadB (l.getD j 0) (l.getD a 0) = false) ∧ ∀ j < a, aheadB (l.getD a 0) (l.getD j 0) = true
  | 0, _, h => by cases h
  | k + 1, a, h => by
    unfold leastTo at h
    cases hc : leastTo l k with
    | none =>
      rw [hc] at h
      injection h with h
      subst h
      cases k with
      | zero =>
        refine ⟨fun j hj => ?_, fun j hj => absurd hj (by omega)⟩
        obtain rfl : j = 0 := by omega
        rw [ahead_iff_not]; omega
      | succ k =>
        exfalso
        unfold leastTo at hc
        split at hc
        · cases hc
        · split at hc <;> cases hc
    | some c =>
      rw [hc] at h
      obtain ⟨h1, h2⟩ := least_spec hc
      have hck := least_some hc
      dsimp only at h
      split at h
      · rename_i hb
        injection h with h
        subst h
        rw [ahead_iff] at hb
        refine ⟨fun j hj => ?_, fun j hj => ?_⟩
        · rw [ahead_iff_not]
          rcases Nat.lt_or_ge j k with h | h
          · have := ahead_iff_not.1 (h1 j h); omega
          · obtain rfl : j = k := by omega
            omega
        · rw [ahead_iff]
          have := ahead_iff_not.1 (h1 j hj); omega
      · rename_i hb
        injection h with h
        subst h
        refine ⟨fun j hj => ?_, h2⟩
        rcases Nat.lt_or_ge j k with h | h
        · exact h1 j h
        · obtain rfl : j = k := by omega
          simpa using hb
theorem want_before {l : List Nat} {a : Nat} (ha : a < l.length) (h : ∀ j < a, aheadB (l.getD a 0) (l.getD j 0) = true) : ∀ {k : Nat}, k ≤ a → wantTo l k = none
  | 0, _ => rfl
  | k + 1, hk => by
    unfold wantTo
    rw [want_before ha h (by omega)]
    have : noneTo l k l.length ≠ true := by
      intro e
      have h1 := none_iff.1 e a ha
      rw [h k (by omega)] at h1; cases h1
    dsimp only
    rw [if_neg this]
theorem want_after {l : List Nat} {a : Nat} (ha : a < l.length) (h0 : ∀ j < l.length, aheadB (l.getD j 0) (l.getD a 0) = false) (h : ∀ j < a, aheadB (l.getD a 0) (l.getD j 0) = true) : ∀ d : Nat, wantTo l (a + 1 + d) = some a
  | 0 => by
    show wantTo l (a + 1) = _
    unfold wantTo
    rw [want_before ha h (Nat.le_refl _)]
    dsimp only
    rw [if_pos (none_iff.2 h0)]
  | d + 1 => by
    show wantTo l (a + 1 + d + 1) = _
    unfold wantTo
    rw [want_after ha h0 h d]
theorem least_want (l : List Nat) : leastI l l.length = wantI l l.length := by
  unfold leastI wantI
  cases hc : leastTo l l.length with
  | none =>
    have : l.length = 0 := by
      cases hl : l.length with
      | zero => rfl
      | succ k =>
        exfalso
        rw [hl] at hc
        unfold leastTo at hc
        split at hc
        · cases hc
        · split at hc <;> cases hc
    rw [this]; rfl
  | some a =>
    obtain ⟨h1, h2⟩ := least_spec hc
    have ha := least_some hc
    have := want_after ha h1 h2 (l.length - (a + 1))
    rw [show a + 1 + (l.length - (a + 1)) = l.length by omega] at this
    rw [this]
theorem want_none {l : List Nat} {k : Nat} (h : wantTo l k = none) : wantI l k = -1 ∧ wantI l (k + 1) = if noneTo l k l.length then (k : Int) else -1 := by
  have h2 : wantTo l (k + 1) = if noneTo l k l.length then some k else none := by rw [wantTo, h]
  unfold wantI; rw [h, h2]
  refine ⟨rfl, ?_⟩
  cases noneTo l k l.length <;> rfl
theorem want_some {l : List Nat} {k a : Nat} (h : wantTo l k = some a) : wantI l k = (a : Int) ∧ wantI l (k + 1) = (a : Int) := by
  have h2 : wantTo l (k + 1) = some a := by rw [wantTo, h]
  unfold wantI; rw [h, h2]
  exact ⟨rfl, rfl⟩
end Mtr

namespace Go.Proofs.YtmhgacgneckboaaGreatDoor
open Go Go.RowKit Mtr Ieee Fta
set_option maxHeartbeats 1000000 in
set_option maxRecDepth 100000 in
theorem leastLaw_any (A : Option Addr) (cap : Nat) (l : List Nat) (w : World) (hE : EnvF w) (hR : Rd w 1 A l.length (fv l)) (hcap : l.length ≤ cap) (hc : cap ≤ maxLen) (hl : ∀ x ∈ l, x < 18446744073709551616) :
    Calls Tryz.prog 7 #[.slice A l.length cap] w fun e w' => e = .returned (.bool true) ∧ Below w.heap.size w w' := by
  have HR := Lib.hid hR
  have HL := Lib.hid hl
  have HLe := Lib.hid (fun q => least_any A cap l (w.drewN q) (hR.drewN q) hcap hc hl)
  rw [least_want] at HLe
  have HA : Hid (∀ w', Below w.heap.size w w' → Calls Tryz.prog 16 #[] w' fun e w2 => e = .returned (.bool true) ∧ Below w'.heap.size w' w2) := fun w' h => awake11_any w' (hE.below h)
  unfold maxLen at hc
  clear hR hl hE
  go_enter Tryz.func7, Tryz.ntmps7
  by_cases h60 : l.length ≤ 60
  · have h60i : ¬ (60 : Int) < (l.length : Int) := by omega
    go_wp2_with fail
    go_loopw [3, 14] (fun va vi wr => ∃ k : Nat, k ≤ l.length ∧ vi = .int .i64 k ∧ va = .int .i64 (wantI l k) ∧ ∃ q, wr = w.drewN q) (fun _ vi _ => l.length - (intOf vi).toNat)
    case atStart => exact ⟨0, by omega, rfl, rfl, 0, rfl⟩
    case round =>
      obtain ⟨k, hk, rfl, rfl, q, rfl⟩ := hrel
      by_cases hkl : k < l.length
      · obtain ⟨B, O, rfl, hB, hadd, y0⟩ := HR.out.fltAt hkl
        have hfk := HL.out _ (List.getElem_mem hkl)
        have hgk : l.getD k 0 = l[k] := by rw [List.getD_eq_getElem?_getD, List.getElem?_eq_getElem hkl]; rfl
        obtain ⟨f0, wk, hwk, hf0, HF⟩ : ∃ (f0 : Bool) (wk : Int), wantI l k = wk ∧ decide (wk < 0) = f0 ∧ Hid (∀ b : Bool, (f0 && noneTo l k l.length) = b → wantI l (k + 1) = if b then (k : Int) else wk) := by
          cases hw : wantTo l k with
          | none =>
            obtain ⟨e1, e2⟩ := want_none hw
            exact ⟨true, -1, e1, rfl, fun b hb => by rw [e2, ← hb, Bool.true_and]⟩
          | some a =>
            obtain ⟨e1, e2⟩ := want_some hw
            exact ⟨false, a, e1, decide_eq_false (by omega), fun b hb => by rw [e2, ← hb, Bool.false_and]; rfl⟩
        rw [hwk]
        clear hwk
        have HC : Hid (∀ m (hm : m < l.length) W, Calls Tryz.prog 15 #[.float .f64 l[m], .float .f64 l[k]] W fun e w' => e = .returned (.bool (aheadB l[m] l[k])) ∧ w' = W) := fun m hm W => ahead_any _ _ W (HL.out _ (List.getElem_mem hm)) hfk
        have HS : Hid (∀ m (hm : m < l.length), noneTo l k (m + 1) = (noneTo l k m && !aheadB l[m] l[k])) := fun m hm => by
          have hgm : l.getD m 0 = l[m] := by rw [List.getD_eq_getElem?_getD, List.getElem?_eq_getElem hm]; rfl
          rw [noneTo, hgm, hgk]
        clear hgk hfk
        go_wp2_with fail
        go_loopw [5, 21] (fun vf vj wr => ∃ m : Nat, m ≤ l.length ∧ vj = .int .i64 m ∧ vf = .bool (f0 && noneTo l k m) ∧ ∃ q, wr = w.drewN q) (fun _ vj _ => l.length - (intOf vj).toNat)
        case atStart => exact ⟨0, by omega, rfl, by simp [noneTo], q, rfl⟩
        case round =>
          obtain ⟨m, hm, rfl, rfl, q2, rfl⟩ := hrel
          by_cases hml : m < l.length
          · obtain ⟨B2, O2, hA2, -, hadd2, y2⟩ := HR.out.fltAt hml
            injection hA2 with hA2
            injection hA2 with hBB hOO
            subst hBB hOO
            have hS := HS.out m hml
            have HC2 := Lib.hid (HC.out m hml)
            have HN : Hid (∀ b : Bool, (f0 && noneTo l k m && !aheadB l[m] l[k]) = b → (f0 && noneTo l k (m + 1)) = b) := fun b hb => by rw [hS, ← Bool.and_assoc]; exact hb
            clear hS
            generalize (f0 && noneTo l k m) = ff at *
            generalize aheadB l[m] l[k] = ab at *
            generalize l[m] = fm at *
            generalize l[k] = fk at *
            cases ff with
            | false =>
              go_wp2_with fail
              go_roundw
              case rel => exact ⟨m + 1, by omega, by go_num, by rw [HN.out false rfl], _, rfl⟩
              case measure => simp [intOf]; omega
            | true =>
              go_wp2_with fail
              refine (HC2.out _).mono ?_
              rintro e w' ⟨rfl, rfl⟩
              go_wp2_with fail
              go_roundw
              case rel => exact ⟨m + 1, by omega, by go_num, by rw [HN.out (!ab) rfl], _, rfl⟩
              case measure => simp [intOf]; omega
          · obtain rfl : m = l.length := by omega
            have HF2 := HF.out _ rfl
            generalize (f0 && noneTo l k l.length) = ff at *
            have HF3 := Lib.hid HF2
            clear HF2
            cases ff with
            | true =>
              go_wp2_with fail
              go_roundw
              case rel => exact ⟨k + 1, by omega, by go_num, by rw [HF3.out]; rfl, _, rfl⟩
              case measure => simp [intOf]; omega
            | false =>
              go_wp2_with fail
              go_roundw
              case rel => exact ⟨k + 1, by omega, by go_num, by rw [HF3.out]; rfl, _, rfl⟩
              case measure => simp [intOf]; omega
      · obtain rfl : k = l.length := by omega
        go_wp2_with fail
        refine (HLe.out _).mono ?_
        rintro e w1 ⟨rfl, hb1⟩
        have HB1 := Lib.hid (below_step (below_drews q) hb1)
        clear hb1
        go_wp2_with fail
        refine (HA.out _ HB1.out).mono ?_
        rintro e w2 ⟨rfl, hb2⟩
        have HB2 := Lib.hid (below_step HB1.out hb2)
        clear hb2
        go_wp2_with fail
        go_ret
        exact ⟨rfl, HB2.out⟩
  · have h60i : (60 : Int) < (l.length : Int) := by omega
    go_wp2_with fail
    refine (HA.out _ (Below.refl _ _)).mono ?_
    rintro e w' ⟨rfl, hb⟩
    go_wp2_with fail
    go_ret
    exact ⟨rfl, hb⟩
end Go.Proofs.YtmhgacgneckboaaGreatDoor
