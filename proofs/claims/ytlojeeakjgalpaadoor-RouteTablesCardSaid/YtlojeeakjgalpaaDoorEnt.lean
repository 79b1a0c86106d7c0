/- Entries in memory: a slice of them reads as a list; the walk of few. -/
import Derived.Test.YtlojeeakjgalpaaDoorEnv
import Derived.Test.YtlojeeakjgalpaaDoorW
import Derived.Test.YtlojeeakjgalpaaDoorCalc
namespace Rte
open Go
structure Ent where
  host : ByteArray
  kind : Int
  key : ByteArray
  val : ByteArray
def Ent.cells (e : Ent) : List Value := [.string e.host, .int .i64 e.kind, .string e.key, .string e.val]
def Ent.agg (e : Ent) : Value := .agg #[.string e.host, .int .i64 e.kind, .string e.key, .string e.val]
def ents (L : List Ent) : List Value := L.flatMap Ent.cells
theorem ents_length (L : List Ent) : (ents L).length = L.length * 4 := by
  unfold ents
  induction L with
  | nil => rfl
  | cons e L ih => simp only [List.flatMap_cons, List.length_append, ih, List.length_cons, Ent.cells]; simp; omega
theorem ents_get (L : List Ent) (i j : Nat) (hi : i < L.length) (hj : j < 4) : (ents L)[i * 4 + j]? = (L[i].cells)[j]? := by
  unfold ents
  induction L generalizing i with
  | nil => cases hi
  | cons e L ih =>
    cases i with
    | zero =>
      rw [List.flatMap_cons, List.getElem?_append_left (by simp [Ent.cells]; omega)]; simp
    | succ i =>
      rw [List.flatMap_cons, List.getElem?_append_right (by simp [Ent.cells]; omega), show (i + 1) * 4 + j - e.cells.length = i * 4 + j by simp [Ent.cells]; omega]
      simpa using ih i (by simpa using hi)
theorem ents_append (L M : List Ent) : ents (L ++ M) = ents L ++ ents M := by unfold ents; simp
theorem ents_one (e : Ent) : ents [e] = e.cells := by unfold ents; simp
theorem cells_one (e : Ent) : ∀ u ∈ e.cells, u.oneCell' = true := by
  intro u hu
  simp only [Ent.cells, List.mem_cons, List.not_mem_nil, or_false] at hu
  rcases hu with rfl | rfl | rfl | rfl <;> rfl
def small (e : Ent) : Bool := decide (e.host.size ≤ 100) && decide (e.key.size ≤ 100) && decide (e.val.size ≤ 100)
theorem few_no (L : List Ent) (k : Nat) (hk : k < L.length) (h6 : k < 60) (h : small L[k] = false) : (L.take 60).all small = false := by
  rw [Bool.eq_false_iff]
  intro ha
  rw [List.all_eq_true] at ha
  have := ha L[k] (by rw [List.mem_take_iff_getElem]; exact ⟨k, by omega, rfl⟩)
  rw [h] at this; cases this
theorem few_step (L : List Ent) (k : Nat) (hk : k < L.length) (ha : (L.take (min k 60)).all small = true) (h : k < 60 → small L[k] = true) : (L.take (min (k + 1) 60)).all small = true := by
  by_cases h6 : k < 60
  · rw [show min k 60 = k by omega] at ha
    rw [show min (k + 1) 60 = k + 1 by omega, List.take_succ_eq_append_getElem hk, List.all_append, ha]
    simp [h h6]
  · rw [show min (k + 1) 60 = min k 60 by omega]; exact ha
theorem few_end (L : List Ent) (ha : (L.take (min L.length 60)).all small = true) : decide ((L.length : Int) ≤ 60) = (decide (L.length ≤ 60) && (L.take 60).all small) := by
  have e : L.take (min L.length 60) = L.take 60 := by
    rcases Nat.le_total L.length 60 with h | h
    · rw [Nat.min_eq_left h, List.take_of_length_le (Nat.le_refl _), List.take_of_length_le h]
    · rw [Nat.min_eq_right h]
  rw [e] at ha
  rw [ha, Bool.and_true]
  exact decide_eq_decide.2 (by omega)
/-- few, for the laws: all of them, if they are few. -/
def fewB (L : List Ent) : Bool := decide (L.length ≤ 60) && (L.take 60).all small
theorem fewB_all {L : List Ent} (h : fewB L = true) : L.length ≤ 60 ∧ ∀ e ∈ L, e.host.size ≤ 100 ∧ e.key.size ≤ 100 ∧ e.val.size ≤ 100 := by
  unfold fewB at h
  simp only [Bool.and_eq_true, decide_eq_true_eq] at h
  rw [List.take_of_length_le h.1, List.all_eq_true] at h
  refine ⟨h.1, fun e he => ?_⟩
  have := h.2 e he
  unfold small at this
  simp only [Bool.and_eq_true, decide_eq_true_eq] at this
  exact ⟨this.1.1, this.1.2, this.2⟩
end Rte
namespace Go.Proofs.YtlojeeakjgalpaaDoor
open Go.RowKit Rte
/-- The four cells of one of them. -/
theorem Rd.ent {w : World} {A : Option Addr} {L : List Ent} (h : Rd w 4 A L.length (ents L)) {i : Nat} (hi : i < L.length) :
    ∃ B O, A = some ⟨B, O, none⟩ ∧ B < w.heap.size ∧ (⟨B, O, none⟩ : Addr).add (i * 4) = ⟨B, O + i * 4, none⟩ ∧ w.cell? ⟨B, O + i * 4, none⟩ = some (.string L[i].host) ∧ w.cell? ⟨B, O + i * 4 + 1, none⟩ = some (.int .i64 L[i].kind) ∧
      w.cell? ⟨B, O + i * 4 + 2, none⟩ = some (.string L[i].key) ∧ w.cell? ⟨B, O + i * 4 + 3, none⟩ = some (.string L[i].val) := by
  obtain ⟨ad, e, hb, hx⟩ := h.2 (by omega)
  have g := fun j (hj : j < 4) => ents_get L i j hi hj
  have h0 := hx (i * 4) _ (by have := g 0 (by omega); simpa [Ent.cells] using this)
  have h1 := hx (i * 4 + 1) _ (by have := g 1 (by omega); simpa [Ent.cells] using this)
  have h2 := hx (i * 4 + 2) _ (by have := g 2 (by omega); simpa [Ent.cells] using this)
  have h3 := hx (i * 4 + 3) _ (by have := g 3 (by omega); simpa [Ent.cells] using this)
  have hs : ad.spot = none := by
    have := World.cell?_spot h1
    unfold Addr.add at this
    split at this
    · exact this
    · have h0' := World.cell?_spot h0
      unfold Addr.add at h0'
      split at h0'
      · exact h0'
      · have h00 := hx 0 _ (by have := ents_get L 0 0 (by omega) (by omega); simpa [Ent.cells] using this)
        exact World.cell?_spot h00
  obtain ⟨B, O, sp⟩ := ad
  obtain rfl : sp = none := hs
  rw [add_plain] at h0 h1 h2 h3
  exact ⟨B, O, e, hb, add_plain _ _ _, h0, h1, h2, h3⟩

set_option maxHeartbeats 1000000 in
set_option maxRecDepth 100000 in
theorem few_any (A : Option Addr) (cap : Nat) (L : List Ent) (w : World) (hR : Rd w 4 A L.length (ents L)) (hcap : L.length ≤ cap) (hc : cap ≤ maxLen) :
    Calls Tryd.prog 12 #[.slice A L.length cap] w fun e w' => e = .returned (.bool (fewB L)) ∧ Below w.heap.size w w' := by
  unfold maxLen at hc
  unfold fewB
  go_enter Tryd.func12, Tryd.ntmps12
  go_wp2
  go_loopw [7] (fun i wr => ∃ k : Nat, k ≤ L.length ∧ i = .int .i64 k ∧ Below w.heap.size w wr ∧ (L.take (min k 60)).all small = true) (fun i _ => L.length - (intOf i).toNat)
  case atStart => exact ⟨0, Nat.zero_le _, rfl, Below.refl _ _, by simp⟩
  case round =>
    obtain ⟨k, hk, rfl, hb, hall⟩ := hrel
    by_cases hlt : k < L.length
    · obtain ⟨B, O, rfl, hab, hadd, h0, h1, h2, h3⟩ := (hR.below hb).ent hlt
      have hsm : small L[k] = (decide (L[k].host.size ≤ 100) && decide (L[k].key.size ≤ 100) && decide (L[k].val.size ≤ 100)) := rfl
      have hbad : k < 60 → small L[k] = false → false = (decide (L.length ≤ 60) && (L.take 60).all small) := fun h6 hs => by
        rw [few_no L k hlt h6 hs, Bool.and_false]
      have hgo : (k < 60 → small L[k] = true) → (L.take (min (k + 1) 60)).all small = true := few_step L k hlt hall
      have HB : Hid _ := hbad
      have HG : Hid _ := hgo
      have HS : Hid _ := hsm
      clear hbad hgo hsm hall
      go_wp2
      all_goals first
        | (go_roundw
           case rel => exact ⟨k + 1, by omega, by go_num, hb.alloc hb.size _, HG.out fun h6 => by rw [HS.out]; simp only [Bool.and_eq_true, decide_eq_true_eq]; omega⟩
           case measure => simp [intOf]; omega)
        | (go_ret
           refine ⟨ret_bool (HB.out (by omega) ?_), hb.alloc hb.size _⟩
           rw [HS.out]
           have hc : ¬ (L[k].host.size ≤ 100 ∧ L[k].key.size ≤ 100 ∧ L[k].val.size ≤ 100) := by omega
           cases hd : (decide (L[k].host.size ≤ 100) && decide (L[k].key.size ≤ 100) && decide (L[k].val.size ≤ 100)) with
           | false => rfl
           | true => simp only [Bool.and_eq_true, decide_eq_true_eq] at hd; exact absurd ⟨hd.1.1, hd.1.2, hd.2⟩ hc)
    · have hk' : k = L.length := by omega
      subst hk'
      have hfin : decide ((L.length : Int) ≤ 60) = (decide (L.length ≤ 60) && (L.take 60).all small) := few_end L hall
      have HF : Hid _ := hfin
      clear hfin hall
      go_wp2
      go_ret
      exact ⟨ret_bool HF.out, hb⟩
end Go.Proofs.YtlojeeakjgalpaaDoor
