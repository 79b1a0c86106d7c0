/- Walks: two equal rows of numbers (Ints), and the fixed answer of layer 15. -/
import Derived.Test.YtlojeeakjgalpaaDoorPer
namespace Rte
open Go Go.Sort
theorem rulesOf_unique {L : List Ent} {h : ByteArray} {R R' : List Nat} (a : RulesOf L h R) (b : RulesOf L h R') : R = R' :=
  List.Perm.eq_of_pairwise (le := fun x y => slt (keyAt L h) y x = false) (fun x y _ _ h1 h2 => (slt_tot _).tot x y h2 h1) a.2 b.2 (a.1.trans b.1.symm)
def lA : ByteArray := ⟨#[97]⟩
def lB : ByteArray := ⟨#[98]⟩
/-- The fixed answer's entries. -/
def awkL : List Ent := [⟨lA, 4, ⟨#[48, 46, 48, 46, 48, 46, 48, 47, 48]⟩, ⟨#[120]⟩⟩, ⟨lA, 4, ⟨#[49, 48, 46, 48, 46, 48, 46, 48, 47, 56]⟩, ⟨#[121]⟩⟩,
  ⟨lA, 5, ⟨#[57]⟩, ⟨#[112, 101, 114, 109, 105, 116, 32, 97, 110, 121, 32, 97, 110, 121]⟩⟩, ⟨lA, 5, ⟨#[53]⟩, ⟨#[100, 101, 110, 121, 32, 49, 48, 46, 48, 46, 48, 46, 48, 47, 56, 32, 97, 110, 121]⟩⟩]
theorem awk_lk1 : lk awkL lA 167772161 = (8, ⟨#[121]⟩) := by decide +kernel
theorem awk_lk2 : lk awkL lB 5 = (-1, ⟨#[]⟩) := by decide +kernel
theorem awk_spots : spots awkL lA = [2, 3] := by decide +kernel
theorem awk_rules : RulesOf awkL lA [3, 2] := by
  refine ⟨by rw [awk_spots]; exact List.Perm.swap _ _ _, by decide +kernel⟩
theorem awk_p1 : permR awkL 167772160 1 [3, 2] = false := by decide +kernel
theorem awk_p2 : permR awkL 1 167772160 [3, 2] = true := by decide +kernel
end Rte
namespace Go.Proofs.YtlojeeakjgalpaaDoor
open Go Go.RowKit Go.Sort Rte

set_option maxHeartbeats 1000000 in
theorem ints_same (A A' : Option Addr) (c c' : Nat) (R : List Nat) (w : World) (h : Rd w 1 A R.length (nats R)) (h' : Rd w 1 A' R.length (nats R)) (hc : R.length ≤ c) (_hc' : R.length ≤ c') (hm : c ≤ maxLen) (_hm' : c' ≤ maxLen) :
    Calls Tryd.prog 28 #[.slice A R.length c, .slice A' R.length c'] w fun e w' => e = .returned (.bool true) ∧ Below w.heap.size w w' := by
  unfold maxLen at hm _hm'
  go_enter Tryd.func28, Tryd.ntmps28
  go_wp2
  go_loopw [5] (fun vi wr => ∃ k : Nat, k ≤ R.length ∧ vi = .int .i64 k ∧ ∃ n, wr = w.drewN n) (fun vi _ => R.length - (intOf vi).toNat)
  case atStart => exact ⟨0, Nat.zero_le _, rfl, 0, rfl⟩
  case round =>
    obtain ⟨k, hk, rfl, n, rfl⟩ := hrel
    by_cases hlt : k < R.length
    · have hn : (nats R)[k]? = some (pl R[k]) := by rw [nats_get R k hlt]; simp [hlt]
      obtain ⟨a, rfl, ha, ca⟩ := h.cell hn
      obtain ⟨a', rfl, ha', ca'⟩ := h'.cell hn
      generalize R[k] = x at *
      go_wp2_with fail
      go_quiet (fail)
      go_wp2
      go_roundw
      case rel => exact ⟨k + 1, by omega, by go_num, _, rfl⟩
      case measure => simp [intOf]; omega
    · go_wp2
      go_ret
      exact ⟨rfl, below_drews n⟩

theorem nats32 : nats [3, 2] = [.int .i64 3, .int .i64 2] := rfl

set_option maxHeartbeats 4000000 in
set_option maxRecDepth 100000 in
theorem awake15_any (w : World) (hE : Env w) : Calls Tryd.prog 13 #[] w fun e w' => e = .returned (.bool true) ∧ Below w.heap.size w w' := by
  have hb0 : Below w.heap.size w (w.alloc (.cells (ents awkL).toArray 29)) := (Below.refl _ _).alloc (Nat.le_refl _) _
  have hR0 : Rd (w.alloc (.cells (ents awkL).toArray 29)) 4 (some ⟨w.heap.size, 0, none⟩) awkL.length (ents awkL) := by
    refine ⟨ents_length _, fun _ => ⟨_, rfl, by simp, fun j u hu => ?_⟩⟩
    rw [add_plain, Nat.zero_add, World.cell?_alloc_at _ _ _ _ rfl]
    simpa using hu
  have hE0 : Env (w.alloc (.cells (ents awkL).toArray 29)) := hE.below hb0
  have hsm : ∀ e ∈ awkL, e.key.size ≤ 100000000 ∧ e.val.size ≤ 100000000 := by decide +kernel
  have H1 := Lib.hid (lookup_any (some ⟨w.heap.size, 0, none⟩) 4 awkL lA 167772161 _ hE0 hR0 (Nat.le_refl 4) (by unfold maxLen; omega) fun e he => (hsm e he).1)
  rw [awk_lk1] at H1
  have H2 := Lib.hid (show ∀ W, Env W → Rd W 4 (some ⟨w.heap.size, 0, none⟩) awkL.length (ents awkL) → Calls Tryd.prog 14 #[.slice (some ⟨w.heap.size, 0, none⟩) 4 4, .string ⟨#[98]⟩, .int .i64 5] W fun e w' => e = .returned (.tuple #[.string ⟨#[]⟩, .bool false]) ∧ Below W.heap.size W w' from fun W hW hR => by
    have := lookup_any (some ⟨w.heap.size, 0, none⟩) 4 awkL lB 5 W hW hR (Nat.le_refl 4) (by unfold maxLen; omega) fun e he => (hsm e he).1
    rw [awk_lk2] at this; exact this)
  have H3 := Lib.hid (show ∀ W, Env W → Rd W 4 (some ⟨w.heap.size, 0, none⟩) awkL.length (ents awkL) → Calls Tryd.prog 15 #[.slice (some ⟨w.heap.size, 0, none⟩) 4 4, .string ⟨#[97]⟩, .int .i64 167772160, .int .i64 1] W fun e w' => e = .returned (.bool false) ∧ Below W.heap.size W w' from fun W hW hR => by
    refine (permit_any (some ⟨w.heap.size, 0, none⟩) 4 awkL lA 167772160 1 W hW hR (Nat.le_refl 4) (by unfold maxLen; omega) (by decide) hsm).mono fun e w' ⟨R, hRO, he, hb⟩ => ⟨?_, hb⟩
    rw [he, rulesOf_unique hRO awk_rules, awk_p1])
  have H4 := Lib.hid (show ∀ W, Env W → Rd W 4 (some ⟨w.heap.size, 0, none⟩) awkL.length (ents awkL) → Calls Tryd.prog 15 #[.slice (some ⟨w.heap.size, 0, none⟩) 4 4, .string ⟨#[97]⟩, .int .i64 1, .int .i64 167772160] W fun e w' => e = .returned (.bool true) ∧ Below W.heap.size W w' from fun W hW hR => by
    refine (permit_any (some ⟨w.heap.size, 0, none⟩) 4 awkL lA 1 167772160 W hW hR (Nat.le_refl 4) (by unfold maxLen; omega) (by decide) hsm).mono fun e w' ⟨R, hRO, he, hb⟩ => ⟨?_, hb⟩
    rw [he, rulesOf_unique hRO awk_rules, awk_p2])
  have H5 := Lib.hid (show ∀ W, Env W → Rd W 4 (some ⟨w.heap.size, 0, none⟩) awkL.length (ents awkL) → Calls Tryd.prog 18 #[.slice (some ⟨w.heap.size, 0, none⟩) 4 4, .string ⟨#[97]⟩] W fun e w' => ∃ A c, e = .returned (.slice A 2 c) ∧ 2 ≤ c ∧ c ≤ maxLen ∧ Rd w' 1 A 2 (nats [3, 2]) ∧ Below W.heap.size W w' from fun W hW hR => by
    refine (rules_any (some ⟨w.heap.size, 0, none⟩) 4 awkL lA W hW hR (Nat.le_refl 4) (by unfold maxLen; omega) (by decide) hsm).mono fun e w' ⟨A, c, R, he, h1, h2, h3, hRO, hb⟩ => ?_
    obtain rfl := rulesOf_unique hRO awk_rules
    exact ⟨A, c, he, h1, h2, h3, hb⟩)
  have HB0 := Lib.hid hb0
  have HR0 := Lib.hid hR0
  clear hsm hE hb0 hR0
  go_enter Tryd.func13, Tryd.ntmps13
  go_wp2_with fail
  refine Calls.mono (w := w.alloc (.cells (ents awkL).toArray 29)) H1.out ?_
  rintro e w1 ⟨rfl, hb1⟩
  have hE1 := hE0.below hb1
  have hR1 := HR0.out.below hb1
  have HB1 : Hid (Below w.heap.size w w1) := below_step HB0.out hb1
  clear hE0 hb1 H1 HB0 HR0
  rw [show decide ((0 : Int) ≤ ((8 : Int), (⟨#[121]⟩ : ByteArray)).1) = true from rfl]
  go_wp2_with fail
  refine (H2.out _ hE1 hR1).mono ?_
  rintro e w2 ⟨rfl, hb2⟩
  have hE2 := hE1.below hb2
  have hR2 := hR1.below hb2
  have HB2 : Hid (Below w.heap.size w w2) := below_step HB1.out hb2
  clear hE1 hR1 hb2 H2 HB1
  go_wp2_with fail
  refine (H3.out _ hE2 hR2).mono ?_
  rintro e w3 ⟨rfl, hb3⟩
  have hE3 := hE2.below hb3
  have hR3 := hR2.below hb3
  have HB3 : Hid (Below w.heap.size w w3) := below_step HB2.out hb3
  clear hE2 hR2 hb3 H3 HB2
  go_wp2_with fail
  refine (H4.out _ hE3 hR3).mono ?_
  rintro e w4 ⟨rfl, hb4⟩
  have hE4 := hE3.below hb4
  have hR4 := hR3.below hb4
  have HB4 : Hid (Below w.heap.size w w4) := below_step HB3.out hb4
  clear hE3 hR3 hb4 H4 HB3
  go_wp2_with fail
  refine (H5.out _ hE4 hR4).mono ?_
  rintro e w5 ⟨A, c, rfl, h1, h2, hRd, hb5⟩
  have HB5 : Hid (Below w.heap.size w w5) := below_step HB4.out hb5
  have HRd := Lib.hid hRd
  clear hE4 hR4 hb5 H5 HB4 hRd
  go_wp2_with fail
  have hb6 : Below w5.heap.size w5 (w5.alloc (.cells (nats [3, 2]).toArray 3)) := (Below.refl _ _).alloc (Nat.le_refl _) _
  have hR6 : Rd (w5.alloc (.cells (nats [3, 2]).toArray 3)) 1 (some ⟨w5.heap.size, 0, none⟩) 2 (nats [3, 2]) := by
    refine ⟨rfl, fun _ => ⟨_, rfl, by simp, fun j u hu => ?_⟩⟩
    rw [add_plain, Nat.zero_add, World.cell?_alloc_at _ _ _ _ rfl]
    simpa using hu
  have HI := Lib.hid (ints_same A (some ⟨w5.heap.size, 0, none⟩) c 2 [3, 2] _ (HRd.out.below hb6) hR6 h1 (Nat.le_refl _) h2 (by unfold maxLen; omega))
  refine Calls.mono (w := w5.alloc (.cells (nats [3, 2]).toArray 3)) HI.out ?_
  rintro e w6 ⟨rfl, hb7⟩
  have HB6 : Hid (Below w.heap.size w w6) := below_step HB5.out (below_step hb6 hb7)
  clear hb6 hR6 HI hb7 HB5 HRd
  go_wp2
  go_ret
  exact ⟨rfl, HB6.out⟩
end Go.Proofs.YtlojeeakjgalpaaDoor
