/- The law MetricReads. -/
import Derived.Test.YtmhgacgneckboaaGreatDoorQn
import Derived.Test.YtmhgacgneckboaaGreatDoorQv
namespace Mtr
open Go Go.Lib Ieee Fta Adr
theorem readV_lt (l : List UInt8) : readV l < 18446744073709551616 := by
  unfold readV
  split
  · unfold edgeV
    split
    · decide
    · split
      · decide
      · split <;> decide
  · cases h : dec (Lib.trimPrefix l [45]) with
    | none => exact (by decide : (0 : Nat) < 18446744073709551616)
    | some n =>
      have := (thou_run (dec_small h)).1
      show (if _ then 9223372036854775808 else 0) + thou n < _
      split <;> omega
theorem same_self (a : Nat) : (!aheadB a a && !aheadB a a) = true := by
  unfold aheadB
  rw [decide_eq_false (by omega : ¬ rankB a < rankB a)]; rfl
end Mtr
namespace Go.Proofs.YtmhgacgneckboaaGreatDoor
open Go Go.RowKit Mtr Ieee Fta
set_option maxHeartbeats 1000000 in
theorem reads_any (s : ByteArray) (w : World) (hE : EnvF w) (hb : s.size ≤ maxLen) : Calls Tryz.prog 4 #[.string s] w fun e w' => e = .returned (.bool true) ∧ Below w.heap.size w w' := by
  have HA : Hid (∀ w', Below w.heap.size w w' → Calls Tryz.prog 16 #[] w' fun e w2 => e = .returned (.bool true) ∧ Below w'.heap.size w' w2) := fun w' h => awake11_any w' (hE.below h)
  have HE : Hid (∀ w', Below w.heap.size w w' → Env w') := fun w' h => (hE.below h).env
  have HR : Hid (∀ w', Env w' → s.size ≤ 100 → Calls Tryz.prog 17 #[.string s] w' fun e w2 => e = .returned (.tuple #[.float .f64 (readV s.data.toList), .bool (readOk s.data.toList)]) ∧ Below w'.heap.size w' w2) := fun w' h hs => by
    have := read_val s w' h (by omega)
    unfold ReadEndV at this
    exact this
  have HQ : Hid (∀ w', s.size ≤ 100 → Calls Tryz.prog 18 #[.string s] w' fun e w2 => e = .returned (.tuple #[.float .f64 (readV s.data.toList), .bool (readOk s.data.toList)]) ∧ Below w'.heap.size w' w2) := fun w' hs => by
    have := refRead_val s w' (by omega)
    unfold ReadEndV at this
    exact this
  have HS := Lib.hid (fun w => same_any (readV s.data.toList) (readV s.data.toList) w (readV_lt _) (readV_lt _))
  rw [same_self] at HS
  unfold maxLen at hb
  generalize readV s.data.toList = v at *
  generalize readOk s.data.toList = o at *
  clear hE
  go_enter Tryz.func4, Tryz.ntmps4
  by_cases h100 : s.size ≤ 100
  · have h1 : ¬ (100 : Int) < (s.size : Int) := by omega
    have HR2 := Lib.hid (fun w' h => HR.out w' h h100)
    have HQ2 := Lib.hid (fun w' => HQ.out w' h100)
    clear HR HQ
    go_wp2_with fail
    refine (HR2.out _ (HE.out _ (Below.refl _ _))).mono ?_
    rintro e w1 ⟨rfl, hb1⟩
    have HB1 := Lib.hid hb1
    clear hb1
    go_wp2_with fail
    refine (HQ2.out _).mono ?_
    rintro e w2 ⟨rfl, hb2⟩
    have HB2 := Lib.hid (below_step HB1.out hb2)
    clear hb2
    go_wp2_with fail
    refine (HS.out _).mono ?_
    rintro e w' ⟨rfl, rfl⟩
    go_wp2_with fail
    refine (HA.out _ HB2.out).mono ?_
    rintro e w3 ⟨rfl, hb3⟩
    have HB3 := Lib.hid (below_step HB2.out hb3)
    clear hb3
    go_wp2_with fail
    go_ret
    exact ⟨rfl, HB3.out⟩
  · have h1 : (100 : Int) < (s.size : Int) := by omega
    go_wp2_with fail
    refine (HA.out _ (Below.refl _ _)).mono ?_
    rintro e w' ⟨rfl, hb⟩
    go_wp2_with fail
    go_ret
    exact ⟨rfl, hb⟩
end Go.Proofs.YtmhgacgneckboaaGreatDoor
