/- The law MetricRanks, and MetricOrder. -/
import Derived.Test.YtmhgacgneckboaaGreatDoorQn
namespace Go.Proofs.YtmhgacgneckboaaGreatDoor
open Go Go.RowKit Mtr Ieee Fta
set_option maxHeartbeats 1000000 in
theorem ranks_any (a b : Nat) (w : World) (hE : EnvF w) (ha : a < 18446744073709551616) (hb : b < 18446744073709551616) : Calls Tryz.prog 3 #[.float .f64 a, .float .f64 b] w fun e w' => e = .returned (.bool true) ∧ Below w.heap.size w w' := by
  have H1 := Lib.hid (fun w => rank_any a w ha)
  have H2 := Lib.hid (fun w => rank_any b w hb)
  have H3 := Lib.hid (fun w => refRank_any a w ha)
  have H4 := Lib.hid (fun w => less_any a b w ha hb)
  have H5 := Lib.hid (fun w => ahead_any a b w ha hb)
  have hX : decide (rankB a < rankB b) = aheadB a b := rfl
  have HA := Lib.hid (awake11_any w hE)
  generalize rankB a = ra at *
  generalize rankB b = rb at *
  generalize aheadB a b = ab at *
  clear ha hb hE
  go_enter Tryz.func3, Tryz.ntmps3
  go_wp2_with fail
  refine (H1.out _).mono ?_
  rintro e w' ⟨rfl, rfl⟩
  go_wp2_with fail
  refine (H3.out _).mono ?_
  rintro e w' ⟨rfl, rfl⟩
  go_wp2_with fail
  refine (H4.out _).mono ?_
  rintro e w' ⟨rfl, rfl⟩
  go_wp2_with fail
  refine (H5.out _).mono ?_
  rintro e w' ⟨rfl, rfl⟩
  go_wp2_with fail
  refine (H1.out _).mono ?_
  rintro e w' ⟨rfl, rfl⟩
  go_wp2_with fail
  refine (H2.out _).mono ?_
  rintro e w' ⟨rfl, rfl⟩
  go_wp2_with fail
  refine (H5.out _).mono ?_
  rintro e w' ⟨rfl, rfl⟩
  go_wp2_with fail
  refine HA.out.mono ?_
  rintro e w2 ⟨rfl, hb2⟩
  go_wp2_with fail
  go_ret
  exact ⟨rfl, hb2⟩
set_option maxHeartbeats 2000000 in
theorem order_any (a b c : Nat) (w : World) (hE : EnvF w) (ha : a < 18446744073709551616) (hb : b < 18446744073709551616) (hc : c < 18446744073709551616) : Calls Tryz.prog 8 #[.float .f64 a, .float .f64 b, .float .f64 c] w fun e w' => e = .returned (.bool true) ∧ Below w.heap.size w w' := by
  have H0 := Lib.hid (fun w => less_any a a w ha ha)
  have H1 := Lib.hid (fun w => less_any a b w ha hb)
  have H2 := Lib.hid (fun w => less_any b a w hb ha)
  have H3 := Lib.hid (fun w => less_any b c w hb hc)
  have H4 := Lib.hid (fun w => less_any a c w ha hc)
  have H5 := Lib.hid (fun w => rank_any a w ha)
  have H6 := Lib.hid (fun w => rank_any b w hb)
  have h0 : aheadB a a = false := decide_eq_false (by omega)
  rw [h0] at H0
  have HT : Hid ((aheadB a b = true ∧ aheadB b a = false ∧ (rankB a == rankB b) = false) ∨ (aheadB a b = false ∧ aheadB b a = true ∧ (rankB a == rankB b) = false) ∨ (aheadB a b = false ∧ aheadB b a = false ∧ (rankB a == rankB b) = true)) := by
    unfold aheadB
    rcases Int.lt_trichotomy (rankB a) (rankB b) with h | h | h
    · exact Or.inl ⟨decide_eq_true h, decide_eq_false (by omega), beq_eq_false_iff_ne.2 (by omega)⟩
    · exact Or.inr (Or.inr ⟨decide_eq_false (by omega), decide_eq_false (by omega), beq_iff_eq.2 h⟩)
    · exact Or.inr (Or.inl ⟨decide_eq_false (by omega), decide_eq_true h, beq_eq_false_iff_ne.2 (by omega)⟩)
  have HU : Hid (aheadB a b = true → aheadB b c = true → aheadB a c = true) := fun h1 h2 => by
    unfold aheadB at *
    have h1 := of_decide_eq_true h1
    have h2 := of_decide_eq_true h2
    exact decide_eq_true (by omega)
  have HA := Lib.hid (awake11_any w hE)
  generalize hq : (rankB a == rankB b) = sm at *
  generalize rankB a = ra at *
  generalize rankB b = rb at *
  generalize aheadB a b = ab at *
  generalize aheadB b a = ba at *
  generalize aheadB b c = bc at *
  generalize aheadB a c = ac at *
  clear ha hb hc hE h0
  rcases HT.out with ⟨rfl, rfl, rfl⟩ | ⟨rfl, rfl, rfl⟩ | ⟨rfl, rfl, rfl⟩ <;> cases bc <;> cases ac
  all_goals first
    | (exfalso; have := HU.out rfl rfl; cases this; done)
    | skip
  all_goals
    clear HT HU
    go_enter Tryz.func8, Tryz.ntmps8
    go_wp2_with fail
    refine (H1.out _).mono ?_
    rintro e w' ⟨rfl, rfl⟩
    go_wp2_with fail
    refine (H2.out _).mono ?_
    rintro e w' ⟨rfl, rfl⟩
    go_wp2_with fail
    refine (H3.out _).mono ?_
    rintro e w' ⟨rfl, rfl⟩
    go_wp2_with fail
    refine (H4.out _).mono ?_
    rintro e w' ⟨rfl, rfl⟩
    go_wp2_with fail
    refine (H5.out _).mono ?_
    rintro e w' ⟨rfl, rfl⟩
    go_wp2_with fail
    refine (H6.out _).mono ?_
    rintro e w' ⟨rfl, rfl⟩
    go_wp2_with fail
    refine (H0.out _).mono ?_
    rintro e w' ⟨rfl, rfl⟩
    go_wp2_with fail
    refine HA.out.mono ?_
    rintro e w2 ⟨rfl, hb2⟩
    go_wp2_with fail
    go_ret
    exact ⟨rfl, hb2⟩
end Go.Proofs.YtmhgacgneckboaaGreatDoor
