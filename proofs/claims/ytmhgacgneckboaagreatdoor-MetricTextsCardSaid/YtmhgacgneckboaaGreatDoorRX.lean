/- The law MetricTexts. -/
import Derived.Test.YtmhgacgneckboaaGreatDoorQn
import Derived.Test.YtmhgacgneckboaaGreatDoorRT3
import Derived.Test.YtmhgacgneckboaaGreatDoorRN
namespace Go.Proofs.YtmhgacgneckboaaGreatDoor
open Go Go.RowKit Mtr Ieee Fta Dcp
theorem text_both (f : Nat) (w : World) (hE : EnvM w) (hf : f < 18446744073709551616) : ∃ (T : ByteArray) (o : Bool),
    (∀ w', Below w.heap.size w w' → Calls Tryz.prog 20 #[.float .f64 f] w' fun e w2 => e = .returned (.tuple #[.string T, .bool o]) ∧ Below w'.heap.size w' w2) ∧
    (∀ w', Calls Tryz.prog 21 #[.float .f64 f] w' fun e w2 => e = .returned (.tuple #[.string T, .bool o]) ∧ Below w'.heap.size w' w2) := by
  cases hn : nanB f with
  | true =>
    exact ⟨⟨#[110, 97, 110]⟩, true, fun w' h => (text_nan f w' hn).mono fun e w2 ⟨h1, h2⟩ => ⟨h1, by rw [h2]; exact Below.refl _ _⟩, fun w' => (refText_nan f w' hn).mono fun e w2 ⟨h1, h2⟩ => ⟨h1, by rw [h2]; exact Below.refl _ _⟩⟩
  | false =>
    have hw := word_split f hf
    by_cases hi : rungB f = 9218868437227405312
    · cases hs : negB f with
      | false =>
        have e : f = 9218868437227405312 := by rw [← hw, hs, hi]; rfl
        subst e
        exact ⟨⟨#[105, 110, 102]⟩, true, fun w' h => (text_inf w').mono fun e w2 ⟨h1, h2⟩ => ⟨h1, by rw [h2]; exact Below.refl _ _⟩, fun w' => refText_inf w'⟩
      | true =>
        have e : f = 18442240474082181120 := by rw [← hw, hs, hi]; rfl
        subst e
        exact ⟨⟨#[45, 105, 110, 102]⟩, true, fun w' h => (text_ninf w').mono fun e w2 ⟨h1, h2⟩ => ⟨h1, by rw [h2]; exact Below.refl _ _⟩, fun w' => refText_ninf w'⟩
    · have hr : rungB f < 9218868437227405312 := by rw [nanB_rung] at hn; have := of_decide_eq_false hn; omega
      by_cases hx : ∃ neg n, n ≤ 999999999 ∧ f = ofT neg n
      · obtain ⟨neg, n, h1, rfl⟩ := hx
        exact ⟨⟨(sgn neg ++ textL n).toArray⟩, true, fun w' h => text_thou n h1 neg w' (hE.below h).f, fun w' => refText_thou n h1 neg w'⟩
      · have hn2 : ∀ neg n, n ≤ 999999999 → f ≠ ofT neg n := fun neg n h1 h2 => hx ⟨neg, n, h1, h2⟩
        exact ⟨⟨#[]⟩, false, fun w' h => text_fin f w' (hE.below h).f (hE.below h).l hf hr hn2, fun w' => (refText_fin f w' hf hr hn2).mono fun e w2 ⟨h1, h2⟩ => ⟨h1, by rw [h2]; exact Below.refl _ _⟩⟩
set_option maxHeartbeats 1000000 in
theorem texts_any (f : Nat) (w : World) (hE : EnvM w) (hf : f < 18446744073709551616) : Calls Tryz.prog 5 #[.float .f64 f] w fun e w' => e = .returned (.bool true) ∧ Below w.heap.size w w' := by
  have HA : Hid (∀ w', Below w.heap.size w w' → Calls Tryz.prog 16 #[] w' fun e w2 => e = .returned (.bool true) ∧ Below w'.heap.size w' w2) := fun w' h => awake11_any w' (hE.below h).f
  obtain ⟨T, o, t1, t2⟩ := text_both f w hE hf
  have HT := Lib.hid t1
  have HR := Lib.hid t2
  clear t1 t2 hE hf
  go_enter Tryz.func5, Tryz.ntmps5
  go_wp2_with fail
  refine (HT.out _ (Below.refl _ _)).mono ?_
  rintro e w1 ⟨rfl, hb1⟩
  have HB1 := Lib.hid hb1
  clear hb1
  go_wp2_with fail
  refine (HR.out _).mono ?_
  rintro e w2 ⟨rfl, hb2⟩
  have HB2 := Lib.hid (below_step HB1.out hb2)
  clear hb2
  go_wp2_with fail
  refine (HA.out _ HB2.out).mono ?_
  rintro e w3 ⟨rfl, hb3⟩
  have HB3 := Lib.hid (below_step HB2.out hb3)
  clear hb3
  go_wp2_with fail
  go_ret
  exact ⟨rfl, HB3.out⟩
end Go.Proofs.YtmhgacgneckboaaGreatDoor
