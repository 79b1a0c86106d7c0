/- The law MetricBack. -/
import Derived.Test.YtmhgacgneckboaaGreatDoorQn
import Derived.Test.YtmhgacgneckboaaGreatDoorR3
import Derived.Test.YtmhgacgneckboaaGreatDoorRN
import Derived.Test.YtmhgacgneckboaaGreatDoorQs
namespace Mtr
open Go Go.Lib Ieee Fta Adr
theorem mk_of {s : ByteArray} {l : List UInt8} (h : s.data.toList = l) : (⟨l.toArray⟩ : ByteArray) = s := by rw [← h]
theorem same_self2 (a : Nat) : (!aheadB a a && !aheadB a a) = true := by
  unfold aheadB
  rw [decide_eq_false (by omega : ¬ rankB a < rankB a)]; rfl
theorem same_nan {a b : Nat} (h1 : nanB a = true) (h2 : nanB b = true) : (!aheadB a b && !aheadB b a) = true := by
  unfold aheadB
  rw [rankB_nan h1, rankB_nan h2, decide_eq_false (by omega : ¬ (9223372036854775807 : Int) < 9223372036854775807)]; rfl
end Mtr
namespace Go.Proofs.YtmhgacgneckboaaGreatDoor
open Go Go.RowKit Mtr Ieee Fta Dcp
/-- What is read of a text has that text. -/
theorem text_read (s : ByteArray) (w : World) (hE : EnvM w) (ho : readOk s.data.toList = true) :
    Calls Tryz.prog 20 #[.float .f64 (readV s.data.toList)] w fun e w' => e = .returned (.tuple #[.string s, .bool true]) ∧ Below w.heap.size w w' := by
  rcases readV_cases ho with ⟨he, -⟩ | ⟨he, n, hn, hd, hv⟩
  · have hev : readV s.data.toList = edgeV s.data.toList := by unfold readV; rw [if_pos he]
    unfold edgeOk at he
    by_cases h1 : s.data.toList = sNan
    · have e1 : edgeV s.data.toList = 9221120237041090561 := by unfold edgeV; rw [if_pos h1]
      rw [hev, e1]
      refine (text_nan _ w (by decide +kernel)).mono fun e w' ⟨h2, h3⟩ => ⟨?_, by rw [h3]; exact Below.refl _ _⟩
      rw [h2, ← mk_of h1]; rfl
    by_cases h2 : s.data.toList = sInf
    · have e1 : edgeV s.data.toList = 9218868437227405312 := by unfold edgeV; rw [if_neg h1, if_pos h2]
      rw [hev, e1]
      refine (text_inf w).mono fun e w' ⟨h3, h4⟩ => ⟨?_, by rw [h4]; exact Below.refl _ _⟩
      rw [h3, ← mk_of h2]; rfl
    by_cases h3 : s.data.toList = sNeg
    · have e1 : edgeV s.data.toList = 18442240474082181120 := by unfold edgeV; rw [if_neg h1, if_neg h2, if_pos h3]
      rw [hev, e1]
      refine (text_ninf w).mono fun e w' ⟨h4, h5⟩ => ⟨?_, by rw [h5]; exact Below.refl _ _⟩
      rw [h4, ← mk_of h3]; rfl
    rw [decide_eq_false h1, decide_eq_false h2, decide_eq_false h3] at he; cases he
  · have := text_thou n hn (Lib.hasPrefix s.data.toList [45]) w hE.f
    rw [← hv, dec_canon hd, prefix_split] at this
    refine this.mono fun e w' ⟨h2, h3⟩ => ⟨?_, h3⟩
    rw [h2]
/-- The text of any float, and what it is read as. -/
theorem text_all (f : Nat) (w : World) (hE : EnvM w) (hf : f < 18446744073709551616) : ∃ (T : ByteArray) (o : Bool),
    (∀ w', Below w.heap.size w w' → Calls Tryz.prog 20 #[.float .f64 f] w' fun e w2 => e = .returned (.tuple #[.string T, .bool o]) ∧ Below w'.heap.size w' w2) ∧ T.size ≤ 1000 ∧
    (o = true → readOk T.data.toList = true ∧ (!aheadB f (readV T.data.toList) && !aheadB (readV T.data.toList) f) = true) := by
  cases hn : nanB f with
  | true =>
    refine ⟨⟨#[110, 97, 110]⟩, true, fun w' h => (text_nan f w' hn).mono fun e w2 ⟨h1, h2⟩ => ⟨h1, by rw [h2]; exact Below.refl _ _⟩, by decide, fun _ => ?_⟩
    rw [show (⟨#[110, 97, 110]⟩ : ByteArray).data.toList = sNan from rfl, show readV sNan = 9221120237041090561 by decide +kernel]
    exact ⟨by decide +kernel, same_nan hn (by decide +kernel)⟩
  | false =>
    have hw := word_split f hf
    by_cases hi : rungB f = 9218868437227405312
    · cases hs : negB f with
      | false =>
        have e : f = 9218868437227405312 := by rw [← hw, hs, hi]; rfl
        subst e
        refine ⟨⟨#[105, 110, 102]⟩, true, fun w' h => (text_inf w').mono fun e w2 ⟨h1, h2⟩ => ⟨h1, by rw [h2]; exact Below.refl _ _⟩, by decide, fun _ => ?_⟩
        rw [show (⟨#[105, 110, 102]⟩ : ByteArray).data.toList = sInf from rfl, show readV sInf = 9218868437227405312 by decide +kernel]
        exact ⟨by decide +kernel, same_self2 _⟩
      | true =>
        have e : f = 18442240474082181120 := by rw [← hw, hs, hi]; rfl
        subst e
        refine ⟨⟨#[45, 105, 110, 102]⟩, true, fun w' h => (text_ninf w').mono fun e w2 ⟨h1, h2⟩ => ⟨h1, by rw [h2]; exact Below.refl _ _⟩, by decide, fun _ => ?_⟩
        rw [show (⟨#[45, 105, 110, 102]⟩ : ByteArray).data.toList = sNeg from rfl, show readV sNeg = 18442240474082181120 by decide +kernel]
        exact ⟨by decide +kernel, same_self2 _⟩
    · have hr : rungB f < 9218868437227405312 := by rw [nanB_rung] at hn; have := of_decide_eq_false hn; omega
      by_cases hx : ∃ neg n, n ≤ 999999999 ∧ f = ofT neg n
      · obtain ⟨neg, n, h1, rfl⟩ := hx
        obtain ⟨l1, l2, l3⟩ := text_len neg n h1
        obtain ⟨v1, v2⟩ := text_val neg n h1
        refine ⟨⟨(sgn neg ++ textL n).toArray⟩, true, fun w' h => text_thou n h1 neg w' (hE.below h).f, by rw [size_mk]; omega, fun _ => ?_⟩
        rw [data_mk, v1, v2]
        exact ⟨rfl, same_self2 _⟩
      · refine ⟨⟨#[]⟩, false, fun w' h => text_fin f w' (hE.below h).f (hE.below h).l hf hr (fun neg n h1 h2 => hx ⟨neg, n, h1, h2⟩), by decide, fun h => by cases h⟩
set_option maxHeartbeats 2000000 in
theorem back_any (s : ByteArray) (f : Nat) (w : World) (hE : EnvM w) (hb : s.size ≤ maxLen) (hf : f < 18446744073709551616) : Calls Tryz.prog 6 #[.string s, .float .f64 f] w fun e w' => e = .returned (.bool true) ∧ Below w.heap.size w w' := by
  have HA : Hid (∀ w', Below w.heap.size w w' → Calls Tryz.prog 16 #[] w' fun e w2 => e = .returned (.bool true) ∧ Below w'.heap.size w' w2) := fun w' h => awake11_any w' (hE.below h).f
  have HRd : Hid (∀ (S : ByteArray) w', Below w.heap.size w w' → S.size ≤ 10000 → Calls Tryz.prog 17 #[.string S] w' fun e w2 => e = .returned (.tuple #[.float .f64 (readV S.data.toList), .bool (readOk S.data.toList)]) ∧ Below w'.heap.size w' w2) := fun S w' h hs => by
    have := read_val S w' (hE.below h).f.env (by omega)
    unfold ReadEndV at this
    exact this
  have HTr : Hid (∀ w', Below w.heap.size w w' → readOk s.data.toList = true → Calls Tryz.prog 20 #[.float .f64 (readV s.data.toList)] w' fun e w2 => e = .returned (.tuple #[.string s, .bool true]) ∧ Below w'.heap.size w' w2) := fun w' h ho => text_read s w' (hE.below h) ho
  obtain ⟨T, o, t1, t2, t3⟩ := text_all f w hE hf
  have HT := Lib.hid t1
  have HS : Hid (o = true → ∀ w, Calls Tryz.prog 19 #[.float .f64 f, .float .f64 (readV T.data.toList)] w fun e w' => e = .returned (.bool true) ∧ w' = w) := fun h w => by
    have := same_any f (readV T.data.toList) w hf (readV_lt2 _)
    rw [(t3 h).2] at this; exact this
  have HO : Hid (o = true → readOk T.data.toList = true) := fun h => (t3 h).1
  have HRT : Hid (∀ w', Below w.heap.size w w' → Calls Tryz.prog 17 #[.string T] w' fun e w2 => e = .returned (.tuple #[.float .f64 (readV T.data.toList), .bool (readOk T.data.toList)]) ∧ Below w'.heap.size w' w2) := fun w' h => HRd.out T w' h (by omega)
  have HRs : Hid (∀ w', Below w.heap.size w w' → s.size ≤ 100 → Calls Tryz.prog 17 #[.string s] w' fun e w2 => e = .returned (.tuple #[.float .f64 (readV s.data.toList), .bool (readOk s.data.toList)]) ∧ Below w'.heap.size w' w2) := fun w' h hs => HRd.out s w' h (by omega)
  unfold maxLen at hb
  clear hE hf t1 t2 t3 HRd
  generalize readV T.data.toList = gv at *
  generalize readOk T.data.toList = go at *
  generalize readV s.data.toList = sv at *
  generalize readOk s.data.toList = so at *
  -- the second half, behind whatever world
  go_enter Tryz.func6, Tryz.ntmps6
  by_cases h100 : s.size ≤ 100
  · have h1 : ¬ (100 : Int) < (s.size : Int) := by omega
    have HR2 := Lib.hid (fun w' h => HRs.out w' h h100)
    clear HRs
    go_wp2_with fail
    refine (HR2.out _ (Below.refl _ _)).mono ?_
    rintro e w1 ⟨rfl, hb1⟩
    have HB1 := Lib.hid hb1
    clear hb1 HR2
    cases so
    case' false =>
      go_wp2_with fail
      have HB2 := HB1
    case' true =>
      have HT2 := Lib.hid (HTr.out w1 HB1.out rfl)
      go_wp2_with fail
      refine HT2.out.mono ?_
      rintro e w2 ⟨rfl, hb2⟩
      have HB2 := Lib.hid (below_step HB1.out hb2)
      clear hb2 HT2
      go_wp2_with fail
    all_goals
      clear HTr
      refine (HT.out _ HB2.out).mono ?_
      rintro e w3 ⟨rfl, hb3⟩
      have HB3 := Lib.hid (below_step HB2.out hb3)
      clear hb3 HT
      cases o
      case' false =>
        go_wp2_with fail
        have HB4 := HB3
      case' true =>
        obtain rfl : go = true := HO.out rfl
        have HS2 := Lib.hid (HS.out rfl)
        go_wp2_with fail
        refine (HRT.out _ HB3.out).mono ?_
        rintro e w4 ⟨rfl, hb4⟩
        have HB4 := Lib.hid (below_step HB3.out hb4)
        clear hb4
        go_wp2_with fail
        refine (HS2.out _).mono ?_
        rintro e w' ⟨rfl, rfl⟩
        go_wp2_with fail
      all_goals
        refine (HA.out _ HB4.out).mono ?_
        rintro e w5 ⟨rfl, hb5⟩
        have HB5 := Lib.hid (below_step HB4.out hb5)
        clear hb5
        go_wp2_with fail
        go_ret
        exact ⟨rfl, HB5.out⟩
  · have h1 : (100 : Int) < (s.size : Int) := by omega
    go_wp2_with fail
    refine (HA.out _ (Below.refl _ _)).mono ?_
    rintro e w' ⟨rfl, hb⟩
    go_wp2_with fail
    go_ret
    exact ⟨rfl, hb⟩
end Go.Proofs.YtmhgacgneckboaaGreatDoor
