/- The law MetricSums. The law MetricAdds. -/
import Derived.Test.YtmhgacgneckboaaGreatDoorQn
import Derived.Test.YtmhgacgneckboaaGreatDoorQs
namespace Go.Proofs.YtmhgacgneckboaaGreatDoor
open Go Go.RowKit Mtr Ieee Fta
theorem sub_good {x : Nat} (h : rungB x < 9218868437227405312) (w : World) : (binOp .sub 22 (.float .f64 x) (.float .f64 x)).run Tryz.prog w = .ok (.float .f64 0) w :=
  run_float_arith w .sub _ .f64 _ _ _ (show double.sub x x = some 0 by rw [sub_self, if_pos h])
theorem sub_none {x : Nat} (h : ¬ rungB x < 9218868437227405312) (w : World) : (binOp .sub 22 (.float .f64 x) (.float .f64 x)).run Tryz.prog w = .ok (.float .f64 (nanCut x x w)) w.drew := by
  have h2 : FloatKind.f64.format.sub x x = none := show double.sub x x = none by rw [sub_self, if_neg h]
  simp [binOp, Op.floatArith, h2, Question.forced, nanCut]
/-- An addition, whatever comes of it. -/
theorem add_case (acc x : Nat) (w : World) (q : Nat) : ∃ s q2, (binOp .add 22 (.float .f64 acc) (.float .f64 x)).run Tryz.prog (w.drewN q) = .ok (.float .f64 s) (w.drewN q2) ∧ AddR acc x s := by
  cases h : double.add acc x with
  | some s => exact ⟨s, q, add_some h _, Or.inl h⟩
  | none => exact ⟨_, q + 1, add_none h _, Or.inr ⟨h, nanCut_nan _ _ _⟩⟩
theorem nan_neq {c : Nat} (h : nanB c = true) : (FloatKind.f64.format.order c 0 != some .eq) = true := by
  rw [nanB_rung] at h
  have : double.order c 0 = none := order_nan c 0 (Or.inl (of_decide_eq_true h))
  show (double.order c 0 != some .eq) = true
  rw [this]; rfl
theorem zero_neq : (FloatKind.f64.format.order 0 0 != some .eq) = false := by decide +kernel
set_option maxHeartbeats 1000000 in
set_option maxRecDepth 100000 in
theorem sums_any (A : Option Addr) (cap : Nat) (l : List Nat) (w : World) (hE : EnvF w) (hR : Rd w 1 A l.length (fv l)) (hcap : l.length ≤ cap) (hc : cap ≤ maxLen) (hl : ∀ x ∈ l, x < 18446744073709551616) :
    Calls Tryz.prog 9 #[.slice A l.length cap] w fun e w' => e = .returned (.bool true) ∧ Below w.heap.size w w' := by
  have HR := Lib.hid hR
  have HL := Lib.hid hl
  have HLe := Lib.hid (fun q => sum_any A cap l (w.drewN q) (hR.drewN q) hcap hc)
  have HA : Hid (∀ w', Below w.heap.size w w' → Calls Tryz.prog 16 #[] w' fun e w2 => e = .returned (.bool true) ∧ Below w'.heap.size w' w2) := fun w' h => awake11_any w' (hE.below h)
  unfold maxLen at hc
  clear hR hl hE
  go_enter Tryz.func9, Tryz.ntmps9
  by_cases h60 : l.length ≤ 60
  · have h60i : ¬ (60 : Int) < (l.length : Int) := by omega
    go_wp2_with fail
    go_loopw [3, 4, 5, 6, 16] (fun va vb vu vd vi wr => ∃ (k want : Nat) (bad up down : Bool), k ≤ l.length ∧ vi = .int .i64 k ∧ va = .float .f64 want ∧ vb = .bool bad ∧ vu = .bool up ∧ vd = .bool down ∧ Hid (SumI l k want bad up down) ∧ ∃ q, wr = w.drewN q) (fun _ _ _ _ vi _ => l.length - (intOf vi).toNat)
    case atStart => exact ⟨0, 0, false, false, false, by omega, rfl, rfl, rfl, rfl, rfl, ⟨rfl, fun h => (by cases h), fun h => (by cases h), fun h => (by cases h)⟩, 0, rfl⟩
    case round =>
      obtain ⟨k, want, bad, up, down, hk, rfl, rfl, rfl, rfl, rfl, HS, q, rfl⟩ := hrel
      by_cases hkl : k < l.length
      · obtain ⟨B, O, rfl, hB, hadd, y0⟩ := HR.out.fltAt hkl
        have hgk : l.getD k 0 = l[k] := by rw [List.getD_eq_getElem?_getD, List.getElem?_eq_getElem hkl]; rfl
        obtain ⟨s, q2, hq, hadR⟩ := add_case want l[k] w q
        have HN := Lib.hid (refNan_any l[k])
        obtain ⟨nb, u, d, g, t, hg, ht, HS2, hsub⟩ : ∃ nb u d g t : Bool, (FloatKind.f64.format.order l[k] 0 == some .gt) = g ∧ (FloatKind.f64.format.order l[k] 0 == some .lt) = t ∧ Hid (nanB l[k] = nb ∧ SumI l (k + 1) s (bad || nb) (up || u) (down || d)) ∧
            ((g = false ∧ t = false ∧ u = false ∧ d = false) ∨ (g = true ∧ u = true ∧ t = false ∧ d = false ∧ ∀ Q, ∃ c q3, (binOp .sub 22 (.float .f64 l[k]) (.float .f64 l[k])).run Tryz.prog (w.drewN Q) = .ok (.float .f64 c) (w.drewN q3) ∧ (FloatKind.f64.format.order c 0 != some .eq) = true) ∨
             (g = false ∧ u = false ∧ t = true ∧ d = true ∧ ∀ Q, ∃ c q3, (binOp .sub 22 (.float .f64 l[k]) (.float .f64 l[k])).run Tryz.prog (w.drewN Q) = .ok (.float .f64 c) (w.drewN q3) ∧ (FloatKind.f64.format.order c 0 != some .eq) = true) ∨
             (u = false ∧ d = false ∧ (g = true ∨ t = true) ∧ ∀ W, (binOp .sub 22 (.float .f64 l[k]) (.float .f64 l[k])).run Tryz.prog W = .ok (.float .f64 0) W)) := by
          have h0 : rungB 0 = 0 := by decide
          have h1 : srB 0 = 0 := by decide
          have hG : ∀ x, (FloatKind.f64.format.order x 0 == some .gt) = (decide (rungB x ≤ 9218868437227405312) && decide (rungB 0 ≤ 9218868437227405312) && decide (srB 0 < srB x)) := fun x => order_isGt x 0
          have hT : ∀ x, (FloatKind.f64.format.order x 0 == some .lt) = (decide (rungB x ≤ 9218868437227405312) && decide (rungB 0 ≤ 9218868437227405312) && decide (srB x < srB 0)) := fun x => order_isLt x 0
          have hlt := HL.out _ (List.getElem_mem hkl)
          generalize l[k] = x at *
          cases hn : nanB x with
          | true =>
            have hr : ¬ rungB x ≤ 9218868437227405312 := by rw [nanB_rung] at hn; have := of_decide_eq_true hn; omega
            refine ⟨true, false, false, false, false, ?_, ?_, ⟨rfl, HS.out.step hgk hadR (fun _ => hn) (fun h => by cases h) (fun h => by cases h)⟩, Or.inl ⟨rfl, rfl, rfl, rfl⟩⟩
            · rw [hG, decide_eq_false hr]; rfl
            · rw [hT, decide_eq_false hr]; rfl
          | false =>
            have hr : rungB x ≤ 9218868437227405312 := by rw [nanB_rung] at hn; have := of_decide_eq_false hn; omega
            have hw := word_split x hlt
            by_cases hi : rungB x = 9218868437227405312
            · have hcut : ∀ Q, ∃ c q3, (binOp .sub 22 (.float .f64 x) (.float .f64 x)).run Tryz.prog (w.drewN Q) = .ok (.float .f64 c) (w.drewN q3) ∧ (FloatKind.f64.format.order c 0 != some .eq) = true := fun Q => ⟨_, Q + 1, sub_none (by omega) _, nan_neq (nanCut_nan _ _ _).1⟩
              cases hs : negB x with
              | false =>
                have hsr : srB x = 9218868437227405312 := by unfold srB; rw [hs, hi]; rfl
                refine ⟨false, true, false, true, false, ?_, ?_, ⟨rfl, HS.out.step hgk hadR (fun h => by cases h) (fun _ => Or.inr (by rw [← hw, hs, hi])) (fun h => by cases h)⟩, Or.inr (Or.inl ⟨rfl, rfl, rfl, rfl, hcut⟩)⟩
                · rw [hG, decide_eq_true hr, h0, h1, hsr]; rfl
                · rw [hT, decide_eq_true hr, h0, h1, hsr]; rfl
              | true =>
                have hsr : srB x = -9218868437227405312 := by unfold srB; rw [hs, hi]; rfl
                refine ⟨false, false, true, false, true, ?_, ?_, ⟨rfl, HS.out.step hgk hadR (fun h => by cases h) (fun h => by cases h) (fun _ => Or.inr (by rw [← hw, hs, hi]))⟩, Or.inr (Or.inr (Or.inl ⟨rfl, rfl, rfl, rfl, hcut⟩))⟩
                · rw [hG, decide_eq_true hr, h0, h1, hsr]; rfl
                · rw [hT, decide_eq_true hr, h0, h1, hsr]; rfl
            · have hst := HS.out.step (b := false) (u := false) (d := false) hgk hadR (fun h => by cases h) (fun h => by cases h) (fun h => by cases h)
              have hsb : ∀ W, (binOp .sub 22 (.float .f64 x) (.float .f64 x)).run Tryz.prog W = .ok (.float .f64 0) W := fun W => sub_good (by omega) W
              cases hg2 : (FloatKind.f64.format.order x 0 == some .gt) with
              | true => exact ⟨false, false, false, true, _, rfl, rfl, ⟨rfl, hst⟩, Or.inr (Or.inr (Or.inr ⟨rfl, rfl, Or.inl rfl, hsb⟩))⟩
              | false =>
                cases ht2 : (FloatKind.f64.format.order x 0 == some .lt) with
                | true => exact ⟨false, false, false, false, true, rfl, rfl, ⟨rfl, hst⟩, Or.inr (Or.inr (Or.inr ⟨rfl, rfl, Or.inr rfl, hsb⟩))⟩
                | false => exact ⟨false, false, false, false, false, rfl, rfl, ⟨rfl, hst⟩, Or.inl ⟨rfl, rfl, rfl, rfl⟩⟩
        rw [HS2.out.1] at HN
        have HS3 := Lib.hid HS2.out.2
        clear HS HS2 hadR hgk
        have hz := zero_neq
        generalize l[k] = x at *
        rcases hsub with ⟨rfl, rfl, rfl, rfl⟩ | ⟨rfl, rfl, rfl, rfl, hsub⟩ | ⟨rfl, rfl, rfl, rfl, hsub⟩ | ⟨rfl, rfl, -, hsub⟩
        · cases bad <;> cases up <;> cases down
          all_goals
            go_wp2_with fail
            try (refine (HN.out _).mono ?_; rintro e w' ⟨rfl, rfl⟩; go_wp2_with fail)
            go_roundw
            case rel => exact ⟨k + 1, s, _, _, _, by omega, by go_num, rfl, rfl, rfl, rfl, HS3, _, rfl⟩
            case measure => simp [intOf]; omega
        · obtain ⟨c, q3, hc1, hc2⟩ := hsub q2
          clear hsub
          cases bad <;> cases up <;> cases down
          all_goals
            go_wp2_with fail
            try (refine (HN.out _).mono ?_; rintro e w' ⟨rfl, rfl⟩; go_wp2_with fail)
            go_roundw
            case rel => exact ⟨k + 1, s, _, _, _, by omega, by go_num, rfl, rfl, rfl, rfl, HS3, _, rfl⟩
            case measure => simp [intOf]; omega
        · obtain ⟨c, q3, hc1, hc2⟩ := hsub q2
          clear hsub
          cases bad <;> cases up <;> cases down
          all_goals
            go_wp2_with fail
            try (refine (HN.out _).mono ?_; rintro e w' ⟨rfl, rfl⟩; go_wp2_with fail)
            go_roundw
            case rel => exact ⟨k + 1, s, _, _, _, by omega, by go_num, rfl, rfl, rfl, rfl, HS3, _, rfl⟩
            case measure => simp [intOf]; omega
        · cases g <;> cases t <;> cases bad <;> cases up <;> cases down
          all_goals
            go_wp2_with fail
            try (refine (HN.out _).mono ?_; rintro e w' ⟨rfl, rfl⟩; go_wp2_with fail)
            go_roundw
            case rel => exact ⟨k + 1, s, _, _, _, by omega, by go_num, rfl, rfl, rfl, rfl, HS3, _, rfl⟩
            case measure => simp [intOf]; omega
      · obtain rfl : k = l.length := by omega
        go_wp2_with fail
        refine (HLe.out _).mono ?_
        rintro e w1 ⟨⟨r, rfl, hr⟩, hb1⟩
        have HB1 := Lib.hid (below_step (below_drews q) hb1)
        clear hb1
        have hrl := sumTo_lt hr
        have hwl := sumTo_lt HS.out.sum
        have hsm := same_eq (sumTo_eq hr HS.out.sum)
        have HM := Lib.hid (fun W => same_any r want W hrl hwl)
        rw [hsm] at HM
        have HN := Lib.hid (refNan_any r)
        have HQ : Hid ((bad = true → nanB r = true) ∧ (up = true → down = true → nanB r = true)) := ⟨fun h => HS.out.bad h r hr, fun h h2 => inf_both (HS.out.up h r hr) (HS.out.down h2 r hr)⟩
        clear hrl hwl hsm hr HS HLe
        generalize nanB r = nr at *
        cases nr <;> cases bad <;> cases up <;> cases down
        all_goals first
          | (exfalso; have := HQ.out.1 rfl; cases this; done)
          | (exfalso; have := HQ.out.2 rfl rfl; cases this; done)
          | skip
        all_goals
          go_wp2_with fail
          refine (HM.out _).mono ?_
          rintro e w' ⟨rfl, rfl⟩
          go_wp2_with fail
          repeat (refine (HN.out _).mono ?_; rintro e w' ⟨rfl, rfl⟩; go_wp2_with fail)
          refine (HA.out _ HB1.out).mono ?_
          rintro e w2 ⟨rfl, hb2⟩
          have HB2 := Lib.hid (below_step HB1.out hb2)
          clear hb2
          go_wp2_with fail
          go_ret
          exact ⟨rfl, HB2.out⟩
  · have h60i : (60 : Int) < (l.length : Int) := by omega
    go_wp2_with fail
    refine (HA.out _ (Below.refl _ _)).mono ?_
    rintro e w' ⟨rfl, hb⟩
    go_wp2_with fail
    go_ret
    exact ⟨rfl, hb⟩
end Go.Proofs.YtmhgacgneckboaaGreatDoor

namespace Go.Proofs.YtmhgacgneckboaaGreatDoor
open Go Go.RowKit Mtr Ieee Fta
set_option maxHeartbeats 1000000 in
set_option maxRecDepth 100000 in
theorem adds_any (A : Option Addr) (cap : Nat) (l : List Nat) (m : Int) (w : World) (hE : EnvF w) (hR : Rd w 1 A l.length (fv l)) (hcap : l.length ≤ cap) (hc : cap ≤ maxLen) (hl : ∀ x ∈ l, x < 18446744073709551616) (hm : 0 ≤ m ∧ m ≤ 255) :
    Calls Tryz.prog 11 #[.slice A l.length cap, .int .u8 m] w fun e w' => e = .returned (.bool true) ∧ Below w.heap.size w w' := by
  have HR := Lib.hid hR
  have HL := Lib.hid hl
  have HA : Hid (∀ w', Below w.heap.size w w' → Calls Tryz.prog 16 #[] w' fun e w2 => e = .returned (.bool true) ∧ Below w'.heap.size w' w2) := fun w' h => awake11_any w' (hE.below h)
  have HTk : Hid (∀ k, k ≤ l.length → Calls Tryz.prog 24 #[.slice A k cap] w fun e w' => (∃ r, e = .returned (.float .f64 r) ∧ SumTo l k r) ∧ Below w.heap.size w w') := fun k hk => by
    have hlen : (l.take k).length = k := by rw [List.length_take]; omega
    have hp := hR.part (i := 0) (j := k) (cap := cap + 1) (Nat.zero_le _) hk (by omega)
    rw [if_neg (by omega)] at hp
    have hp2 : Rd w 1 A (l.take k).length (fv (l.take k)) := by
      rw [hlen]
      have e1 : A.map (fun a => a.add (0 * 1)) = A := by
        cases A with
        | none => rfl
        | some a => obtain ⟨b, o, sp⟩ := a; cases sp <;> rfl
      have e2 : ((fv l).drop (0 * 1)).take ((k - 0) * 1) = fv (l.take k) := by unfold fv; simp [List.map_take]
      rw [e1, e2, Nat.sub_zero] at hp
      exact hp
    have h := sum_any A cap (l.take k) w hp2 (by omega) hc
    rw [hlen] at h
    refine h.mono ?_
    rintro e w' ⟨⟨r, he, hr⟩, hb⟩
    exact ⟨⟨r, he, (sumTo_take hk (Nat.le_refl _)).1 hr⟩, hb⟩
  have HAll : Hid (∀ w', Below w.heap.size w w' → Calls Tryz.prog 24 #[.slice A l.length cap] w' fun e w2 => (∃ r, e = .returned (.float .f64 r) ∧ SumTo l l.length r) ∧ Below w'.heap.size w' w2) := fun w' hb => sum_any A cap l w' (hR.below hb) hcap hc
  have HRB : Hid (∀ w', Below w.heap.size w w' → Rd w' 1 A l.length (fv l)) := fun w' hb => hR.below hb
  have HS2 : Hid (∀ (W : World) (f x : Nat), Calls Tryz.prog 24 #[.slice (some ⟨W.heap.size, 0, none⟩) 2 2] (W.alloc (.cells #[.float .f64 f, .float .f64 x] 22)) fun e w2 => (∃ r, e = .returned (.float .f64 r) ∧ SumTo [f, x] 2 r) ∧ Below W.heap.size W w2) := fun W f x => by
    refine (sum_any (some ⟨W.heap.size, 0, none⟩) 2 [f, x] _ (rd_litF W [f, x] _) (by simp) (by unfold maxLen; omega)).mono ?_
    rintro e w2 ⟨⟨r, rfl, hr⟩, hb⟩
    exact ⟨⟨r, rfl, hr⟩, ((Below.refl _ _).alloc (Nat.le_refl _) _).trans (hb.mono (by simp))⟩
  unfold maxLen at hc
  clear hR hl hE
  go_enter Tryz.func11, Tryz.ntmps11
  by_cases h60 : l.length ≤ 60
  · have h60i : ¬ (60 : Int) < (l.length : Int) := by omega
    obtain ⟨k, hk, e1⟩ : ∃ k : Nat, k ≤ l.length ∧ m.tmod ((l.length : Int) + 1) = (k : Int) := by
      have h1 := Int.emod_nonneg m (show (l.length : Int) + 1 ≠ 0 by omega)
      have h2 := Int.emod_lt_of_pos m (show 0 < (l.length : Int) + 1 by omega)
      refine ⟨(m % ((l.length : Int) + 1)).toNat, by omega, ?_⟩
      rw [Int.tmod_eq_emod_of_nonneg hm.1]; omega
    have e2 : wrap64 m = m := by unfold wrap64; omega
    obtain ⟨hm0, hm1⟩ := hm
    go_wp2_with fail
    refine (HTk.out k hk).mono ?_
    rintro e w1 ⟨⟨f0, rfl, hf0⟩, hb1⟩
    have HB1 := Lib.hid hb1
    clear hb1
    obtain ⟨n, hn⟩ : ∃ n, l.length - k = n := ⟨_, rfl⟩
    have hkn : k + n = l.length := by omega
    have HI : Hid (∀ r, SumTo l (k + 0) r → EqR f0 r) := fun r hr => sumTo_eq hf0 hr
    have hfl := sumTo_lt hf0
    clear hf0 HTk
    have HX : Hid (∀ j (hj : j < n), ∃ h : k + j < l.length, l.getD (k + j) 0 = l[k + j]) := fun j hj => ⟨by omega, by rw [List.getD_eq_getElem?_getD, List.getElem?_eq_getElem (by omega)]; rfl⟩
    have HST : Hid (∀ j f x f', l.getD (k + j) 0 = x → (∀ r, SumTo l (k + j) r → EqR f r) → SumTo [f, x] 2 f' → (∀ r, SumTo l (k + (j + 1)) r → EqR f' r)) := fun j f x f' hx h1 h2 r hr => by
      obtain ⟨a, h3, h4⟩ := hr
      have h4 : AddR a (l.getD (k + j) 0) r := h4
      rw [hx] at h4
      exact two_eq (h1 a h3) (sumTo_zero h3) (sumTo_lt h3) h2 h4
    by_cases hck : cap = k
    · obtain rfl : n = 0 := by omega
      subst hck
      have hz : l.length - cap = 0 := hn
      have hz2 : l.length = cap := by omega
      rw [hz2] at HAll
      go_wp2_with fail
      go_loopw [6, 27] (fun vf vi wr => vi = .int .i64 0 ∧ vf = .float .f64 f0 ∧ wr = w1) (fun _ _ _ => 0)
      case atStart => exact ⟨rfl, rfl, rfl⟩
      case round =>
        obtain ⟨rfl, rfl, rfl⟩ := hrel
        go_wp2_with fail
        refine (HAll.out _ HB1.out).mono ?_
        rintro e w2 ⟨⟨r, rfl, hr⟩, hb2⟩
        have HB2 := Lib.hid (below_step HB1.out hb2)
        clear hb2
        have hrl := sumTo_lt hr
        have hsm := same_eq (HI.out r hr)
        have HM := Lib.hid (fun W => same_any f0 r W hfl hrl)
        rw [hsm] at HM
        clear hr hrl hsm HI
        go_wp2_with fail
        refine (HM.out _).mono ?_
        rintro e w' ⟨rfl, rfl⟩
        go_wp2_with fail
        refine (HA.out _ HB2.out).mono ?_
        rintro e w3 ⟨rfl, hb3⟩
        have HB3 := Lib.hid (below_step HB2.out hb3)
        clear hb3
        go_wp2_with fail
        go_ret
        exact ⟨rfl, HB3.out⟩
    · have HRD : Hid (∀ w', Below w.heap.size w w' → ∀ j (hj : j < n), ∃ h : k + j < l.length, ∃ B O, A.map (fun x => x.add k) = some ⟨B, O, none⟩ ∧ B < w'.heap.size ∧ (⟨B, O, none⟩ : Addr).add j = ⟨B, O + j, none⟩ ∧ w'.cell? ⟨B, O + j, none⟩ = some (.float .f64 l[k + j])) := fun w' hb j hj => by
        have h : k + j < l.length := by omega
        obtain ⟨B, O, e, hB, -, -⟩ := (HRB.out w' hb).fltAt (i := 0) (by omega)
        obtain ⟨B2, O2, e2, -, -, hc2⟩ := (HRB.out w' hb).fltAt h
        rw [e] at e2
        injection e2 with e2
        injection e2 with e3 e4
        subst e3 e4
        refine ⟨h, B, O + k, ?_, hB, add_plain _ _ _, ?_⟩
        · rw [e, Option.map_some, add_plain]
        · rw [Nat.add_assoc]; exact hc2
      clear HR HL HRB
      go_wp2_with fail
      go_loopw [6, 27] (fun vf vi wr => ∃ (j f : Nat), j ≤ n ∧ vi = .int .i64 j ∧ vf = .float .f64 f ∧ f < 18446744073709551616 ∧ Hid (∀ r, SumTo l (k + j) r → EqR f r) ∧ Hid (Below w.heap.size w wr)) (fun _ vi _ => n - (intOf vi).toNat)
      case atStart => exact ⟨0, f0, by omega, rfl, rfl, hfl, HI, HB1⟩
      case round =>
        obtain ⟨j, f, hj, rfl, rfl, hfl2, HI2, HB2⟩ := hrel
        by_cases hjn : j < n
        · obtain ⟨h, B, O, hA, hB, hadd, hc2⟩ := HRD.out _ HB2.out j hjn
          have hgx := (HX.out j hjn).2
          rw [hA]
          generalize l[k + j] = x at *
          have HST2 := Lib.hid (HST.out j f x · hgx HI2.out)
          clear hgx
          go_wp2_with fail
          refine (HS2.out _ _ _).mono ?_
          rintro e w2 ⟨⟨f', rfl, hf'⟩, hb2⟩
          have HB3 := Lib.hid (below_step HB2.out hb2)
          have HI3 := Lib.hid (HST2.out f' hf')
          have hfl3 := sumTo_lt hf'
          clear hb2 hf'
          go_wp2_with fail
          go_roundw
          case rel => exact ⟨j + 1, f', by omega, by go_num, rfl, hfl3, HI3, HB3⟩
          case measure => simp [intOf]; omega
        · obtain rfl : j = n := by omega
          go_wp2_with fail
          refine (HAll.out _ HB2.out).mono ?_
          rintro e w2 ⟨⟨r, rfl, hr⟩, hb2⟩
          have HB3 := Lib.hid (below_step HB2.out hb2)
          clear hb2
          have hrl := sumTo_lt hr
          have hsm := same_eq (HI2.out r (by rw [hkn]; exact hr))
          have HM := Lib.hid (fun W => same_any f r W hfl2 hrl)
          rw [hsm] at HM
          clear hr hrl hsm HI2
          go_wp2_with fail
          refine (HM.out _).mono ?_
          rintro e w' ⟨rfl, rfl⟩
          go_wp2_with fail
          refine (HA.out _ HB3.out).mono ?_
          rintro e w3 ⟨rfl, hb3⟩
          have HB4 := Lib.hid (below_step HB3.out hb3)
          clear hb3
          go_wp2_with fail
          go_ret
          exact ⟨rfl, HB4.out⟩
  · have h60i : (60 : Int) < (l.length : Int) := by omega
    go_wp2_with fail
    refine (HA.out _ (Below.refl _ _)).mono ?_
    rintro e w' ⟨rfl, hb⟩
    go_wp2_with fail
    go_ret
    exact ⟨rfl, hb⟩
end Go.Proofs.YtmhgacgneckboaaGreatDoor
