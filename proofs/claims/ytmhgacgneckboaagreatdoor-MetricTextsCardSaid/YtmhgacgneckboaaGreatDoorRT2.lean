/- Walks: the reference's text of a metric. Walks: the reference's text of a float that has none. -/
import Derived.Test.YtmhgacgneckboaaGreatDoorR3
import Derived.Test.YtmhgacgneckboaaGreatDoorRT1
import Derived.Test.YtmhgacgneckboaaGreatDoorQS
namespace Mtr
open Go Go.Lib Ieee Fta Adr
theorem ord_gt (f c : Nat) (hf : rungB f ≤ 9218868437227405312) (hc : rungB c ≤ 9218868437227405312) : (FloatKind.f64.format.order f c == some .gt) = decide (srB c < srB f) := by
  have h : (double.order f c == some .gt) = _ := order_isGt f c
  rw [decide_eq_true hf, decide_eq_true hc, Bool.and_self, Bool.true_and] at h
  exact h
theorem ord_lt (f c : Nat) (hf : rungB f ≤ 9218868437227405312) (hc : rungB c ≤ 9218868437227405312) : (FloatKind.f64.format.order f c == some .lt) = decide (srB f < srB c) := by
  have h : (double.order f c == some .lt) = _ := order_isLt f c
  rw [decide_eq_true hf, decide_eq_true hc, Bool.and_self, Bool.true_and] at h
  exact h
theorem ord_eq (f c : Nat) (hf : rungB f ≤ 9218868437227405312) (hc : rungB c ≤ 9218868437227405312) : (FloatKind.f64.format.order f c == some .eq) = decide (srB f = srB c) := by
  have h : (double.order f c == some .eq) = _ := order_isEq f c
  rw [decide_eq_true hf, decide_eq_true hc, Bool.and_self, Bool.true_and] at h
  exact h
theorem sr_1e6 : srB 4696837146684686336 = 4696837146684686336 := by decide
theorem sr_m1e6 : srB 13920209183539462144 = -4696837146684686336 := by decide
theorem sr_0 : srB 0 = 0 := by decide
end Mtr
namespace Go.Proofs.YtmhgacgneckboaaGreatDoor
open Go Go.RowKit Mtr Ieee Fta
theorem cat_mk (a b : List UInt8) : (⟨a.toArray⟩ : ByteArray) ++ ⟨b.toArray⟩ = ⟨(a ++ b).toArray⟩ := by
  apply ByteArray.ext
  rw [ByteArray.data_append]
  simp
theorem one_byte (W : World) (c : UInt8) : (convert 70 9 (.slice (some ⟨W.heap.size, 0, none⟩) 1 1)).run Tryz.prog (W.alloc (.cells #[.int .u8 (c.toNat : Nat)] 5)) = .ok (.string ⟨#[c]⟩) (W.alloc (.cells #[.int .u8 (c.toNat : Nat)] 5)) := by
  refine run_convert_bytes_back _ 70 9 5 _ _ [c] Tryz.underlying70 Tryz.underlying5 Tryz.underlying9 fun j hj => ?_
  have hj0 : j = 0 := by simp at hj; exact hj
  subst hj0
  rw [add_plain, World.cell?_alloc_at _ _ _ _ rfl]
  rfl
set_option maxHeartbeats 1000000 in
set_option maxRecDepth 100000 in
theorem digits11 (n : Nat) : ∀ (w : World), n ≤ 2000000000 → Calls Tryz.prog 37 #[.int .i64 n] w fun e w' => e = .returned (.string ⟨(Lib.decDigits n).toArray⟩) ∧ Below w.heap.size w w' := by
  induction n using Nat.strongRecOn with
  | ind n ih =>
    intro w hn
    have HI : Hid (∀ W, ¬ n < 10 → Calls Tryz.prog 37 #[.int .i64 ((n / 10 : Nat) : Int)] W fun e w' => e = .returned (.string ⟨(Lib.decDigits (n / 10)).toArray⟩) ∧ Below W.heap.size W w') := fun W h => ih (n / 10) (by omega) W (by omega)
    obtain ⟨ρ, hρ⟩ : ∃ ρ, n % 10 = ρ := ⟨_, rfl⟩
    have hρ9 : ρ ≤ 9 := by omega
    have hri : (n : Int).tmod 10 = (ρ : Int) := by rw [Int.tmod_eq_emod_of_nonneg (by omega)]; omega
    have hri2 : (n : Int) % 10 = (ρ : Int) := by omega
    obtain ⟨c, hc⟩ : ∃ c : UInt8, UInt8.ofNat (48 + ρ) = c := ⟨_, rfl⟩
    have hcn : (48 : Int) + (ρ : Int) = ((c.toNat : Nat) : Int) := by rw [← hc]; simp; omega
    have hcb : IntKind.u8.wrap (((c.toNat : Nat) : Int)) = ((c.toNat : Nat) : Int) := by
      have := c.toNat_lt
      rw [IntKind.wrap_u8]; omega
    have HB := one_byte w c
    have HSm : Hid (n < 10 → Lib.decDigits n = [c]) := fun h => by
      rw [Lib.decDigits_one h, ← hc, ← hρ, Nat.mod_eq_of_lt h]
    have HBg : Hid (¬ n < 10 → Lib.decDigits n = Lib.decDigits (n / 10) ++ [c]) := fun h => by rw [dec_big h, hρ, hc]
    have hbw : Hid (Below w.heap.size w (w.alloc (.cells #[.int .u8 (c.toNat : Nat)] 5))) := (Below.refl _ _).alloc (Nat.le_refl _) _
    have HBl := Lib.hid (fun h : ¬ n < 10 => HI.out (w.alloc (.cells #[.int .u8 (c.toNat : Nat)] 5)) h)
    have hdi : ((n / 10 : Nat) : Int) = (n : Int) / 10 := by omega
    rw [hdi] at HBl
    obtain ⟨X, hX⟩ : ∃ X : ByteArray, (⟨(Lib.decDigits (n / 10)).toArray⟩ : ByteArray) = X := ⟨_, rfl⟩
    have hXs : X.size ≤ 1000 := by
      have h1 := Lib.nDigits_le20 (n / 10) (by omega)
      have h2 := Lib.decDigits_length (n / 10)
      rw [← hX, size_mk]; omega
    have HXc : Hid (Lib.decDigits n = Lib.decDigits (n / 10) ++ [c] → (⟨(Lib.decDigits n).toArray⟩ : ByteArray) = X ++ ⟨#[c]⟩) := fun h => by rw [h, ← cat_mk, hX]
    rw [hX] at HBl
    clear ih hρ hc HI hdi hX
    by_cases h9 : n < 10
    · have h9i : ¬ (9 : Int) < (n : Int) := by omega
      have HS := Lib.hid (HSm.out h9)
      clear HBg HBl HXc HSm
      go_enter Tryz.func37, Tryz.ntmps37
      go_wp2_with fail
      go_ret
      exact ⟨by rw [HS.out]; rfl, hbw.out⟩
    · have h9i : (9 : Int) < (n : Int) := by omega
      have HS := Lib.hid (HXc.out (HBg.out h9))
      have HC := Lib.hid (HBl.out h9)
      clear HBg HBl HXc HSm
      go_enter Tryz.func37, Tryz.ntmps37
      go_wp2_with fail
      refine HC.out.mono ?_
      rintro e w2 ⟨rfl, hb2⟩
      have HB2 := Lib.hid (below_step hbw.out hb2)
      clear hb2
      go_wp2_with fail
      go_ret
      exact ⟨by rw [HS.out]; rfl, HB2.out⟩
end Go.Proofs.YtmhgacgneckboaaGreatDoor

namespace Go.Proofs.YtmhgacgneckboaaGreatDoor
open Go Go.RowKit Mtr Ieee Fta
theorem refText_nan (b : Nat) (w : World) (h : nanB b = true) : Calls Tryz.prog 21 #[.float .f64 b] w fun e w' => e = .returned (.tuple #[.string ⟨#[110, 97, 110]⟩, .bool true]) ∧ w' = w := by
  have HN := Lib.hid (refNan_any b)
  rw [h] at HN
  go_enter Tryz.func21, Tryz.ntmps21
  go_wp2_with fail
  refine (HN.out _).mono ?_
  rintro e w' ⟨rfl, rfl⟩
  go_wp2
  refine bodyPost_ret (results_tmp2 rfl _ _ _) rfl ?_
  exact ⟨rfl, rfl⟩
theorem cut_eq0 {c : Nat} (h : nanB c = true) : (FloatKind.f64.format.order c 0 == some .eq) = false := by
  have := nan_neq h
  rw [bne] at this
  simpa using this
set_option maxRecDepth 100000 in
theorem refText_inf (w : World) : Calls Tryz.prog 21 #[.float .f64 9218868437227405312] w fun e w' => e = .returned (.tuple #[.string ⟨#[105, 110, 102]⟩, .bool true]) ∧ Below w.heap.size w w' := by
  have HN := Lib.hid (refNan_any 9218868437227405312)
  rw [show nanB 9218868437227405312 = false by decide +kernel] at HN
  have o1 : (FloatKind.f64.format.order 9218868437227405312 4696837146684686336 == some .gt) = true := by decide +kernel
  have o2 : (FloatKind.f64.format.order 9218868437227405312 0 == some .gt) = true := by decide +kernel
  have hs := sub_none (x := 9218868437227405312) (by decide) w
  have hc := cut_eq0 (nanCut_nan 9218868437227405312 9218868437227405312 w).1
  generalize nanCut 9218868437227405312 9218868437227405312 w = c at *
  go_enter Tryz.func21, Tryz.ntmps21
  go_wp2_with fail
  refine (HN.out _).mono ?_
  rintro e w' ⟨rfl, rfl⟩
  go_wp2
  refine bodyPost_ret (results_tmp2 rfl _ _ _) rfl ?_
  exact ⟨rfl, below_drews 1⟩
set_option maxRecDepth 100000 in
theorem refText_ninf (w : World) : Calls Tryz.prog 21 #[.float .f64 18442240474082181120] w fun e w' => e = .returned (.tuple #[.string ⟨#[45, 105, 110, 102]⟩, .bool true]) ∧ Below w.heap.size w w' := by
  have HN := Lib.hid (refNan_any 18442240474082181120)
  rw [show nanB 18442240474082181120 = false by decide +kernel] at HN
  have o1 : (FloatKind.f64.format.order 18442240474082181120 4696837146684686336 == some .gt) = false := by decide +kernel
  have o3 : (FloatKind.f64.format.order 18442240474082181120 13920209183539462144 == some .lt) = true := by decide +kernel
  have o2 : (FloatKind.f64.format.order 18442240474082181120 0 == some .gt) = false := by decide +kernel
  have hs := sub_none (x := 18442240474082181120) (by decide) w
  have hc := cut_eq0 (nanCut_nan 18442240474082181120 18442240474082181120 w).1
  generalize nanCut 18442240474082181120 18442240474082181120 w = c at *
  go_enter Tryz.func21, Tryz.ntmps21
  go_wp2_with fail
  refine (HN.out _).mono ?_
  rintro e w' ⟨rfl, rfl⟩
  go_wp2
  refine bodyPost_ret (results_tmp2 rfl _ _ _) rfl ?_
  exact ⟨rfl, below_drews 1⟩
/-- Too great, but a number. -/
theorem refText_great (f : Nat) (w : World) (hf : f < 18446744073709551616) (hr : rungB f < 9218868437227405312) (hb : 4696837146684686336 < rungB f) : Calls Tryz.prog 21 #[.float .f64 f] w fun e w' => e = .returned (.tuple #[.string ⟨#[]⟩, .bool false]) ∧ w' = w := by
  have HN := Lib.hid (refNan_any f)
  rw [(rank_fin hf hr).1] at HN
  have hs := sub_good hr
  have hz : (FloatKind.f64.format.order 0 0 == some .eq) = true := by decide +kernel
  have o1 := ord_gt f 4696837146684686336 (by omega) (by decide)
  have o2 := ord_lt f 13920209183539462144 (by omega) (by decide)
  rw [sr_1e6] at o1
  rw [sr_m1e6] at o2
  unfold srB at o1 o2
  cases hn : negB f with
  | false =>
    rw [hn, if_neg (by decide), decide_eq_true (by omega)] at o1
    clear o2 hf hr hb hn
    go_enter Tryz.func21, Tryz.ntmps21
    go_wp2_with fail
    refine (HN.out _).mono ?_
    rintro e w' ⟨rfl, rfl⟩
    go_wp2
    refine bodyPost_ret (results_tmp2 rfl _ _ _) rfl ?_
    exact ⟨rfl, rfl⟩
  | true =>
    rw [hn, if_pos rfl, decide_eq_false (by omega)] at o1
    rw [hn, if_pos rfl, decide_eq_true (by omega)] at o2
    clear hf hr hb hn
    go_enter Tryz.func21, Tryz.ntmps21
    go_wp2_with fail
    refine (HN.out _).mono ?_
    rintro e w' ⟨rfl, rfl⟩
    go_wp2
    refine bodyPost_ret (results_tmp2 rfl _ _ _) rfl ?_
    exact ⟨rfl, rfl⟩
/-- The four ways of a float's sign. -/
structure SignF (f g : Nat) (neg : Bool) : Prop where
  gt : (FloatKind.f64.format.order f 4696837146684686336 == some .gt) = false
  lt : (FloatKind.f64.format.order f 13920209183539462144 == some .lt) = false
  way : (neg = true ∧ (FloatKind.f64.format.order f 0 == some .lt) = true) ∨ ((FloatKind.f64.format.order f 0 == some .lt) = false ∧ (FloatKind.f64.format.order f 0 == some .eq) = false ∧ neg = false) ∨
    ((FloatKind.f64.format.order f 0 == some .lt) = false ∧ (FloatKind.f64.format.order f 0 == some .eq) = true ∧ ∃ q, (∀ w, (binOp .quo 22 (.float .f64 4607182418800017408) (.float .f64 f)).run Tryz.prog w = .ok (.float .f64 q) w) ∧ (FloatKind.f64.format.order q 0 == some .lt) = neg)
  flip : neg = true → ∀ w, (Op.unary UnOp.neg (.float .f64 f)).run Tryz.prog w = .ok (.float .f64 g) w
  same : neg = false → f = g
theorem sign_of (f : Nat) (hf : f < 18446744073709551616) (hr : rungB f ≤ 4696837146684686336) : SignF f (rungB f) (negB f) := by
  have o1 := ord_gt f 4696837146684686336 (by omega) (by decide)
  have o2 := ord_lt f 13920209183539462144 (by omega) (by decide)
  have o3 := ord_lt f 0 (by omega) (by decide)
  have o4 := ord_eq f 0 (by omega) (by decide)
  have hw := word_split f hf
  rw [sr_1e6] at o1
  rw [sr_m1e6] at o2
  rw [sr_0] at o3 o4
  unfold srB at o1 o2 o3 o4
  refine ⟨?_, ?_, ?_, fun h w => ?_, fun h => ?_⟩
  · rw [o1]; apply decide_eq_false; split <;> omega
  · rw [o2]; apply decide_eq_false; split <;> omega
  · by_cases h0 : rungB f = 0
    · rw [h0] at o3 o4
      refine Or.inr (Or.inr ⟨?_, ?_, ?_⟩)
      · rw [o3]; apply decide_eq_false; split <;> decide
      · rw [o4]; apply decide_eq_true; split <;> decide
      · cases hn : negB f with
        | false =>
          have e : f = 0 := by rw [← hw, hn, h0]; rfl
          exact ⟨9218868437227405312, fun w => run_float_arith w .quo _ .f64 _ _ _ (by rw [e]; decide +kernel), by decide +kernel⟩
        | true =>
          have e : f = 9223372036854775808 := by rw [← hw, hn, h0]; decide
          exact ⟨18442240474082181120, fun w => run_float_arith w .quo _ .f64 _ _ _ (by rw [e]; decide +kernel), by decide +kernel⟩
    · cases hn : negB f with
      | true => exact Or.inl ⟨rfl, by rw [o3, hn, if_pos rfl]; exact decide_eq_true (by omega)⟩
      | false => exact Or.inr (Or.inl ⟨by rw [o3, hn, if_neg (by decide)]; exact decide_eq_false (by omega), by rw [o4, hn, if_neg (by decide)]; exact decide_eq_false (by omega), rfl⟩)
  · have := neg_run f hf w
    rw [this]
    congr 2
    rw [h] at hw
    unfold flipB
    unfold Format.word at hw
    rw [if_pos rfl, sign_d] at hw
    rw [if_neg (by omega)]; omega
  · rw [h] at hw
    unfold Format.word at hw
    rw [if_neg (by decide)] at hw
    exact hw.symm
set_option maxHeartbeats 4000000 in
set_option maxRecDepth 100000 in
theorem refText_fin (f : Nat) (w : World) (hf : f < 18446744073709551616) (hr : rungB f < 9218868437227405312) (hn : ∀ neg n, n ≤ 999999999 → f ≠ ofT neg n) : Calls Tryz.prog 21 #[.float .f64 f] w fun e w' => e = .returned (.tuple #[.string ⟨#[]⟩, .bool false]) ∧ w' = w := by
  by_cases hb : 4696837146684686336 < rungB f
  · exact refText_great f w hf hr hb
  have hsg := sign_of f hf (by omega)
  have HN := Lib.hid (refNan_any f)
  rw [(rank_fin hf hr).1] at HN
  obtain ⟨p, r, hp, hr2, n, hn64, hto, -⟩ := ref_whole (g := rungB f) (by omega)
  obtain ⟨v, hv⟩ := run_thousand (P := Tryz.prog) 22 (n : Int)
  have hmul : ∀ w, (binOp .mul 22 (.float .f64 (rungB f)) (.float .f64 4652007308841189376)).run Tryz.prog w = .ok (.float .f64 p) w := fun w => run_float_arith w .mul _ .f64 _ _ _ hp
  have hadd : ∀ w, (binOp .add 22 (.float .f64 p) (.float .f64 4602678819172646912)).run Tryz.prog w = .ok (.float .f64 r) w := fun w => run_float_arith w .add _ .f64 _ _ _ hr2
  have hcv : ∀ w, (convert 22 3 (.float .f64 r)).run Tryz.prog w = .ok (.int .i64 n) w := fun w => run_convert_float_int w 22 3 .f64 .i64 _ _ (by kernel_rfl) Tryz.underlying3 hto
  have hbad : n ≤ 999999999 → (FloatKind.f64.format.order v (rungB f) == some .eq) = false := fun hn9 => by
    have k2 := run_float_arith (P := Tryz.prog) w .quo 22 .f64 _ _ _ (thou_run hn9).2
    have k3 := (hv w).symm.trans k2
    injection k3 with k3
    injection k3 with _ k3
    subst k3
    have hrn : rungB (rungB f) = rungB f := by unfold rungB; omega
    obtain ⟨t1, t2, t3⟩ := thou_rung hn9
    have htb := thou_bound hn9
    rw [ord_eq _ _ (by rw [t1]; omega) (by rw [hrn]; omega)]
    apply decide_eq_false
    have hs1 : srB (thou n) = (thou n : Int) := by unfold srB negB; rw [t1, show thou n / 9223372036854775808 % 2 = 0 by omega]; rfl
    have hrl := rung_lt f
    have hs2 : srB (rungB f) = (rungB f : Int) := by unfold srB negB; rw [hrn, show rungB f / 9223372036854775808 % 2 = 0 by omega]; rfl
    rw [hs1, hs2]
    intro e
    apply hn (negB f) n hn9
    have hw := word_split f hf
    rw [show rungB f = thou n by omega] at hw
    refine hw.symm.trans ?_
    unfold ofT Format.word
    rw [sign_d]
    generalize negB f = ng
    cases ng <;> simp
  have hq2 : (FloatKind.f64.format.order v (rungB f) == some .eq) = true → (999999999 : Int) < (n : Int) := fun h => by
    rcases Nat.lt_or_ge 999999999 n with h2 | h2
    · omega
    · rw [hbad h2] at h; cases h
  obtain ⟨g1, g2, g3, g4, g5⟩ := hsg
  clear hp hr2 hto hbad hn hb hr hf
  generalize rungB f = g at *
  generalize negB f = neg at *
  cases hve : (FloatKind.f64.format.order v g == some .eq) with
  | true =>
    have hq3 := hq2 hve
    have hve2 : (FloatKind.f64.format.order v g != some .eq) = false := by rw [bne, hve]; rfl
    clear hq2
    rcases g3 with ⟨rfl, k1⟩ | ⟨k1, k2, rfl⟩ | ⟨k1, k2, q, k3, k4⟩
    · have g6 := g4 rfl
      clear g4 g5
      go_enter Tryz.func21, Tryz.ntmps21
      go_wp2_with fail
      refine (HN.out _).mono ?_
      rintro e w' ⟨rfl, rfl⟩
      go_wp2
      refine bodyPost_ret (results_tmp2 rfl _ _ _) rfl ?_
      exact ⟨rfl, rfl⟩
    · obtain rfl := g5 rfl
      clear g4 g5
      go_enter Tryz.func21, Tryz.ntmps21
      go_wp2_with fail
      refine (HN.out _).mono ?_
      rintro e w' ⟨rfl, rfl⟩
      go_wp2
      refine bodyPost_ret (results_tmp2 rfl _ _ _) rfl ?_
      exact ⟨rfl, rfl⟩
    · cases neg with
      | true =>
        have g6 := g4 rfl
        clear g4 g5
        go_enter Tryz.func21, Tryz.ntmps21
        go_wp2_with fail
        refine (HN.out _).mono ?_
        rintro e w' ⟨rfl, rfl⟩
        go_wp2
        refine bodyPost_ret (results_tmp2 rfl _ _ _) rfl ?_
        exact ⟨rfl, rfl⟩
      | false =>
        obtain rfl := g5 rfl
        clear g4 g5
        go_enter Tryz.func21, Tryz.ntmps21
        go_wp2_with fail
        refine (HN.out _).mono ?_
        rintro e w' ⟨rfl, rfl⟩
        go_wp2
        refine bodyPost_ret (results_tmp2 rfl _ _ _) rfl ?_
        exact ⟨rfl, rfl⟩
  | false =>
    have hve2 : (FloatKind.f64.format.order v g != some .eq) = true := by rw [bne, hve]; rfl
    clear hq2
    rcases g3 with ⟨rfl, k1⟩ | ⟨k1, k2, rfl⟩ | ⟨k1, k2, q, k3, k4⟩
    · have g6 := g4 rfl
      clear g4 g5
      go_enter Tryz.func21, Tryz.ntmps21
      go_wp2_with fail
      refine (HN.out _).mono ?_
      rintro e w' ⟨rfl, rfl⟩
      go_wp2
      refine bodyPost_ret (results_tmp2 rfl _ _ _) rfl ?_
      exact ⟨rfl, rfl⟩
    · obtain rfl := g5 rfl
      clear g4 g5
      go_enter Tryz.func21, Tryz.ntmps21
      go_wp2_with fail
      refine (HN.out _).mono ?_
      rintro e w' ⟨rfl, rfl⟩
      go_wp2
      refine bodyPost_ret (results_tmp2 rfl _ _ _) rfl ?_
      exact ⟨rfl, rfl⟩
    · cases neg with
      | true =>
        have g6 := g4 rfl
        clear g4 g5
        go_enter Tryz.func21, Tryz.ntmps21
        go_wp2_with fail
        refine (HN.out _).mono ?_
        rintro e w' ⟨rfl, rfl⟩
        go_wp2
        refine bodyPost_ret (results_tmp2 rfl _ _ _) rfl ?_
        exact ⟨rfl, rfl⟩
      | false =>
        obtain rfl := g5 rfl
        clear g4 g5
        go_enter Tryz.func21, Tryz.ntmps21
        go_wp2_with fail
        refine (HN.out _).mono ?_
        rintro e w' ⟨rfl, rfl⟩
        go_wp2
        refine bodyPost_ret (results_tmp2 rfl _ _ _) rfl ?_
        exact ⟨rfl, rfl⟩
end Go.Proofs.YtmhgacgneckboaaGreatDoor
