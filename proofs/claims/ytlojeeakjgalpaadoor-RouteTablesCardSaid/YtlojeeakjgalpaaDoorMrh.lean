/- A walk: the merge of two runs (symMergeCmpFunc), any runs. -/
import Derived.Test.YtlojeeakjgalpaaDoorMrg
namespace Go.Proofs.YtlojeeakjgalpaaDoor
open Go Go.RowKit Go.Sort

/-- What one merge gives. -/
def MergeAt (n : Nat) (cf : Nat → Nat → Int) (vp vq : Value) (w0 : World) (blk off cap N : Nat) (s : Nat → Nat → Bool) (k : Nat) : Prop :=
  ∀ (a m b : Nat) (d : Array Nat) (W : World), b - a ≤ k → d.size = N → Sw w0 blk off d W → Lt n d → StS.Runs (ltf cf) s a m b d →
    Calls Tryd.prog 67 #[.slice (some ⟨blk, off, none⟩) N cap, .int .i64 a, .int .i64 m, .int .i64 b, .func (.func 38) #[] #[vp, vq]] W fun e w' => e = .returned (.tuple #[]) ∧ ∃ d', StS.Merged s a b d d' ∧ Sw w0 blk off d' w'

set_option maxHeartbeats 3000000 in
set_option maxRecDepth 1000000 in
theorem merge_step (n : Nat) (cf : Nat → Nat → Int) (vp vq : Value) (w0 : World) (blk off cap N : Nat) (s : Nat → Nat → Bool) (T : StS.Tot s) (hC : CmpOk n cf vp vq w0 blk) (hsz : N < 2305843009213693952) (k : Nat) (ih : MergeAt n cf vp vq w0 blk off cap N s k) : MergeAt n cf vp vq w0 blk off cap N s (k + 1) := by
  intro a m b d W hk hsN S hn R
  by_cases h1 : m = a + 1
  · have := merge_first n cf vp vq w0 blk off cap a m b s T d W hC S hn R (by omega) h1
    rwa [hsN] at this
  by_cases h2 : b = m + 1
  · have := merge_second n cf vp vq w0 blk off cap a m b s T d W hC S hn R (by omega) h1 h2
    rwa [hsN] at this
  have S0 : Hid (Sw w0 blk off d W) := S
  have HC : Hid (CmpOk n cf vp vq w0 blk) := hC
  have HN : Hid (Lt n d) := hn
  have HR : Hid (StS.Runs (ltf cf) s a m b d) := R
  have HI : Hid (MergeAt n cf vp vq w0 blk off cap N s k) := ih
  have ham : a < m := R.am
  have hmb : m < b := R.mb
  have hbs : b ≤ N := by have := R.bs; omega
  have HS : Hid (d.size = N) := hsN
  obtain ⟨c, hc1, hc2⟩ : ∃ c, 2 * c ≤ a + b ∧ a + b ≤ 2 * c + 1 := ⟨(a + b) / 2, by omega, by omega⟩
  have hc : (a + b) / 2 = c := by omega
  have HCC : Hid ((a + b) / 2 = c) := hc
  have ec : ((a : Int) + (b : Int)) / 2 = (c : Int) := by omega
  have e1 : ((m : Int) - (a : Int) == 1) = false := by simp; omega
  have e2 : ((b : Int) - (m : Int) == 1) = false := by simp; omega
  obtain ⟨z, hz⟩ : ∃ z, c + m = z := ⟨_, rfl⟩
  have ez : (c : Int) + (m : Int) = (z : Int) := by omega
  obtain ⟨p, hp⟩ : ∃ p, p + 1 = z := ⟨z - 1, by omega⟩
  have ep : (z : Int) - 1 = (p : Int) := by omega
  obtain ⟨lo, hlo⟩ : ∃ lo, StS.lo a m b = lo := ⟨_, rfl⟩
  obtain ⟨hi, hhi⟩ : ∃ hi, StS.hi a m b = hi := ⟨_, rfl⟩
  have hle : lo ≤ hi ∧ hi ≤ c ∧ hi ≤ m ∧ a ≤ lo ∧ z ≤ lo + b ∧ (c < m → lo = z - b ∧ hi = c) ∧ (¬ c < m → lo = a ∧ hi = m) := by
    unfold StS.lo at hlo
    unfold StS.hi at hhi
    rw [hc] at hlo hhi
    split at hlo <;> split at hhi <;> omega
  obtain ⟨l1, l2, l3, l4, l5, l6, l7⟩ := hle
  have HL : Hid (StS.lo a m b = lo) := hlo
  have HH : Hid (StS.hi a m b = hi) := hhi
  clear S hC hn R ih hlo hhi hc hsN h1 h2
  have mixed : Tryd.prog.follows .mixedOrders = true := by kernel_rfl
  by_cases hcm : c < m
  · have hA := (l6 hcm).1
    have hB := (l6 hcm).2.symm
    have elo : (z : Int) - (b : Int) = (lo : Int) := by omega
    have hcz : (c : Int) < (m : Int) := by omega
    clear l6 l7 hA
    subst hB
    go_enter Tryd.func67, Tryd.ntmps67
    go_wp2
    go_loopw [20, 21] (fun vi vj wr => ∃ i j : Nat, vi = .int .i64 i ∧ vj = .int .i64 j ∧ lo ≤ i ∧ i ≤ j ∧ j ≤ c ∧ Hid ((i = lo ∨ ltf cf d[p - (i - 1)]! d[i - 1]! = false) ∧ (j = c ∨ ltf cf d[p - j]! d[j]! = true)) ∧ Hid (Sw w0 blk off d wr)) (fun vi vj _ => (intOf vj).toNat - (intOf vi).toNat)
    case atStart => exact ⟨lo, c, rfl, rfl, Nat.le_refl _, by omega, Nat.le_refl _, ⟨.inl rfl, .inl rfl⟩, S0⟩
    case round =>
      clear S0
      obtain ⟨i, j, rfl, rfl, hmi, hij, hjb, HJ, S1⟩ := hrel
      by_cases hlt : i < j
      · have hltz : (i : Int) < (j : Int) := by omega
        obtain ⟨h, hh1, hh2⟩ : ∃ h, 2 * h ≤ i + j ∧ i + j ≤ 2 * h + 1 := ⟨(i + j) / 2, by omega, by omega⟩
        have eh : ((i : Int) + (j : Int)) / 2 = (h : Int) := by omega
        obtain ⟨g, hg⟩ : ∃ g, g + h = p := ⟨p - h, by omega⟩
        have eg : (p : Int) - (h : Int) = (g : Int) := by omega
        have gl : g < N := by omega
        have hl : h < N := by omega
        obtain ⟨x, hx⟩ : ∃ x, d[g]! = x := ⟨_, rfl⟩
        obtain ⟨y, hy⟩ : ∃ x, d[h]! = x := ⟨_, rfl⟩
        obtain ⟨c1, c2, hcmp⟩ := S1.out.two HC.out HN.out (by rw [HS.out]; exact gl) (by rw [HS.out]; exact hl) hx hy
        by_cases hv : cf x y < 0
        · have HT : Hid (ltf cf d[p - h]! d[h]! = true) := by show _ = _; rw [show p - h = g by omega, hx, hy]; exact decide_eq_true hv
          have hd : decide (cf x y < 0) = true := decide_eq_true hv
          clear hx hy
          go_wp2_with fail
          refine wp_region_quiet_below (by kernel_rfl) (by kernel_rfl) ?_
          repeat (go_big_quiet_step ((go_at_call 38; exact hcmp _ _)))
          refine wpQuiet_nil ?_
          intro _ hw'
          obtain ⟨⟨dq, osq⟩, hw''⟩ := hw'
          subst hw''
          have S2 : Hid (Sw w0 blk off d (grow (redrawn wr dq) osq)) := S1.out.regrown dq osq
          clear c1 c2 hcmp S1
          generalize grow (redrawn wr dq) osq = w2 at S2 ⊢
          go_wp2
          go_roundw
          case rel => exact ⟨i, h, rfl, by first | rfl | go_num, by omega, by omega, by omega, ⟨HJ.out.1, .inr HT.out⟩, S2⟩
          case measure => simp [intOf]; omega
        · have HT : Hid (ltf cf d[p - h]! d[h]! = false) := by show _ = _; rw [show p - h = g by omega, hx, hy]; exact decide_eq_false hv
          have hd : decide (cf x y < 0) = false := decide_eq_false hv
          clear hx hy
          go_wp2_with fail
          refine wp_region_quiet_below (by kernel_rfl) (by kernel_rfl) ?_
          repeat (go_big_quiet_step ((go_at_call 38; exact hcmp _ _)))
          refine wpQuiet_nil ?_
          intro _ hw'
          obtain ⟨⟨dq, osq⟩, hw''⟩ := hw'
          subst hw''
          have S2 : Hid (Sw w0 blk off d (grow (redrawn wr dq) osq)) := S1.out.regrown dq osq
          clear c1 c2 hcmp S1
          generalize grow (redrawn wr dq) osq = w2 at S2 ⊢
          go_wp2
          go_roundw
          case rel => exact ⟨h + 1, j, by go_num, rfl, by omega, by omega, hjb, ⟨.inr (by rw [Nat.add_sub_cancel]; exact HT.out), HJ.out.2⟩, S2⟩
          case measure => simp [intOf]; omega
      · obtain rfl : i = j := by omega
        obtain ⟨e, he⟩ : ∃ e, e + i = z := ⟨z - i, by omega⟩
        have ee : (z : Int) - (i : Int) = (e : Int) := by omega
        have hcut : Hid (StS.Cut (ltf cf) a m b i d) := by
          refine ⟨by rw [HL.out]; exact hmi, by rw [HH.out]; exact hjb, ?_, ?_⟩
          · rw [HL.out, HCC.out, show c + m - 1 - (i - 1) = p - (i - 1) by omega]; exact HJ.out.1
          · rw [HH.out, HCC.out, show c + m - 1 - i = p - i by omega]; exact HJ.out.2
        have hpar := StS.cut_parts T HR.out hcut.out
        rw [HCC.out] at hpar
        obtain ⟨b1, b2, b3, b4, b5, -, -⟩ := hpar
        have b4' : e ≤ b := by omega
        have b5' : m ≤ e := by omega
        have b6 : c ≤ e := by omega
        have hE : Hid ((a + b) / 2 + m - i = e) := by show _ = _; have := HCC.out; omega
        have hnone : Hid (¬ (i < m ∧ m < e) → StS.Halves (ltf cf) s a m b i d d) := fun hq =>
          StS.halves_of T HR.out hcut.out (permIn_refl _ _ _) fun x => by rw [hE.out]; exact StS.turned_none d i m e x hq b2 b5'
        have hrot : Hid (∀ d1, StS.Turned d i m e d1 → StS.Halves (ltf cf) s a m b i d d1) := fun d1 hT =>
          StS.halves_of T HR.out hcut.out (permIn_mono _ _ _ _ _ _ b1 b4' (by rw [HS.out]; exact hbs) hT.1) fun x => by rw [hE.out]; exact hT.2 x
        clear b4 b5 HJ
        rcases Decidable.em (i < m ∧ m < e) with qA | qA
        · have HR2 := Lib.hid (rotate_any w0 blk off cap i m e d wr (.func (.func 38) #[] #[vp, vq]) S1.out qA.1 qA.2 (by rw [HS.out]; omega) (by rw [HS.out]; omega))
          rw [HS.out] at HR2
          obtain ⟨q1, q2⟩ := qA
          go_wp2_with fail
          refine HR2.out.mono ?_
          rintro e' w1 ⟨rfl, d1, hT1, S2⟩
          have H1 : Hid (StS.Halves (ltf cf) s a m b i d d1) := hrot.out d1 hT1
          have S3 : Hid (Sw w0 blk off d1 w1) := S2
          clear S1 S2 HR2 hT1 hnone hrot
          have N1 : Hid (Lt n d1) := HN.out.perm (by rw [HS.out]; exact hbs) H1.out.perm
          have Z1 : Hid (d1.size = N) := by show _ = _; rw [H1.out.perm.1]; exact HS.out
          rcases Decidable.em (a < i ∧ i < c) with qB | qB
          · have HM1 := Lib.hid (HI.out a i c d1 _ (by omega) Z1.out S3.out N1.out (by
              have := H1.out.lower (by rw [HS.out]; exact hbs) qB.1 (by rw [HCC.out]; exact qB.2) (by rw [HCC.out]; omega)
              rwa [HCC.out] at this))
            obtain ⟨q3, q4⟩ := qB
            go_wp2_with fail
            all_goals
              refine HM1.out.mono ?_
              rintro e' w2 ⟨rfl, d2, hM2, S4⟩
              have H2 := H1.out.step (by rw [HS.out]; exact hbs) (by rw [HCC.out]; omega) (by rw [HCC.out]; omega) b2 (by rw [HCC.out]; exact hM2)
              rw [hE.out, HCC.out] at H2
              have K2 : Hid _ := H2
              have S5 : Hid (Sw w0 blk off d2 w2) := S4
              clear S3 S4 hM2 H2 HM1
              have N2 : Hid (Lt n d2) := HN.out.perm (by rw [HS.out]; exact hbs) K2.out.1
              have Z2 : Hid (d2.size = N) := by show _ = _; rw [K2.out.1.1]; exact HS.out
              rcases Decidable.em (c < e ∧ e < b) with qC | qC
              · have HM2 := Lib.hid (HI.out c e b d2 _ (by omega) Z2.out S5.out N2.out ⟨qC.1, qC.2, by rw [Z2.out]; exact hbs, K2.out.2.2.1, K2.out.2.2.2.1, K2.out.2.2.2.2.1⟩)
                obtain ⟨q5, q6⟩ := qC
                go_wp2_with fail
                all_goals
                  refine HM2.out.mono ?_
                  rintro e' w3 ⟨rfl, d3, hM3, S6⟩
                  have S7 : Hid (Sw w0 blk off d3 w3) := S6
                  have F : Hid (StS.Merged s a b d d3) := StS.merged_of K2.out.1 (by rw [HS.out]; exact hbs) (by omega) (by omega) K2.out.2.1 K2.out.2.2.2.2.2 hM3
                  clear S6 hM3 HM2 S5
                  go_wp2
                  go_end0
                  exact ⟨rfl, d3, F.out, S7.out⟩
              · have F : Hid (StS.Merged s a b d d2) := StS.merged_of K2.out.1 (by rw [HS.out]; exact hbs) (by omega) (by omega) K2.out.2.1 K2.out.2.2.2.2.2 ⟨permIn_refl _ _ _, by
                  by_cases hcb : c = e
                  · have := K2.out.2.2.2.1; rwa [← hcb] at this
                  · have hb : e = b := by omega
                    have := K2.out.2.2.1; rwa [hb] at this⟩
                go_wp2
                all_goals
                  go_end0
                  exact ⟨rfl, d2, F.out, S5.out⟩
          · have hM2 : StS.Merged s a c d1 d1 := ⟨permIn_refl _ _ _, by
              have := H1.out.lower_done (by rw [HCC.out]; exact qB) b1 (by rw [HCC.out]; exact b3)
              rwa [HCC.out] at this⟩
            have H2 := H1.out.step (by rw [HS.out]; exact hbs) (by rw [HCC.out]; omega) (by rw [HCC.out]; omega) b2 (by rw [HCC.out]; exact hM2)
            rw [hE.out, HCC.out] at H2
            have K2 : Hid _ := H2
            obtain ⟨d2, hd2⟩ : ∃ d2, d1 = d2 := ⟨d1, rfl⟩
            rw [hd2] at K2
            have S5 := S3
            rw [hd2] at S5
            clear S3 hM2 H2
            have N2 : Hid (Lt n d2) := HN.out.perm (by rw [HS.out]; exact hbs) K2.out.1
            have Z2 : Hid (d2.size = N) := by show _ = _; rw [K2.out.1.1]; exact HS.out
            rcases Decidable.em (c < e ∧ e < b) with qC | qC
            · have HM2 := Lib.hid (HI.out c e b d2 _ (by omega) Z2.out S5.out N2.out ⟨qC.1, qC.2, by rw [Z2.out]; exact hbs, K2.out.2.2.1, K2.out.2.2.2.1, K2.out.2.2.2.2.1⟩)
              obtain ⟨q5, q6⟩ := qC
              go_wp2_with fail
              all_goals
                refine HM2.out.mono ?_
                rintro e' w3 ⟨rfl, d3, hM3, S6⟩
                have S7 : Hid (Sw w0 blk off d3 w3) := S6
                have F : Hid (StS.Merged s a b d d3) := StS.merged_of K2.out.1 (by rw [HS.out]; exact hbs) (by omega) (by omega) K2.out.2.1 K2.out.2.2.2.2.2 hM3
                clear S6 hM3 HM2 S5
                go_wp2
                go_end0
                exact ⟨rfl, d3, F.out, S7.out⟩
            · have F : Hid (StS.Merged s a b d d2) := StS.merged_of K2.out.1 (by rw [HS.out]; exact hbs) (by omega) (by omega) K2.out.2.1 K2.out.2.2.2.2.2 ⟨permIn_refl _ _ _, by
                by_cases hcb : c = e
                · have := K2.out.2.2.2.1; rwa [← hcb] at this
                · have hb : e = b := by omega
                  have := K2.out.2.2.1; rwa [hb] at this⟩
              go_wp2
              all_goals
                go_end0
                exact ⟨rfl, d2, F.out, S5.out⟩
        · have H1 : Hid (StS.Halves (ltf cf) s a m b i d d) := hnone.out qA
          obtain ⟨d1, hd1⟩ : ∃ d1, d = d1 := ⟨d, rfl⟩
          have S3 : Hid (Sw w0 blk off d1 wr) := by rw [← hd1]; exact S1
          have H2 : Hid (StS.Halves (ltf cf) s a m b i d d1) := by rw [← hd1]; exact H1
          clear S1 H1 hd1 hnone hrot
          have H1 := H2
          clear H2
          have N1 : Hid (Lt n d1) := HN.out.perm (by rw [HS.out]; exact hbs) H1.out.perm
          have Z1 : Hid (d1.size = N) := by show _ = _; rw [H1.out.perm.1]; exact HS.out
          rcases Decidable.em (a < i ∧ i < c) with qB | qB
          · have HM1 := Lib.hid (HI.out a i c d1 _ (by omega) Z1.out S3.out N1.out (by
              have := H1.out.lower (by rw [HS.out]; exact hbs) qB.1 (by rw [HCC.out]; exact qB.2) (by rw [HCC.out]; omega)
              rwa [HCC.out] at this))
            obtain ⟨q3, q4⟩ := qB
            go_wp2_with fail
            all_goals
              refine HM1.out.mono ?_
              rintro e' w2 ⟨rfl, d2, hM2, S4⟩
              have H2 := H1.out.step (by rw [HS.out]; exact hbs) (by rw [HCC.out]; omega) (by rw [HCC.out]; omega) b2 (by rw [HCC.out]; exact hM2)
              rw [hE.out, HCC.out] at H2
              have K2 : Hid _ := H2
              have S5 : Hid (Sw w0 blk off d2 w2) := S4
              clear S3 S4 hM2 H2 HM1
              have N2 : Hid (Lt n d2) := HN.out.perm (by rw [HS.out]; exact hbs) K2.out.1
              have Z2 : Hid (d2.size = N) := by show _ = _; rw [K2.out.1.1]; exact HS.out
              rcases Decidable.em (c < e ∧ e < b) with qC | qC
              · have HM2 := Lib.hid (HI.out c e b d2 _ (by omega) Z2.out S5.out N2.out ⟨qC.1, qC.2, by rw [Z2.out]; exact hbs, K2.out.2.2.1, K2.out.2.2.2.1, K2.out.2.2.2.2.1⟩)
                obtain ⟨q5, q6⟩ := qC
                go_wp2_with fail
                all_goals
                  refine HM2.out.mono ?_
                  rintro e' w3 ⟨rfl, d3, hM3, S6⟩
                  have S7 : Hid (Sw w0 blk off d3 w3) := S6
                  have F : Hid (StS.Merged s a b d d3) := StS.merged_of K2.out.1 (by rw [HS.out]; exact hbs) (by omega) (by omega) K2.out.2.1 K2.out.2.2.2.2.2 hM3
                  clear S6 hM3 HM2 S5
                  go_wp2
                  go_end0
                  exact ⟨rfl, d3, F.out, S7.out⟩
              · have F : Hid (StS.Merged s a b d d2) := StS.merged_of K2.out.1 (by rw [HS.out]; exact hbs) (by omega) (by omega) K2.out.2.1 K2.out.2.2.2.2.2 ⟨permIn_refl _ _ _, by
                  by_cases hcb : c = e
                  · have := K2.out.2.2.2.1; rwa [← hcb] at this
                  · have hb : e = b := by omega
                    have := K2.out.2.2.1; rwa [hb] at this⟩
                go_wp2
                all_goals
                  go_end0
                  exact ⟨rfl, d2, F.out, S5.out⟩
          · have hM2 : StS.Merged s a c d1 d1 := ⟨permIn_refl _ _ _, by
              have := H1.out.lower_done (by rw [HCC.out]; exact qB) b1 (by rw [HCC.out]; exact b3)
              rwa [HCC.out] at this⟩
            have H2 := H1.out.step (by rw [HS.out]; exact hbs) (by rw [HCC.out]; omega) (by rw [HCC.out]; omega) b2 (by rw [HCC.out]; exact hM2)
            rw [hE.out, HCC.out] at H2
            have K2 : Hid _ := H2
            obtain ⟨d2, hd2⟩ : ∃ d2, d1 = d2 := ⟨d1, rfl⟩
            rw [hd2] at K2
            have S5 := S3
            rw [hd2] at S5
            clear S3 hM2 H2
            have N2 : Hid (Lt n d2) := HN.out.perm (by rw [HS.out]; exact hbs) K2.out.1
            have Z2 : Hid (d2.size = N) := by show _ = _; rw [K2.out.1.1]; exact HS.out
            rcases Decidable.em (c < e ∧ e < b) with qC | qC
            · have HM2 := Lib.hid (HI.out c e b d2 _ (by omega) Z2.out S5.out N2.out ⟨qC.1, qC.2, by rw [Z2.out]; exact hbs, K2.out.2.2.1, K2.out.2.2.2.1, K2.out.2.2.2.2.1⟩)
              obtain ⟨q5, q6⟩ := qC
              go_wp2_with fail
              all_goals
                refine HM2.out.mono ?_
                rintro e' w3 ⟨rfl, d3, hM3, S6⟩
                have S7 : Hid (Sw w0 blk off d3 w3) := S6
                have F : Hid (StS.Merged s a b d d3) := StS.merged_of K2.out.1 (by rw [HS.out]; exact hbs) (by omega) (by omega) K2.out.2.1 K2.out.2.2.2.2.2 hM3
                clear S6 hM3 HM2 S5
                go_wp2
                go_end0
                exact ⟨rfl, d3, F.out, S7.out⟩
            · have F : Hid (StS.Merged s a b d d2) := StS.merged_of K2.out.1 (by rw [HS.out]; exact hbs) (by omega) (by omega) K2.out.2.1 K2.out.2.2.2.2.2 ⟨permIn_refl _ _ _, by
                by_cases hcb : c = e
                · have := K2.out.2.2.2.1; rwa [← hcb] at this
                · have hb : e = b := by omega
                  have := K2.out.2.2.1; rwa [hb] at this⟩
              go_wp2
              all_goals
                go_end0
                exact ⟨rfl, d2, F.out, S5.out⟩
  · have hA := (l7 hcm).1.symm
    have hB := (l7 hcm).2.symm
    have hcz : ¬ (c : Int) < (m : Int) := by omega
    clear l6 l7
    subst hA hB
    go_enter Tryd.func67, Tryd.ntmps67
    go_wp2
    go_loopw [20, 21] (fun vi vj wr => ∃ i j : Nat, vi = .int .i64 i ∧ vj = .int .i64 j ∧ a ≤ i ∧ i ≤ j ∧ j ≤ m ∧ Hid ((i = a ∨ ltf cf d[p - (i - 1)]! d[i - 1]! = false) ∧ (j = m ∨ ltf cf d[p - j]! d[j]! = true)) ∧ Hid (Sw w0 blk off d wr)) (fun vi vj _ => (intOf vj).toNat - (intOf vi).toNat)
    case atStart => exact ⟨a, m, rfl, rfl, Nat.le_refl _, by omega, Nat.le_refl _, ⟨.inl rfl, .inl rfl⟩, S0⟩
    case round =>
      clear S0
      obtain ⟨i, j, rfl, rfl, hmi, hij, hjb, HJ, S1⟩ := hrel
      by_cases hlt : i < j
      · have hltz : (i : Int) < (j : Int) := by omega
        obtain ⟨h, hh1, hh2⟩ : ∃ h, 2 * h ≤ i + j ∧ i + j ≤ 2 * h + 1 := ⟨(i + j) / 2, by omega, by omega⟩
        have eh : ((i : Int) + (j : Int)) / 2 = (h : Int) := by omega
        obtain ⟨g, hg⟩ : ∃ g, g + h = p := ⟨p - h, by omega⟩
        have eg : (p : Int) - (h : Int) = (g : Int) := by omega
        have gl : g < N := by omega
        have hl : h < N := by omega
        obtain ⟨x, hx⟩ : ∃ x, d[g]! = x := ⟨_, rfl⟩
        obtain ⟨y, hy⟩ : ∃ x, d[h]! = x := ⟨_, rfl⟩
        obtain ⟨c1, c2, hcmp⟩ := S1.out.two HC.out HN.out (by rw [HS.out]; exact gl) (by rw [HS.out]; exact hl) hx hy
        by_cases hv : cf x y < 0
        · have HT : Hid (ltf cf d[p - h]! d[h]! = true) := by show _ = _; rw [show p - h = g by omega, hx, hy]; exact decide_eq_true hv
          have hd : decide (cf x y < 0) = true := decide_eq_true hv
          clear hx hy
          go_wp2_with fail
          refine wp_region_quiet_below (by kernel_rfl) (by kernel_rfl) ?_
          repeat (go_big_quiet_step ((go_at_call 38; exact hcmp _ _)))
          refine wpQuiet_nil ?_
          intro _ hw'
          obtain ⟨⟨dq, osq⟩, hw''⟩ := hw'
          subst hw''
          have S2 : Hid (Sw w0 blk off d (grow (redrawn wr dq) osq)) := S1.out.regrown dq osq
          clear c1 c2 hcmp S1
          generalize grow (redrawn wr dq) osq = w2 at S2 ⊢
          go_wp2
          go_roundw
          case rel => exact ⟨i, h, rfl, by first | rfl | go_num, by omega, by omega, by omega, ⟨HJ.out.1, .inr HT.out⟩, S2⟩
          case measure => simp [intOf]; omega
        · have HT : Hid (ltf cf d[p - h]! d[h]! = false) := by show _ = _; rw [show p - h = g by omega, hx, hy]; exact decide_eq_false hv
          have hd : decide (cf x y < 0) = false := decide_eq_false hv
          clear hx hy
          go_wp2_with fail
          refine wp_region_quiet_below (by kernel_rfl) (by kernel_rfl) ?_
          repeat (go_big_quiet_step ((go_at_call 38; exact hcmp _ _)))
          refine wpQuiet_nil ?_
          intro _ hw'
          obtain ⟨⟨dq, osq⟩, hw''⟩ := hw'
          subst hw''
          have S2 : Hid (Sw w0 blk off d (grow (redrawn wr dq) osq)) := S1.out.regrown dq osq
          clear c1 c2 hcmp S1
          generalize grow (redrawn wr dq) osq = w2 at S2 ⊢
          go_wp2
          go_roundw
          case rel => exact ⟨h + 1, j, by go_num, rfl, by omega, by omega, hjb, ⟨.inr (by rw [Nat.add_sub_cancel]; exact HT.out), HJ.out.2⟩, S2⟩
          case measure => simp [intOf]; omega
      · obtain rfl : i = j := by omega
        obtain ⟨e, he⟩ : ∃ e, e + i = z := ⟨z - i, by omega⟩
        have ee : (z : Int) - (i : Int) = (e : Int) := by omega
        have hcut : Hid (StS.Cut (ltf cf) a m b i d) := by
          refine ⟨by rw [HL.out]; exact hmi, by rw [HH.out]; exact hjb, ?_, ?_⟩
          · rw [HL.out, HCC.out, show c + m - 1 - (i - 1) = p - (i - 1) by omega]; exact HJ.out.1
          · rw [HH.out, HCC.out, show c + m - 1 - i = p - i by omega]; exact HJ.out.2
        have hpar := StS.cut_parts T HR.out hcut.out
        rw [HCC.out] at hpar
        obtain ⟨b1, b2, b3, b4, b5, -, -⟩ := hpar
        have b4' : e ≤ b := by omega
        have b5' : m ≤ e := by omega
        have b6 : c ≤ e := by omega
        have hE : Hid ((a + b) / 2 + m - i = e) := by show _ = _; have := HCC.out; omega
        have hnone : Hid (¬ (i < m ∧ m < e) → StS.Halves (ltf cf) s a m b i d d) := fun hq =>
          StS.halves_of T HR.out hcut.out (permIn_refl _ _ _) fun x => by rw [hE.out]; exact StS.turned_none d i m e x hq b2 b5'
        have hrot : Hid (∀ d1, StS.Turned d i m e d1 → StS.Halves (ltf cf) s a m b i d d1) := fun d1 hT =>
          StS.halves_of T HR.out hcut.out (permIn_mono _ _ _ _ _ _ b1 b4' (by rw [HS.out]; exact hbs) hT.1) fun x => by rw [hE.out]; exact hT.2 x
        clear b4 b5 HJ
        rcases Decidable.em (i < m ∧ m < e) with qA | qA
        · have HR2 := Lib.hid (rotate_any w0 blk off cap i m e d wr (.func (.func 38) #[] #[vp, vq]) S1.out qA.1 qA.2 (by rw [HS.out]; omega) (by rw [HS.out]; omega))
          rw [HS.out] at HR2
          obtain ⟨q1, q2⟩ := qA
          go_wp2_with fail
          refine HR2.out.mono ?_
          rintro e' w1 ⟨rfl, d1, hT1, S2⟩
          have H1 : Hid (StS.Halves (ltf cf) s a m b i d d1) := hrot.out d1 hT1
          have S3 : Hid (Sw w0 blk off d1 w1) := S2
          clear S1 S2 HR2 hT1 hnone hrot
          have N1 : Hid (Lt n d1) := HN.out.perm (by rw [HS.out]; exact hbs) H1.out.perm
          have Z1 : Hid (d1.size = N) := by show _ = _; rw [H1.out.perm.1]; exact HS.out
          rcases Decidable.em (a < i ∧ i < c) with qB | qB
          · have HM1 := Lib.hid (HI.out a i c d1 _ (by omega) Z1.out S3.out N1.out (by
              have := H1.out.lower (by rw [HS.out]; exact hbs) qB.1 (by rw [HCC.out]; exact qB.2) (by rw [HCC.out]; omega)
              rwa [HCC.out] at this))
            obtain ⟨q3, q4⟩ := qB
            go_wp2_with fail
            all_goals
              refine HM1.out.mono ?_
              rintro e' w2 ⟨rfl, d2, hM2, S4⟩
              have H2 := H1.out.step (by rw [HS.out]; exact hbs) (by rw [HCC.out]; omega) (by rw [HCC.out]; omega) b2 (by rw [HCC.out]; exact hM2)
              rw [hE.out, HCC.out] at H2
              have K2 : Hid _ := H2
              have S5 : Hid (Sw w0 blk off d2 w2) := S4
              clear S3 S4 hM2 H2 HM1
              have N2 : Hid (Lt n d2) := HN.out.perm (by rw [HS.out]; exact hbs) K2.out.1
              have Z2 : Hid (d2.size = N) := by show _ = _; rw [K2.out.1.1]; exact HS.out
              rcases Decidable.em (c < e ∧ e < b) with qC | qC
              · have HM2 := Lib.hid (HI.out c e b d2 _ (by omega) Z2.out S5.out N2.out ⟨qC.1, qC.2, by rw [Z2.out]; exact hbs, K2.out.2.2.1, K2.out.2.2.2.1, K2.out.2.2.2.2.1⟩)
                obtain ⟨q5, q6⟩ := qC
                go_wp2_with fail
                all_goals
                  refine HM2.out.mono ?_
                  rintro e' w3 ⟨rfl, d3, hM3, S6⟩
                  have S7 : Hid (Sw w0 blk off d3 w3) := S6
                  have F : Hid (StS.Merged s a b d d3) := StS.merged_of K2.out.1 (by rw [HS.out]; exact hbs) (by omega) (by omega) K2.out.2.1 K2.out.2.2.2.2.2 hM3
                  clear S6 hM3 HM2 S5
                  go_wp2
                  go_end0
                  exact ⟨rfl, d3, F.out, S7.out⟩
              · have F : Hid (StS.Merged s a b d d2) := StS.merged_of K2.out.1 (by rw [HS.out]; exact hbs) (by omega) (by omega) K2.out.2.1 K2.out.2.2.2.2.2 ⟨permIn_refl _ _ _, by
                  by_cases hcb : c = e
                  · have := K2.out.2.2.2.1; rwa [← hcb] at this
                  · have hb : e = b := by omega
                    have := K2.out.2.2.1; rwa [hb] at this⟩
                go_wp2
                all_goals
                  go_end0
                  exact ⟨rfl, d2, F.out, S5.out⟩
          · have hM2 : StS.Merged s a c d1 d1 := ⟨permIn_refl _ _ _, by
              have := H1.out.lower_done (by rw [HCC.out]; exact qB) b1 (by rw [HCC.out]; exact b3)
              rwa [HCC.out] at this⟩
            have H2 := H1.out.step (by rw [HS.out]; exact hbs) (by rw [HCC.out]; omega) (by rw [HCC.out]; omega) b2 (by rw [HCC.out]; exact hM2)
            rw [hE.out, HCC.out] at H2
            have K2 : Hid _ := H2
            obtain ⟨d2, hd2⟩ : ∃ d2, d1 = d2 := ⟨d1, rfl⟩
            rw [hd2] at K2
            have S5 := S3
            rw [hd2] at S5
            clear S3 hM2 H2
            have N2 : Hid (Lt n d2) := HN.out.perm (by rw [HS.out]; exact hbs) K2.out.1
            have Z2 : Hid (d2.size = N) := by show _ = _; rw [K2.out.1.1]; exact HS.out
            rcases Decidable.em (c < e ∧ e < b) with qC | qC
            · have HM2 := Lib.hid (HI.out c e b d2 _ (by omega) Z2.out S5.out N2.out ⟨qC.1, qC.2, by rw [Z2.out]; exact hbs, K2.out.2.2.1, K2.out.2.2.2.1, K2.out.2.2.2.2.1⟩)
              obtain ⟨q5, q6⟩ := qC
              go_wp2_with fail
              all_goals
                refine HM2.out.mono ?_
                rintro e' w3 ⟨rfl, d3, hM3, S6⟩
                have S7 : Hid (Sw w0 blk off d3 w3) := S6
                have F : Hid (StS.Merged s a b d d3) := StS.merged_of K2.out.1 (by rw [HS.out]; exact hbs) (by omega) (by omega) K2.out.2.1 K2.out.2.2.2.2.2 hM3
                clear S6 hM3 HM2 S5
                go_wp2
                go_end0
                exact ⟨rfl, d3, F.out, S7.out⟩
            · have F : Hid (StS.Merged s a b d d2) := StS.merged_of K2.out.1 (by rw [HS.out]; exact hbs) (by omega) (by omega) K2.out.2.1 K2.out.2.2.2.2.2 ⟨permIn_refl _ _ _, by
                by_cases hcb : c = e
                · have := K2.out.2.2.2.1; rwa [← hcb] at this
                · have hb : e = b := by omega
                  have := K2.out.2.2.1; rwa [hb] at this⟩
              go_wp2
              all_goals
                go_end0
                exact ⟨rfl, d2, F.out, S5.out⟩
        · have H1 : Hid (StS.Halves (ltf cf) s a m b i d d) := hnone.out qA
          obtain ⟨d1, hd1⟩ : ∃ d1, d = d1 := ⟨d, rfl⟩
          have S3 : Hid (Sw w0 blk off d1 wr) := by rw [← hd1]; exact S1
          have H2 : Hid (StS.Halves (ltf cf) s a m b i d d1) := by rw [← hd1]; exact H1
          clear S1 H1 hd1 hnone hrot
          have H1 := H2
          clear H2
          have N1 : Hid (Lt n d1) := HN.out.perm (by rw [HS.out]; exact hbs) H1.out.perm
          have Z1 : Hid (d1.size = N) := by show _ = _; rw [H1.out.perm.1]; exact HS.out
          rcases Decidable.em (a < i ∧ i < c) with qB | qB
          · have HM1 := Lib.hid (HI.out a i c d1 _ (by omega) Z1.out S3.out N1.out (by
              have := H1.out.lower (by rw [HS.out]; exact hbs) qB.1 (by rw [HCC.out]; exact qB.2) (by rw [HCC.out]; omega)
              rwa [HCC.out] at this))
            obtain ⟨q3, q4⟩ := qB
            go_wp2_with fail
            all_goals
              refine HM1.out.mono ?_
              rintro e' w2 ⟨rfl, d2, hM2, S4⟩
              have H2 := H1.out.step (by rw [HS.out]; exact hbs) (by rw [HCC.out]; omega) (by rw [HCC.out]; omega) b2 (by rw [HCC.out]; exact hM2)
              rw [hE.out, HCC.out] at H2
              have K2 : Hid _ := H2
              have S5 : Hid (Sw w0 blk off d2 w2) := S4
              clear S3 S4 hM2 H2 HM1
              have N2 : Hid (Lt n d2) := HN.out.perm (by rw [HS.out]; exact hbs) K2.out.1
              have Z2 : Hid (d2.size = N) := by show _ = _; rw [K2.out.1.1]; exact HS.out
              rcases Decidable.em (c < e ∧ e < b) with qC | qC
              · have HM2 := Lib.hid (HI.out c e b d2 _ (by omega) Z2.out S5.out N2.out ⟨qC.1, qC.2, by rw [Z2.out]; exact hbs, K2.out.2.2.1, K2.out.2.2.2.1, K2.out.2.2.2.2.1⟩)
                obtain ⟨q5, q6⟩ := qC
                go_wp2_with fail
                all_goals
                  refine HM2.out.mono ?_
                  rintro e' w3 ⟨rfl, d3, hM3, S6⟩
                  have S7 : Hid (Sw w0 blk off d3 w3) := S6
                  have F : Hid (StS.Merged s a b d d3) := StS.merged_of K2.out.1 (by rw [HS.out]; exact hbs) (by omega) (by omega) K2.out.2.1 K2.out.2.2.2.2.2 hM3
                  clear S6 hM3 HM2 S5
                  go_wp2
                  go_end0
                  exact ⟨rfl, d3, F.out, S7.out⟩
              · have F : Hid (StS.Merged s a b d d2) := StS.merged_of K2.out.1 (by rw [HS.out]; exact hbs) (by omega) (by omega) K2.out.2.1 K2.out.2.2.2.2.2 ⟨permIn_refl _ _ _, by
                  by_cases hcb : c = e
                  · have := K2.out.2.2.2.1; rwa [← hcb] at this
                  · have hb : e = b := by omega
                    have := K2.out.2.2.1; rwa [hb] at this⟩
                go_wp2
                all_goals
                  go_end0
                  exact ⟨rfl, d2, F.out, S5.out⟩
          · have hM2 : StS.Merged s a c d1 d1 := ⟨permIn_refl _ _ _, by
              have := H1.out.lower_done (by rw [HCC.out]; exact qB) b1 (by rw [HCC.out]; exact b3)
              rwa [HCC.out] at this⟩
            have H2 := H1.out.step (by rw [HS.out]; exact hbs) (by rw [HCC.out]; omega) (by rw [HCC.out]; omega) b2 (by rw [HCC.out]; exact hM2)
            rw [hE.out, HCC.out] at H2
            have K2 : Hid _ := H2
            obtain ⟨d2, hd2⟩ : ∃ d2, d1 = d2 := ⟨d1, rfl⟩
            rw [hd2] at K2
            have S5 := S3
            rw [hd2] at S5
            clear S3 hM2 H2
            have N2 : Hid (Lt n d2) := HN.out.perm (by rw [HS.out]; exact hbs) K2.out.1
            have Z2 : Hid (d2.size = N) := by show _ = _; rw [K2.out.1.1]; exact HS.out
            rcases Decidable.em (c < e ∧ e < b) with qC | qC
            · have HM2 := Lib.hid (HI.out c e b d2 _ (by omega) Z2.out S5.out N2.out ⟨qC.1, qC.2, by rw [Z2.out]; exact hbs, K2.out.2.2.1, K2.out.2.2.2.1, K2.out.2.2.2.2.1⟩)
              obtain ⟨q5, q6⟩ := qC
              go_wp2_with fail
              all_goals
                refine HM2.out.mono ?_
                rintro e' w3 ⟨rfl, d3, hM3, S6⟩
                have S7 : Hid (Sw w0 blk off d3 w3) := S6
                have F : Hid (StS.Merged s a b d d3) := StS.merged_of K2.out.1 (by rw [HS.out]; exact hbs) (by omega) (by omega) K2.out.2.1 K2.out.2.2.2.2.2 hM3
                clear S6 hM3 HM2 S5
                go_wp2
                go_end0
                exact ⟨rfl, d3, F.out, S7.out⟩
            · have F : Hid (StS.Merged s a b d d2) := StS.merged_of K2.out.1 (by rw [HS.out]; exact hbs) (by omega) (by omega) K2.out.2.1 K2.out.2.2.2.2.2 ⟨permIn_refl _ _ _, by
                by_cases hcb : c = e
                · have := K2.out.2.2.2.1; rwa [← hcb] at this
                · have hb : e = b := by omega
                  have := K2.out.2.2.1; rwa [hb] at this⟩
              go_wp2
              all_goals
                go_end0
                exact ⟨rfl, d2, F.out, S5.out⟩

theorem merge_all (n : Nat) (cf : Nat → Nat → Int) (vp vq : Value) (w0 : World) (blk off cap N : Nat) (s : Nat → Nat → Bool) (T : StS.Tot s) (hC : CmpOk n cf vp vq w0 blk) (hsz : N < 2305843009213693952) : ∀ k, MergeAt n cf vp vq w0 blk off cap N s k
  | 0 => fun a m b d W hk _ _ _ R => absurd R.am (by have := R.mb; omega)
  | k + 1 => merge_step n cf vp vq w0 blk off cap N s T hC hsz k (merge_all n cf vp vq w0 blk off cap N s T hC hsz k)
end Go.Proofs.YtlojeeakjgalpaaDoor
