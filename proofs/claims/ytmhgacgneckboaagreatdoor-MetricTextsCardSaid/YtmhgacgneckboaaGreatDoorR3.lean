/- A walk: metric.Text of every float. Plain facts: what is read has just one text. -/
import Derived.Test.YtmhgacgneckboaaGreatDoorR1
import Derived.Test.YtmhgacgneckboaaGreatDoorQT
import Derived.Test.YtmhgacgneckboaaGreatDoorQm
namespace Mtr
open Go Go.Lib Ieee Fta Adr
theorem readV_lt2 (l : List UInt8) : readV l < 18446744073709551616 := by
  unfold readV
  split
  · unfold edgeV
    split
    · decide
    · split
      · decide
      · split <;> decide
  · cases h : dec (Lib.trimPrefix l [45]) with
    | none => exact (by decide : (0 : Nat) < 18446744073709551616)
    | some n =>
      have := (thou_run (dec_small h)).1
      show (if _ then 9223372036854775808 else 0) + thou n < _
      split <;> omega
theorem readV_cases {l : List UInt8} (h : readOk l = true) : (edgeOk l = true ∧ (readV l = 9221120237041090561 ∨ readV l = 9218868437227405312 ∨ readV l = 18442240474082181120)) ∨ (edgeOk l = false ∧ ∃ n, n ≤ 999999999 ∧ dec (Lib.trimPrefix l [45]) = some n ∧ readV l = ofT (Lib.hasPrefix l [45]) n) := by
  cases he : edgeOk l with
  | true =>
    refine Or.inl ⟨rfl, ?_⟩
    unfold readV
    rw [if_pos he]
    unfold edgeV
    unfold edgeOk at he
    by_cases h1 : l = sNan
    · rw [if_pos h1]; exact Or.inl rfl
    · rw [if_neg h1]
      by_cases h2 : l = sInf
      · rw [if_pos h2]; exact Or.inr (Or.inl rfl)
      · rw [if_neg h2]
        by_cases h3 : l = sNeg
        · rw [if_pos h3]; exact Or.inr (Or.inr rfl)
        · rw [decide_eq_false h1, decide_eq_false h2, decide_eq_false h3] at he; cases he
  | false =>
    unfold readOk at h
    rw [he, Bool.false_or] at h
    obtain ⟨n, hn⟩ := Option.isSome_iff_exists.1 h
    refine Or.inr ⟨rfl, n, dec_small hn, hn, ?_⟩
    unfold readV ofT
    rw [if_neg (by rw [he]; decide), hn]
theorem rank_inj {a b : Nat} (ha : a < 18446744073709551616) (hb : b < 18446744073709551616) (h1 : nanB a = false) (h2 : nanB b = false) (h : rankB a = rankB b) : a = b := by
  rw [nanB_rung] at h1 h2
  rw [rank_val a ha, rank_val b hb, if_neg (of_decide_eq_false h1), if_neg (of_decide_eq_false h2)] at h
  obtain ⟨r, hr, e3, ⟨e4, e5⟩ | ⟨e4, e5⟩⟩ := split_bits a ha <;> obtain ⟨s, hs, f3, ⟨f4, f5⟩ | ⟨f4, f5⟩⟩ := split_bits b hb <;> rw [e3, e5, f3, f5] at h <;> simp only [if_true, if_false, Bool.false_eq_true] at h <;> omega
theorem rank_fin {b : Nat} (hb : b < 18446744073709551616) (hr : rungB b < 9218868437227405312) : nanB b = false ∧ -9218868437227405313 < rankB b ∧ rankB b < 9218868437227405312 := by
  have h1 : nanB b = false := by rw [nanB_rung]; exact decide_eq_false (by omega)
  refine ⟨h1, ?_⟩
  rw [rank_val b hb, if_neg (by omega)]
  split <;> omega
/-- What no number of thousandths is has no text that is read as it. -/
theorem rank_none {b : Nat} {l : List UInt8} (hb : b < 18446744073709551616) (hr : rungB b < 9218868437227405312) (hn : ∀ neg n, n ≤ 999999999 → b ≠ ofT neg n) (ho : readOk l = true) : (rankB (readV l) != rankB b) = true := by
  obtain ⟨f1, f2, f3⟩ := rank_fin hb hr
  rw [bne_iff_ne]
  intro e
  rcases readV_cases ho with ⟨-, h | h | h⟩ | ⟨-, n, hn2, -, h⟩
  · rw [h] at e
    have : rankB 9221120237041090561 = 9223372036854775807 := by decide +kernel
    omega
  · rw [h] at e
    have : rankB 9218868437227405312 = 9218868437227405312 := by decide +kernel
    omega
  · rw [h] at e
    have : rankB 18442240474082181120 = -9218868437227405313 := by decide +kernel
    omega
  · rw [h] at e
    exact hn _ n hn2 (rank_inj (ofT_lt _ hn2) hb (ofT_nan _ hn2) f1 e).symm
theorem fin_gt (b : Nat) (h : rungB b < 9218868437227405312) : (double.order b 9218868437227405311 == some .gt) = false := by
  rw [order_isGt]
  have e : srB 9218868437227405311 = 9218868437227405311 := by decide
  rw [e]
  have : ¬ (9218868437227405311 : Int) < srB b := by unfold srB; split <;> omega
  rw [decide_eq_false this, Bool.and_false]
theorem trimR_len (L : List UInt8) (c : UInt8) : (Lib.trimRightB L c).length ≤ L.length := by
  unfold Lib.trimRightB
  rw [List.length_reverse]
  have := (List.dropWhile_sublist (l := L.reverse) (p := (· == c))).length_le
  rw [List.length_reverse] at this
  exact this
end Mtr
namespace Go.Proofs.YtmhgacgneckboaaGreatDoor
open Go Go.RowKit Mtr Ieee Fta Dcp
theorem isInf_pf (b : Nat) (w : World) (hb : rungB b < 9218868437227405312) : Calls Tryz.prog 34 #[.float .f64 b, .int .i64 1] w fun e w' => e = .returned (.bool false) ∧ w' = w := by
  have h1 : (FloatKind.f64.format.order b 9218868437227405311 == some .gt) = false := fin_gt b hb
  clear hb
  go_enter Tryz.func34, Tryz.ntmps34
  go_wp2
  go_ret
  exact ⟨rfl, rfl⟩
theorem isInf_nf (b : Nat) (w : World) (hb2 : b < 18446744073709551616) (hb : rungB b < 9218868437227405312) : Calls Tryz.prog 34 #[.float .f64 b, .int .i64 (-1)] w fun e w' => e = .returned (.bool false) ∧ w' = w := by
  have hn := neg_run b hb2
  have h1 : (FloatKind.f64.format.order (flipB b) 9218868437227405311 == some .gt) = false := fin_gt _ (by rw [flip_rung b hb2]; exact hb)
  generalize flipB b = c at *
  clear hb hb2
  go_enter Tryz.func34, Tryz.ntmps34
  go_wp2
  go_ret
  exact ⟨rfl, rfl⟩
set_option maxHeartbeats 4000000 in
set_option maxRecDepth 100000 in
theorem text_fin (b : Nat) (w : World) (hE : EnvF w) (hL : EnvL w) (hb : b < 18446744073709551616) (hr : rungB b < 9218868437227405312) (hn : ∀ neg n, n ≤ 999999999 → b ≠ ofT neg n) :
    Calls Tryz.prog 20 #[.float .f64 b] w fun e w' => e = .returned (.tuple #[.string ⟨#[]⟩, .bool false]) ∧ Below w.heap.size w w' := by
  have HN := Lib.hid (isNaN_any b)
  rw [(rank_fin hb hr).1] at HN
  have HI := Lib.hid (fun w => isInf_pf b w hr)
  have HJ := Lib.hid (fun w => isInf_nf b w hb hr)
  have HF := Lib.hid (format_all b w hE hL hb hr)
  have HK := Lib.hid (fun w => rank_any b w hb)
  have HT1 : Hid (∀ (l : List UInt8) w, l.length ≤ 2000 → Calls Tryz.prog 35 #[.string ⟨l.toArray⟩, .string ⟨#[48]⟩] w fun e w' => e = .returned (.string ⟨(Lib.trimRightB l 48).toArray⟩) ∧ w' = w) := fun l w hl => by
    have := Tryz.strings_TrimRight_one ⟨l.toArray⟩ 48 (by decide) w (by rw [size_mk]; omega)
    simp only at this
    exact this
  have HT2 : Hid (∀ (l : List UInt8) w, l.length ≤ 2000 → Calls Tryz.prog 35 #[.string ⟨l.toArray⟩, .string ⟨#[46]⟩] w fun e w' => e = .returned (.string ⟨(Lib.trimRightB l 46).toArray⟩) ∧ w' = w) := fun l w hl => by
    have := Tryz.strings_TrimRight_one ⟨l.toArray⟩ 46 (by decide) w (by rw [size_mk]; omega)
    simp only at this
    exact this
  have HE : Hid (∀ w', Below w.heap.size w w' → Env w') := fun w' h => (hE.below h).env
  have HR : Hid (∀ (S : ByteArray) w', Below w.heap.size w w' → S.size ≤ 10000 → ∃ v o, Calls Tryz.prog 17 #[.string S] w' (fun e w2 => e = .returned (.tuple #[.float .f64 v, .bool o]) ∧ Below w'.heap.size w' w2) ∧ (o = true → (∀ w, Calls Tryz.prog 12 #[.float .f64 v] w fun e w' => e = .returned (.int .i64 (rankB v)) ∧ w' = w) ∧ (rankB v != rankB b) = true)) := fun S w' h hs => by
    refine ⟨readV S.data.toList, readOk S.data.toList, ?_, fun ho => ⟨fun w => rank_any _ w (readV_lt2 _), rank_none hb hr hn ho⟩⟩
    have := read_val S w' (hE.below h).env (by omega)
    unfold ReadEndV at this
    exact this
  clear hE hL hb hr hn
  go_enter Tryz.func20, Tryz.ntmps20
  go_wp2_with fail
  refine (HN.out _).mono ?_
  rintro e w' ⟨rfl, rfl⟩
  go_wp2_with fail
  refine (HI.out _).mono ?_
  rintro e w' ⟨rfl, rfl⟩
  go_wp2_with fail
  refine (HJ.out _).mono ?_
  rintro e w' ⟨rfl, rfl⟩
  go_wp2_with fail
  refine HF.out.mono ?_
  rintro e w2 ⟨⟨l, rfl, hl⟩, hb2⟩
  have HB2 := Lib.hid hb2
  clear hb2 HF HN HI HJ
  have HU1 := Lib.hid (fun w => HT1.out l w hl)
  have hl1 := trimR_len l 48
  have HU2 := Lib.hid (fun w => HT2.out (Lib.trimRightB l 48) w (by omega))
  have hl2 := trimR_len (Lib.trimRightB l 48) 46
  obtain ⟨S, hS⟩ : ∃ S : ByteArray, (⟨(Lib.trimRightB (Lib.trimRightB l 48) 46).toArray⟩ : ByteArray) = S := ⟨_, rfl⟩
  have hSz : S.size ≤ 2000 := by rw [← hS, size_mk]; omega
  rw [hS] at HU2
  clear hS hl1 hl2 HT1 HT2
  go_wp2_with fail
  refine (HU1.out _).mono ?_
  rintro e w' ⟨rfl, rfl⟩
  go_wp2_with fail
  refine (HU2.out _).mono ?_
  rintro e w' ⟨rfl, rfl⟩
  clear HU1 HU2
  generalize Lib.trimRightB l 48 = l1 at *
  have HZ : Hid ((S ++ (⟨#[48]⟩ : ByteArray)).size ≤ 10000) := by
    show _ ≤ _
    rw [ByteArray.size_append]
    have : (⟨#[48]⟩ : ByteArray).size = 1 := rfl
    omega
  cases c1 : S.toList.isEmpty with
  | true =>
    obtain ⟨v, o, g1, g2⟩ := HR.out (S ++ ⟨#[48]⟩) _ HB2.out HZ.out
    have HG1 := Lib.hid g1
    have HG2 := Lib.hid g2
    clear g1 g2 HR
    go_wp2_with fail
    refine HG1.out.mono ?_
    rintro e w3 ⟨rfl, hb3⟩
    have HB3 := Lib.hid (below_step HB2.out hb3)
    clear hb3 HG1
    cases o with
    | false =>
      go_wp2
      refine bodyPost_ret (results_tmp2 rfl _ _ _) rfl ?_
      exact ⟨rfl, HB3.out⟩
    | true =>
      obtain ⟨k1, k2⟩ := HG2.out rfl
      have HK1 := Lib.hid k1
      have k3 : (rankB v == rankB b) = false := by rw [bne] at k2; simpa using k2
      clear k1 HG2
      generalize rankB v = rv at *
      generalize rankB b = rb at *
      go_wp2_with fail
      refine (HK1.out _).mono ?_
      rintro e w' ⟨rfl, rfl⟩
      go_wp2_with fail
      refine (HK.out _).mono ?_
      rintro e w' ⟨rfl, rfl⟩
      go_wp2
      refine bodyPost_ret (results_tmp2 rfl _ _ _) rfl ?_
      exact ⟨rfl, HB3.out⟩
  | false =>
    cases c2 : (S.toList == [45]) with
    | true =>
      obtain ⟨v, o, g1, g2⟩ := HR.out (S ++ ⟨#[48]⟩) _ HB2.out HZ.out
      have HG1 := Lib.hid g1
      have HG2 := Lib.hid g2
      clear g1 g2 HR
      go_wp2_with fail
      refine HG1.out.mono ?_
      rintro e w3 ⟨rfl, hb3⟩
      have HB3 := Lib.hid (below_step HB2.out hb3)
      clear hb3 HG1
      cases o with
      | false =>
        go_wp2
        refine bodyPost_ret (results_tmp2 rfl _ _ _) rfl ?_
        exact ⟨rfl, HB3.out⟩
      | true =>
        obtain ⟨k1, k2⟩ := HG2.out rfl
        have HK1 := Lib.hid k1
        have k3 : (rankB v == rankB b) = false := by rw [bne] at k2; simpa using k2
        clear k1 HG2
        generalize rankB v = rv at *
        generalize rankB b = rb at *
        go_wp2_with fail
        refine (HK1.out _).mono ?_
        rintro e w' ⟨rfl, rfl⟩
        go_wp2_with fail
        refine (HK.out _).mono ?_
        rintro e w' ⟨rfl, rfl⟩
        go_wp2
        refine bodyPost_ret (results_tmp2 rfl _ _ _) rfl ?_
        exact ⟨rfl, HB3.out⟩
    | false =>
      obtain ⟨v, o, g1, g2⟩ := HR.out S _ HB2.out (by omega)
      have HG1 := Lib.hid g1
      have HG2 := Lib.hid g2
      clear g1 g2 HR
      go_wp2_with fail
      refine HG1.out.mono ?_
      rintro e w3 ⟨rfl, hb3⟩
      have HB3 := Lib.hid (below_step HB2.out hb3)
      clear hb3 HG1
      cases o with
      | false =>
        go_wp2
        refine bodyPost_ret (results_tmp2 rfl _ _ _) rfl ?_
        exact ⟨rfl, HB3.out⟩
      | true =>
        obtain ⟨k1, k2⟩ := HG2.out rfl
        have HK1 := Lib.hid k1
        have k3 : (rankB v == rankB b) = false := by rw [bne] at k2; simpa using k2
        clear k1 HG2
        generalize rankB v = rv at *
        generalize rankB b = rb at *
        go_wp2_with fail
        refine (HK1.out _).mono ?_
        rintro e w' ⟨rfl, rfl⟩
        go_wp2_with fail
        refine (HK.out _).mono ?_
        rintro e w' ⟨rfl, rfl⟩
        go_wp2
        refine bodyPost_ret (results_tmp2 rfl _ _ _) rfl ?_
        exact ⟨rfl, HB3.out⟩
theorem text_nan (b : Nat) (w : World) (h : nanB b = true) : Calls Tryz.prog 20 #[.float .f64 b] w fun e w' => e = .returned (.tuple #[.string ⟨#[110, 97, 110]⟩, .bool true]) ∧ w' = w := by
  have HN := Lib.hid (isNaN_any b)
  rw [h] at HN
  go_enter Tryz.func20, Tryz.ntmps20
  go_wp2_with fail
  refine (HN.out _).mono ?_
  rintro e w' ⟨rfl, rfl⟩
  go_wp2
  refine bodyPost_ret (results_tmp2 rfl _ _ _) rfl ?_
  exact ⟨rfl, rfl⟩
theorem isInf_pp (w : World) : Calls Tryz.prog 34 #[.float .f64 9218868437227405312, .int .i64 1] w fun e w' => e = .returned (.bool true) ∧ w' = w := by
  have h1 : (FloatKind.f64.format.order 9218868437227405312 9218868437227405311 == some .gt) = true := by decide +kernel
  go_enter Tryz.func34, Tryz.ntmps34
  go_wp2
  go_ret
  exact ⟨rfl, rfl⟩
theorem isInf_pn (w : World) : Calls Tryz.prog 34 #[.float .f64 18442240474082181120, .int .i64 1] w fun e w' => e = .returned (.bool false) ∧ w' = w := by
  have h1 : (FloatKind.f64.format.order 18442240474082181120 9218868437227405311 == some .gt) = false := by decide +kernel
  go_enter Tryz.func34, Tryz.ntmps34
  go_wp2
  go_ret
  exact ⟨rfl, rfl⟩
theorem isInf_nn (w : World) : Calls Tryz.prog 34 #[.float .f64 18442240474082181120, .int .i64 (-1)] w fun e w' => e = .returned (.bool true) ∧ w' = w := by
  have hn := neg_run 18442240474082181120 (by decide)
  have e1 : flipB 18442240474082181120 = 9218868437227405312 := by decide
  rw [e1] at hn
  have h1 : (FloatKind.f64.format.order 9218868437227405312 9218868437227405311 == some .gt) = true := by decide +kernel
  go_enter Tryz.func34, Tryz.ntmps34
  go_wp2
  go_ret
  exact ⟨rfl, rfl⟩
theorem text_inf (w : World) : Calls Tryz.prog 20 #[.float .f64 9218868437227405312] w fun e w' => e = .returned (.tuple #[.string ⟨#[105, 110, 102]⟩, .bool true]) ∧ w' = w := by
  have HN := Lib.hid (isNaN_any 9218868437227405312)
  rw [show nanB 9218868437227405312 = false by decide +kernel] at HN
  go_enter Tryz.func20, Tryz.ntmps20
  go_wp2_with fail
  refine (HN.out _).mono ?_
  rintro e w' ⟨rfl, rfl⟩
  go_wp2_with fail
  refine (isInf_pp _).mono ?_
  rintro e w' ⟨rfl, rfl⟩
  go_wp2
  refine bodyPost_ret (results_tmp2 rfl _ _ _) rfl ?_
  exact ⟨rfl, rfl⟩
theorem text_ninf (w : World) : Calls Tryz.prog 20 #[.float .f64 18442240474082181120] w fun e w' => e = .returned (.tuple #[.string ⟨#[45, 105, 110, 102]⟩, .bool true]) ∧ w' = w := by
  have HN := Lib.hid (isNaN_any 18442240474082181120)
  rw [show nanB 18442240474082181120 = false by decide +kernel] at HN
  go_enter Tryz.func20, Tryz.ntmps20
  go_wp2_with fail
  refine (HN.out _).mono ?_
  rintro e w' ⟨rfl, rfl⟩
  go_wp2_with fail
  refine (isInf_pn _).mono ?_
  rintro e w' ⟨rfl, rfl⟩
  go_wp2_with fail
  refine (isInf_nn _).mono ?_
  rintro e w' ⟨rfl, rfl⟩
  go_wp2
  refine bodyPost_ret (results_tmp2 rfl _ _ _) rfl ?_
  exact ⟨rfl, rfl⟩
end Go.Proofs.YtmhgacgneckboaaGreatDoor

namespace Mtr
open Go Go.Lib Adr Fta
theorem frac_one : ∀ i : Fin 10, i ≠ 0 → fracL (frac [UInt8.ofNat (48 + i.val)]) = [UInt8.ofNat (48 + i.val)] ∧ frac [UInt8.ofNat (48 + i.val)] < 1000 := by decide +kernel
theorem frac_two : ∀ i j : Fin 10, j ≠ 0 → fracL (frac [UInt8.ofNat (48 + i.val), UInt8.ofNat (48 + j.val)]) = [UInt8.ofNat (48 + i.val), UInt8.ofNat (48 + j.val)] ∧ frac [UInt8.ofNat (48 + i.val), UInt8.ofNat (48 + j.val)] < 1000 := by decide +kernel
theorem frac_three : ∀ i j k : Fin 10, k ≠ 0 → fracL (frac [UInt8.ofNat (48 + i.val), UInt8.ofNat (48 + j.val), UInt8.ofNat (48 + k.val)]) = [UInt8.ofNat (48 + i.val), UInt8.ofNat (48 + j.val), UInt8.ofNat (48 + k.val)] ∧ frac [UInt8.ofNat (48 + i.val), UInt8.ofNat (48 + j.val), UInt8.ofNat (48 + k.val)] < 1000 := by decide +kernel
theorem dig_fin {c : UInt8} (h : isDig c = true) : ∃ i : Fin 10, c = UInt8.ofNat (48 + i.val) := by
  have hd := (isDig_iff c).1 h
  refine ⟨⟨c.toNat - 48, by omega⟩, UInt8.toNat_inj.1 ?_⟩
  simp; omega
theorem frac_text {b : List UInt8} (h : fracOk b = true) : fracL (frac b) = b ∧ frac b < 1000 ∧ b ≠ [] := by
  unfold fracOk at h
  simp only [Bool.and_eq_true, decide_eq_true_eq, Bool.not_eq_true'] at h
  obtain ⟨⟨⟨h1, h2⟩, h3⟩, h4⟩ := h
  have hne : ∀ c : UInt8, ∀ i : Fin 10, c = UInt8.ofNat (48 + i.val) → c ≠ 48 → i ≠ 0 := fun c i e hc h0 => by subst h0; exact hc (by rw [e]; decide)
  match b, h1, h2, h3, h4 with
  | [x], _, _, h3, h4 =>
    simp only [List.all_cons, List.all_nil, Bool.and_true] at h3
    obtain ⟨i, rfl⟩ := dig_fin h3
    have hi : i ≠ 0 := by rintro rfl; revert h4; decide
    obtain ⟨g1, g2⟩ := frac_one i hi
    exact ⟨g1, g2, by simp⟩
  | [x, y], _, _, h3, h4 =>
    simp only [List.all_cons, List.all_nil, Bool.and_true, Bool.and_eq_true] at h3
    obtain ⟨i, rfl⟩ := dig_fin h3.1
    obtain ⟨j, rfl⟩ := dig_fin h3.2
    have hj : j ≠ 0 := by
      rintro rfl
      have : ∀ i : Fin 10, hasSuffix [UInt8.ofNat (48 + i.val), UInt8.ofNat (48 + (0 : Fin 10).val)] [48] = true := by decide +kernel
      rw [this i] at h4; cases h4
    obtain ⟨g1, g2⟩ := frac_two i j hj
    exact ⟨g1, g2, by simp⟩
  | [x, y, z], _, _, h3, h4 =>
    simp only [List.all_cons, List.all_nil, Bool.and_true, Bool.and_eq_true] at h3
    obtain ⟨i, rfl⟩ := dig_fin h3.1
    obtain ⟨j, rfl⟩ := dig_fin h3.2.1
    obtain ⟨k, rfl⟩ := dig_fin h3.2.2
    have hk : k ≠ 0 := by
      rintro rfl
      have : ∀ i j : Fin 10, hasSuffix [UInt8.ofNat (48 + i.val), UInt8.ofNat (48 + j.val), UInt8.ofNat (48 + (0 : Fin 10).val)] [48] = true := by decide +kernel
      rw [this i j] at h4; cases h4
    obtain ⟨g1, g2⟩ := frac_three i j k hk
    exact ⟨g1, g2, by simp⟩
  | x :: y :: z :: u :: r, _, h2, _, _ => simp at h2
  | [], h1, _, _, _ => simp at h1
theorem int_text {a : List UInt8} (h : intOk a = true) : decDigits (val a) = a := by
  unfold intOk at h
  rw [Bool.and_eq_true] at h
  obtain ⟨h1, h2, h3, h4⟩ := (canon_iff a).1 h.1
  exact dec_val a h1 h3 h4
/-- What is read has that text. -/
theorem dec_canon {t : List UInt8} {n : Nat} (h : dec t = some n) : textL n = t := by
  have hsp := List.takeWhile_append_dropWhile (p := isDig) (l := t)
  unfold dec at h
  cases hd : t.dropWhile isDig with
  | nil =>
    rw [hd] at h hsp
    dsimp only at h
    rw [List.append_nil] at hsp
    split at h
    · rename_i hi
      injection h with h
      have hi2 := int_text hi
      rw [hsp] at hi2 h
      unfold textL
      rw [show n % 1000 = 0 by omega, show n / 1000 = val t by omega, if_pos (by decide +kernel), hi2]
    · cases h
  | cons c b =>
    rw [hd] at h hsp
    dsimp only at h
    split at h
    · rename_i hi
      rw [Bool.and_eq_true, Bool.and_eq_true] at hi
      obtain ⟨hi1, hc, hf⟩ := hi
      injection h with h
      obtain ⟨g1, g2, g3⟩ := frac_text hf
      have hi2 := int_text hi1
      unfold textL
      rw [show n % 1000 = frac b by omega, show n / 1000 = val (t.takeWhile isDig) by omega, g1, if_neg g3, hi2]
      obtain rfl : c = 46 := beq_iff_eq.1 hc
      exact hsp
    · cases h
theorem prefix_split (l : List UInt8) : sgn (Lib.hasPrefix l [45]) ++ Lib.trimPrefix l [45] = l := by
  unfold Lib.trimPrefix
  cases h : Lib.hasPrefix l [45] with
  | false => rfl
  | true =>
    rw [if_pos rfl]
    unfold Lib.hasPrefix at h
    cases l with
    | nil => cases h
    | cons c r =>
      rw [List.isPrefixOf_cons_cons, Bool.and_eq_true] at h
      have := beq_iff_eq.1 h.1
      subst this
      rfl
end Mtr
