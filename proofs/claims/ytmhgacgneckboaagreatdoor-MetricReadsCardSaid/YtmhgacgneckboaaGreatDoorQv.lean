/- Plain facts: the number that the reference reads, digit by digit. A walk: the reference's Read (layer 11), with the number that it reads. -/
import Derived.Test.YtmhgacgneckboaaGreatDoorQu
import Derived.Test.YtmhgacgneckboaaGreatDoorQm
namespace Mtr
open Go Go.Lib Adr
/-- The number of the first i digits. -/
def dv (t : List UInt8) (i : Nat) : Nat := val (t.take i)
theorem dv_zero (t : List UInt8) : dv t 0 = 0 := rfl
theorem dv_succ {t : List UInt8} {i : Nat} (h : i < t.length) : dv t (i + 1) = 10 * dv t i + (t[i].toNat - 48) := by
  unfold dv val
  rw [List.take_succ_eq_append_getElem h, valFrom_append, valFrom_cons, valFrom_nil]
theorem take_all {t : List UInt8} {i : Nat} (h : i ≤ dl t) : (t.take i).all isDig = true := by
  rw [List.all_eq_true]
  intro x hx
  rw [List.mem_iff_getElem] at hx
  obtain ⟨j, hj, rfl⟩ := hx
  rw [List.length_take] at hj
  rw [List.getElem_take]
  exact (dl_dig (by omega)).2
theorem dv_lt {t : List UInt8} {i : Nat} (h : i ≤ dl t) : dv t i < 10 ^ i := by
  have h1 := val_lt (t.take i) (take_all h)
  have h2 := dl_le t
  rwa [List.length_take, Nat.min_eq_left (by omega)] at h1
theorem dv_small {t : List UInt8} {i : Nat} (h : i ≤ dl t) (h6 : i ≤ 6) : dv t i ≤ 999999 := by
  have h1 := dv_lt h
  have h2 : 10 ^ i ≤ 10 ^ 6 := Nat.pow_le_pow_right (by decide) h6
  have h3 : (10 : Nat) ^ 6 = 1000000 := rfl
  omega
/-- The number with the digits behind the point, up to k. -/
def dw (t : List UInt8) (i k : Nat) : Nat := valFrom (dv t i) ((t.drop (i + 1)).take (k - (i + 1)))
theorem dw_zero (t : List UInt8) (i : Nat) : dw t i (i + 1) = dv t i := by unfold dw; rw [Nat.sub_self, List.take_zero, valFrom_nil]
theorem dw_succ {t : List UInt8} {i k : Nat} (h : i + 1 ≤ k) (hk : k < t.length) : dw t i (k + 1) = 10 * dw t i k + (t[k].toNat - 48) := by
  unfold dw
  have e : k + 1 - (i + 1) = k - (i + 1) + 1 := by omega
  have hl : k - (i + 1) < (t.drop (i + 1)).length := by rw [List.length_drop]; omega
  have hg : (t.drop (i + 1))[k - (i + 1)] = t[k] := by rw [List.getElem_drop]; congr 1; omega
  rw [e, List.take_succ_eq_append_getElem hl, valFrom_append, valFrom_cons, valFrom_nil, hg]
theorem dw_small {t : List UInt8} {i k : Nat} (hi : i ≤ dl t) (h6 : i ≤ 6) (h : i + 1 ≤ k) (hk : k ≤ t.length) (h4 : k ≤ i + 4) (hd : ∀ j (hj : j < t.length), i + 1 ≤ j → j < k → isDig t[j] = true) : dw t i k ≤ 999999999 := by
  have ha : ((t.drop (i + 1)).take (k - (i + 1))).all isDig = true := by
    rw [List.all_eq_true]
    intro x hx
    rw [List.mem_iff_getElem] at hx
    obtain ⟨j, hj, rfl⟩ := hx
    rw [List.length_take, List.length_drop] at hj
    rw [List.getElem_take, List.getElem_drop]
    exact hd _ (by omega) (by omega) (by omega)
  have h1 := valFrom_lt _ (dv t i) ha
  have h2 := dv_small hi h6
  have hl : ((t.drop (i + 1)).take (k - (i + 1))).length ≤ 3 := by rw [List.length_take, List.length_drop]; omega
  have h3 : 10 ^ ((t.drop (i + 1)).take (k - (i + 1))).length ≤ 10 ^ 3 := Nat.pow_le_pow_right (by decide) hl
  have h5 : (dv t i + 1) * 10 ^ ((t.drop (i + 1)).take (k - (i + 1))).length ≤ 1000000 * 10 ^ 3 := Nat.mul_le_mul (by omega) h3
  have h6 : (1000000 : Nat) * 10 ^ 3 = 1000000000 := rfl
  show valFrom (dv t i) _ ≤ _
  omega
theorem valFrom_eq (l : List UInt8) : ∀ a, valFrom a l = a * 10 ^ l.length + val l := by
  induction l with
  | nil => intro a; show a = a * 10 ^ 0 + 0; omega
  | cons c r ih =>
    intro a
    have e : val (c :: r) = valFrom (c.toNat - 48) r := by unfold val; rw [valFrom_cons]; congr 1; omega
    rw [e, valFrom_cons, ih, ih (c.toNat - 48), List.length_cons, Nat.pow_succ, Nat.add_mul, ← Nat.add_assoc]
    congr 2
    rw [Nat.mul_comm 10 a, Nat.mul_assoc, Nat.mul_comm 10]
theorem dec_bV {t : List UInt8} (h1 : 1 ≤ dl t) (h6 : dl t ≤ 6) (h2 : 2 ≤ dl t → t.head? ≠ some 48) (h : dl t = t.length) : dec t = some (dv t (dl t) * 10 ^ 3) := by
  have hi := int_good h1 h6 h2
  have e := take_is t
  unfold dec
  rw [drop_is, List.drop_eq_nil_of_le (by omega)]
  dsimp only
  rw [if_pos hi, e]
  show some (1000 * dv t (dl t)) = _
  rw [Nat.mul_comm]
theorem dec_gV {t : List UInt8} (h1 : 1 ≤ dl t) (h6 : dl t ≤ 6) (h2 : 2 ≤ dl t → t.head? ≠ some 48) (h : dl t < t.length) (hc : t[dl t] = 46) (hf : fracOk (t.drop (dl t + 1)) = true) : dec t = some (dw t (dl t) t.length * 10 ^ (dl t + 4 - t.length)) := by
  have hi := int_good h1 h6 h2
  have e := take_is t
  have hl : (t.drop (dl t + 1)).length ≤ 3 := by
    unfold fracOk at hf
    simp only [Bool.and_eq_true, decide_eq_true_eq] at hf
    exact hf.1.1.2
  unfold dec
  rw [drop_is, List.drop_eq_getElem_cons h]
  dsimp only
  rw [if_pos (by rw [hi, hc, hf]; rfl), e]
  congr 1
  have e2 : (t.drop (dl t + 1)).take (t.length - (dl t + 1)) = t.drop (dl t + 1) := List.take_of_length_le (by rw [List.length_drop]; omega)
  unfold dw
  rw [e2, valFrom_eq]
  have hlen : (t.drop (dl t + 1)).length = t.length - (dl t + 1) := List.length_drop
  unfold frac
  rw [show dl t + 4 - t.length = 3 - (t.drop (dl t + 1)).length by omega, Nat.add_mul, Nat.mul_assoc, ← Nat.pow_add, show (t.drop (dl t + 1)).length + (3 - (t.drop (dl t + 1)).length) = 3 by omega]
  show 1000 * dv t (dl t) + _ = _
  rw [Nat.mul_comm 1000]
end Mtr

namespace Go.Proofs.YtmhgacgneckboaaGreatDoor
open Go Go.RowKit Mtr
set_option maxHeartbeats 16000000 in
set_option maxRecDepth 100000 in
theorem refRead_val (s : ByteArray) (w : World) (hs : s.size ≤ 100000000) : Calls Tryz.prog 18 #[.string s] w (ReadEndV s.data.toList w) := by
  have HX : Hid (edgeOk s.data.toList = (decide (s.data.toList = sNan) || decide (s.data.toList = sInf) || decide (s.data.toList = sNeg))) := rfl
  have HRE : Hid (∀ o f, readOk s.data.toList = o → readV s.data.toList = f → ∀ W, Below w.heap.size w W → ReadEndV s.data.toList w (.returned (.tuple #[.float .f64 f, .bool o])) W) := fun o f ho hf W hb => ⟨by rw [ho, hf], hb⟩
  have e1 := edge_eq s [110, 97, 110]
  have e2 := edge_eq s [105, 110, 102]
  have e3 := edge_eq s [45, 105, 110, 102]
  have HN := Lib.hid nan_any
  have HI := Lib.hid inf_any
  by_cases h1 : s.data.toList = sNan
  · have q1 : (s.toList == [110, 97, 110]) = true := e1.trans (decide_eq_true h1)
    have q1' : s.toList = [110, 97, 110] := by simpa using q1
    have hed : edgeOk s.data.toList = true := by rw [HX.out, decide_eq_true h1]; rfl
    have HK := Lib.hid (HRE.out true 9221120237041090561 (by unfold readOk; rw [hed]; rfl) (by unfold readV; rw [if_pos hed]; unfold edgeV; rw [if_pos h1]))
    clear hed
    clear e1 e2 e3 h1 HX HRE
    go_enter Tryz.func18, Tryz.ntmps18
    go_wp2_with fail
    refine (HN.out w).mono ?_
    rintro e w' ⟨rfl, rfl⟩
    go_wp2
    refine bodyPost_ret (results_tmp2 rfl _ _ _) rfl ?_
    exact HK.out _ (Below.refl _ _)
  · have q1 : (s.toList == [110, 97, 110]) = false := e1.trans (decide_eq_false h1)
    have q1' : ¬ s.toList = [110, 97, 110] := by simpa using q1
    by_cases h2 : s.data.toList = sInf
    · have q2 : (s.toList == [105, 110, 102]) = true := e2.trans (decide_eq_true h2)
      have q2' : s.toList = [105, 110, 102] := by simpa using q2
      have hed : edgeOk s.data.toList = true := by rw [HX.out, decide_eq_true h2]; simp
      have HK := Lib.hid (HRE.out true 9218868437227405312 (by unfold readOk; rw [hed]; rfl) (by unfold readV; rw [if_pos hed]; unfold edgeV; rw [if_neg h1, if_pos h2]))
      clear hed
      clear e1 e2 e3 h1 h2 HX HRE
      go_enter Tryz.func18, Tryz.ntmps18
      go_wp2_with fail
      refine (HI.out 1 w).mono ?_
      rintro e w' ⟨rfl, rfl⟩
      go_wp2
      refine bodyPost_ret (results_tmp2 rfl _ _ _) rfl ?_
      exact HK.out _ (Below.refl _ _)
    · have q2 : (s.toList == [105, 110, 102]) = false := e2.trans (decide_eq_false h2)
      have q2' : ¬ s.toList = [105, 110, 102] := by simpa using q2
      by_cases h3 : s.data.toList = sNeg
      · have q3 : (s.toList == [45, 105, 110, 102]) = true := e3.trans (decide_eq_true h3)
        have q3' : s.toList = [45, 105, 110, 102] := by simpa using q3
        have hed : edgeOk s.data.toList = true := by rw [HX.out, decide_eq_true h3]; simp
        have HK := Lib.hid (HRE.out true 18442240474082181120 (by unfold readOk; rw [hed]; rfl) (by unfold readV; rw [if_pos hed]; unfold edgeV; rw [if_neg h1, if_neg h2, if_pos h3]))
        clear hed
        clear e1 e2 e3 h1 h2 h3 HX HRE
        go_enter Tryz.func18, Tryz.ntmps18
        go_wp2_with fail
        refine (HI.out (-1) w).mono ?_
        rintro e w' ⟨rfl, rfl⟩
        go_wp2
        refine bodyPost_ret (results_tmp2 rfl _ _ _) rfl ?_
        exact HK.out _ (Below.refl _ _)
      · have q3 : (s.toList == [45, 105, 110, 102]) = false := e3.trans (decide_eq_false h3)
        have q3' : ¬ s.toList = [45, 105, 110, 102] := by simpa using q3
        have HED : Hid (edgeOk s.data.toList = false) := by show _ = _; rw [HX.out, decide_eq_false h1, decide_eq_false h2, decide_eq_false h3]; rfl
        obtain ⟨g, hg, hgn⟩ : ∃ g : Int → Nat, (∀ z W, (binOp .quo 22 (.float .f64 (floatOfInt .f64 z)) (.float .f64 4652007308841189376)).run Tryz.prog W = .ok (.float .f64 (g z)) W) ∧ ∀ n : Nat, n ≤ 999999999 → g (n : Int) = thou n := by
          refine ⟨fun z => (run_thousand (P := Tryz.prog) 22 z).choose, fun z => (run_thousand (P := Tryz.prog) 22 z).choose_spec, fun n hn => ?_⟩
          have k1 := (run_thousand (P := Tryz.prog) 22 (n : Int)).choose_spec w
          have k2 := run_float_arith (P := Tryz.prog) w .quo 22 .f64 _ _ _ (thou_run hn).2
          have k3 := k1.symm.trans k2
          injection k3 with k3
          injection k3
        obtain ⟨ng, hneg, hngn⟩ : ∃ ng : Nat → Nat, (∀ x W, (Op.unary .neg (.float .f64 x)).run Tryz.prog W = .ok (.float .f64 (ng x)) W) ∧ ∀ x, x < 9223372036854775808 → ng x = 9223372036854775808 + x := by
          refine ⟨fun x => Op.negFloat .f64 x, fun _ _ => rfl, fun x hx => ?_⟩
          show Op.negFloat .f64 x = _
          rw [negFloat_flip x (by omega)]; unfold flipB; rw [if_pos hx]; omega
        have HKF : Hid ((dec (Lib.trimPrefix s.data.toList [45])).isSome = false → ReadEndV s.data.toList w (.returned (.tuple #[.float .f64 0, .bool false])) w) := fun h => by
          refine HRE.out false 0 (by unfold readOk; rw [HED.out, h]; rfl) ?_ w (Below.refl _ _)
          unfold readV
          rw [if_neg (by rw [HED.out]; decide)]
          cases hd : dec (Lib.trimPrefix s.data.toList [45]) with
          | none => rfl
          | some n => rw [hd] at h; cases h
        have HKT : Hid (∀ n, dec (Lib.trimPrefix s.data.toList [45]) = some n → ∀ f, (if Lib.hasPrefix s.data.toList [45] then 9223372036854775808 else 0) + thou n = f → ReadEndV s.data.toList w (.returned (.tuple #[.float .f64 f, .bool true])) w) := fun n h f hf => by
          refine HRE.out true f (by unfold readOk; rw [HED.out, h]; rfl) ?_ w (Below.refl _ _)
          unfold readV
          rw [if_neg (by rw [HED.out]; decide), h]
          exact hf
        clear e1 e2 e3 h1 h2 h3 HX HRE HN HI HED
        have hz := size_data s
        by_cases hsg : Lib.hasPrefix s.data.toList [45] = true
        · have h0 : 0 < s.size := by
            rw [← hz]; unfold Lib.hasPrefix at hsg
            cases hl : s.data.toList with
            | nil => rw [hl] at hsg; cases hsg
            | cons c r => simp
          have hb : ((s[0].toNat : Int) == 45) = true := by
            unfold Lib.hasPrefix at hsg
            have : s.data.toList[0]? = some 45 := by
              cases hl : s.data.toList with
              | nil => rw [hl] at hsg; cases hsg
              | cons c r => rw [hl] at hsg; simp at hsg; simp [hsg]
            obtain ⟨h2, h3⟩ := byte_get s h0
            rw [List.getElem?_eq_getElem h2, h3] at this
            injection this with this
            rw [this]; rfl
          obtain ⟨T, hT⟩ : ∃ T, s.extract 1 s.size = T := ⟨_, rfl⟩
          have HT : Hid (T.data.toList = Lib.trimPrefix s.data.toList [45]) := by
            show _ = _
            rw [← hT, Lib.extract_data]; unfold Lib.trimPrefix; rw [if_pos hsg, ← hz]
            rw [List.take_of_length_le (by simp)]; rfl
          have hTs : T.size ≤ 100000000 := by rw [← hT]; simp; omega
          rw [← HT.out] at HKF HKT
          have HKK : Hid (((dec T.data.toList).isSome = false → ReadEndV s.data.toList w (.returned (.tuple #[.float .f64 0, .bool false])) w) ∧ ∀ n, dec T.data.toList = some n → ReadEndV s.data.toList w (.returned (.tuple #[.float .f64 (ng (g (n : Int))), .bool true])) w) := ⟨HKF.out, fun n h => HKT.out n h _ (by have h9 := dec_small h; rw [if_pos hsg, hgn n h9, hngn _ (thou_run h9).1])⟩
          clear HKF HKT hgn hngn
          have h1s : 1 ≤ s.size := h0
          clear hz hsg HT
          go_enter Tryz.func18, Tryz.ntmps18
          go_wp2
          go_loopw [5, 6] (fun vn vi wr => ∃ (z : Nat) (i : Nat), vn = .int .i64 z ∧ vi = .int .i64 i ∧ i ≤ dl T.data.toList ∧ i ≤ 6 ∧ (2 ≤ i → T.data.toList.head? ≠ some 48) ∧ Hid (z = dv T.data.toList i) ∧ z ≤ 999999 ∧ wr = w) (fun _ vi _ => T.size - (intOf vi).toNat)
          case atStart => exact ⟨0, 0, rfl, rfl, by omega, by omega, fun h => absurd h (by omega), rfl, by omega, rfl⟩
          case round =>
            obtain ⟨z, i, rfl, rfl, hi, hi6, hhd, HZ, hzb, rfl⟩ := hrel
            have hle := dl_le T.data.toList
            have hzT := size_data T
            by_cases hlt : i < dl T.data.toList
            · obtain ⟨hd1, hd2⟩ := dl_dig hlt
              have his : i < T.size := by omega
              have hdg := (Adr.isDig_iff _).1 hd2
              have p1 : decide ((48 : Int) ≤ (T[i].toNat : Int)) = true := decide_eq_true (by have := hdg.1; show (48 : Int) ≤ ((T.data.toList[i].toNat : Nat) : Int); omega)
              have p2 : decide ((T[i].toNat : Int) ≤ 57) = true := decide_eq_true (by have := hdg.2; show ((T.data.toList[i].toNat : Nat) : Int) ≤ 57; omega)
              have HB : Hid (48 ≤ T[i].toNat ∧ T[i].toNat ≤ 57) := hdg
              have HZ2 : Hid (10 * z + (T[i].toNat - 48) = dv T.data.toList (i + 1)) := by show _ = _; rw [dv_succ hd1, ← HZ.out]; rfl
              have HZ3 : Hid (i + 1 ≤ 6 → 10 * z + (T[i].toNat - 48) ≤ 999999) := fun h => by rw [HZ2.out]; exact dv_small hlt h
              have h0s : 0 < T.size := by omega
              by_cases hi6' : i = 6
              · subst hi6'
                have HK := Lib.hid (HKK.out.1 (dec_7 hlt))
                clear HKK hdg hd2 hhd hlt hle hzT
                go_wp2
                all_goals
                  refine bodyPost_ret (results_tmp2 rfl _ _ _) rfl ?_
                  exact HK.out
              · by_cases h1 : i = 1
                · subst h1
                  have hhd0 : T.data.toList.head? = some T[0] := by
                    rw [List.head?_eq_getElem?, List.getElem?_eq_getElem (by rw [hzT]; omega)]; rfl
                  by_cases h48 : T[0] = 48
                  · have HK := Lib.hid (HKK.out.1 (dec_1 (by omega) (by rw [hhd0, h48])))
                    have p3 : ((T[0].toNat : Int) == 48) = true := by rw [h48]; rfl
                    clear HKK hdg hd2 hhd hlt hle hzT hhd0 h48
                    go_wp2
                    all_goals
                      refine bodyPost_ret (results_tmp2 rfl _ _ _) rfl ?_
                      exact HK.out
                  · have p3 : ((T[0].toNat : Int) == 48) = false := by
                      rw [beq_eq_false_iff_ne]; intro e; exact h48 (UInt8.toNat_inj.1 (by show _ = 48; omega))
                    have HH : Hid (2 ≤ 2 → T.data.toList.head? ≠ some 48) := fun _ e => h48 (Option.some.inj (hhd0.symm.trans e))
                    have HL : Hid (1 < dl T.data.toList) := hlt
                    clear hdg hd2 hhd hlt hhd0 h48 hle hzT
                    go_wp2_with fail
                    go_roundw
                    case rel => exact ⟨_, 2, (by congr 1; have hB := HB.out; first | omega | (simp only [wrap64, IntKind.wrap_u8]; omega)), rfl, HL.out, by omega, HH.out, HZ2, HZ3.out (by omega), by first | rfl | trivial⟩
                    case measure => first | (simp [intOf]; omega) | simp [intOf]
                · have p4 : ((i : Int) == 6) = false := by rw [beq_eq_false_iff_ne]; omega
                  have p5 : ((i : Int) == 1) = false := by rw [beq_eq_false_iff_ne]; omega
                  have HH : Hid (2 ≤ i + 1 → T.data.toList.head? ≠ some 48) := fun h => hhd (by omega)
                  have HL : Hid (i < dl T.data.toList) := hlt
                  clear hdg hd2 hhd hlt hle hzT
                  go_wp2_with fail
                  go_roundw
                  case rel => exact ⟨_, i + 1, (by congr 1; have hB := HB.out; first | omega | (simp only [wrap64, IntKind.wrap_u8]; omega)), by go_num, HL.out, by omega, HH.out, HZ2, HZ3.out (by omega), by first | rfl | trivial⟩
                  case measure => first | (simp [intOf]; omega) | simp [intOf]
            · obtain hiD : i = dl T.data.toList := by omega
              rcases Nat.eq_zero_or_pos i with hi0 | hi0
              · subst hi0
                have HK := Lib.hid (HKK.out.1 (dec_a hiD.symm))
                have HN : Hid (∀ h : 0 < T.size, Adr.isDig T[0] = false) := fun h => by
                  have h2 : dl T.data.toList < T.data.toList.length := by rw [← hiD, hzT]; exact h
                  have := dl_stop h2
                  obtain ⟨h3, h4⟩ := byte_get T h
                  rw [← h4]
                  have e : T.data.toList[dl T.data.toList] = T.data.toList[0] := by congr 1; exact hiD.symm
                  rw [← e]; exact this
                clear HKK hhd hlt hle hzT hiD
                by_cases h0s : 0 < T.size
                · have hnd := HN.out h0s
                  have hnd2 : T[0].toNat < 48 ∨ 57 < T[0].toNat := by
                    have := (not_congr (Adr.isDig_iff T[0])).1 (by rw [hnd]; decide)
                    omega
                  clear hnd HN
                  rcases hnd2 with hnd2 | hnd2
                  · have p1 : decide ((48 : Int) ≤ (T[0].toNat : Int)) = false := decide_eq_false (by omega)
                    go_wp2
                    all_goals
                      refine bodyPost_ret (results_tmp2 rfl _ _ _) rfl ?_
                      exact HK.out
                  · have p1 : decide ((48 : Int) ≤ (T[0].toNat : Int)) = true := decide_eq_true (by omega)
                    have p2 : decide ((T[0].toNat : Int) ≤ 57) = false := decide_eq_false (by omega)
                    go_wp2
                    all_goals
                      refine bodyPost_ret (results_tmp2 rfl _ _ _) rfl ?_
                      exact HK.out
                · have hs0 : T.size = 0 := by omega
                  have hs1 : ¬ (0 : Int) < (T.size : Int) := by omega
                  go_wp2
                  all_goals
                    refine bodyPost_ret (results_tmp2 rfl _ _ _) rfl ?_
                    exact HK.out
              · have p0 : ((i : Int) == 0) = false := by rw [beq_eq_false_iff_ne]; omega
                by_cases his : i < T.size
                · have h2 : dl T.data.toList < T.data.toList.length := by rw [← hiD, hzT]; exact his
                  have hst := dl_stop h2
                  have hTi : T.data.toList[dl T.data.toList] = T[i] := by
                    obtain ⟨h3, h4⟩ := byte_get T his
                    rw [← h4]; congr 1; exact hiD.symm
                  rw [hTi] at hst
                  have hlt48 : T[i].toNat < 48 ∨ 57 < T[i].toNat := by
                    have := (not_congr (Adr.isDig_iff T[i])).1 (by rw [hst]; decide)
                    omega
                  by_cases h46 : T[i] = 46
                  · have p1 : decide ((48 : Int) ≤ (T[i].toNat : Int)) = false := decide_eq_false (by rw [h46]; decide)
                    have p3 : ((T[i].toNat : Int) == 46) = true := by rw [h46]; rfl
                    have p3b : ((T[i].toNat : Int) != 46) = false := by rw [bne, p3]; rfl
                    have p3c : (T[i].toNat : Int) = 46 := beq_iff_eq.1 p3
                    obtain ⟨q, hq⟩ : ∃ q, T.size - 1 = q := ⟨_, rfl⟩
                    have hzq : (T.size : Int) - 1 = (q : Int) := by omega
                    have hqs : q < T.size := by omega
                    have hlast : ∀ h : T.data.toList.length - 1 < T.data.toList.length, T.data.toList[T.data.toList.length - 1] = T[q] := fun h => by
                      obtain ⟨h3, h4⟩ := byte_get T hqs
                      rw [← h4]; congr 1
                    by_cases hi1 : i + 1 = T.size
                    · have HK := Lib.hid (HKK.out.1 (dec_f h2 (frac_d (by rw [← hiD, hzT]; exact hi1))))
                      have p6 : ((i : Int) + 1 == (T.size : Int)) = true := by rw [beq_iff_eq]; omega
                      clear HKK hhd hlt hle hzT hiD h2 hst hTi h46 hlast hlt48 hq
                      go_wp2
                      all_goals
                        refine bodyPost_ret (results_tmp2 rfl _ _ _) rfl ?_
                        exact HK.out
                    · have p6 : ((i : Int) + 1 == (T.size : Int)) = false := by rw [beq_eq_false_iff_ne]; omega
                      by_cases hl48 : T[q] = 48
                      · have HK := Lib.hid (HKK.out.1 (dec_f h2 (frac_e (by rw [← hiD, hzT]; omega) (by rw [hlast]; exact hl48))))
                        have p7 : ((T[q].toNat : Int) == 48) = true := by rw [hl48]; rfl
                        clear HKK hhd hlt hle hzT hiD h2 hst hTi h46 hlast hlt48 hq hl48
                        go_wp2
                        all_goals
                          refine bodyPost_ret (results_tmp2 rfl _ _ _) rfl ?_
                          exact HK.out
                      · have p7 : ((T[q].toNat : Int) == 48) = false := by
                          rw [beq_eq_false_iff_ne]; intro e; exact hl48 (UInt8.toNat_inj.1 (by show _ = 48; omega))
                        have HN : Hid (∀ j (hj : j < T.size), i + 1 ≤ j → Adr.isDig T[j] = false → (dec T.data.toList).isSome = false) := fun j hj h1 h3 => dec_f h2 (frac_n (i := j) (by rw [← hiD]; exact h1) (by rw [hzT]; exact hj) h3)
                        have H4 : Hid (i + 4 < T.size → (dec T.data.toList).isSome = false) := fun h => dec_f h2 (frac_4 (by rw [← hiD, hzT]; exact h))
                        have HDS : Hid (∀ k, i + 1 ≤ k → k ≤ T.size → k ≤ i + 4 → (∀ j (hj : j < T.size), i + 1 ≤ j → j < k → Adr.isDig T[j] = true) → dw T.data.toList i k ≤ 999999999) := fun k h1 h2 h3 h4 => dw_small (by omega) hi6 h1 (by rw [hzT]; exact h2) h3 (fun j hj h5 h6 => h4 j (by rw [← hzT]; exact hj) h5 h6)
                        have HWS : Hid (∀ k (hk : k < T.size), i + 1 ≤ k → dw T.data.toList i (k + 1) = 10 * dw T.data.toList i k + (T[k].toNat - 48)) := fun k hk h1 => dw_succ h1 (by rw [hzT]; exact hk)
                        have HY : Hid (T.size ≤ i + 4 → (∀ j (hj : j < T.size), i + 1 ≤ j → Adr.isDig T[j] = true) → dec T.data.toList = some (dw T.data.toList i T.size * 10 ^ (i + 4 - T.size))) := fun h4 hd => by
                          have h9 := dec_gV (by omega) (by omega) (fun h => hhd (by omega)) h2 (hTi.trans h46) (frac_y (by rw [← hiD, hzT]; omega) (by rw [← hiD, hzT]; exact h4) (fun j hj h1 => hd j (by rw [← hzT]; exact hj) (by rw [hiD]; exact h1)) (by rw [hlast]; exact hl48))
                          rw [hzT, ← hiD] at h9
                          exact h9
                        have hi1s : i + 1 < T.size := by omega
                        clear hhd hlt hle hzT hiD h2 hst hTi h46 hlast hlt48 hq hl48
                        go_wp2
                        go_loopw [5, 6, 7] (fun vn vi vl wq => ∃ (z k m : Nat), vn = .int .i64 z ∧ vi = .int .i64 k ∧ vl = .int .i64 m ∧ i + 1 ≤ k ∧ k ≤ T.size ∧ m + k = i + 4 ∧ Hid (∀ j (hj : j < T.size), i + 1 ≤ j → j < k → Adr.isDig T[j] = true) ∧ Hid (z = dw T.data.toList i k) ∧ z ≤ 999999999 ∧ wq = wr) (fun _ vi _ _ => T.size - (intOf vi).toNat)
                        case atStart => exact ⟨_, i + 1, 3, rfl, by go_num, rfl, by omega, by omega, by omega, (show ∀ j (hj : j < T.size), i + 1 ≤ j → j < i + 1 → Adr.isDig T[j] = true from fun j hj h1 h2 => absurd h2 (by omega)), (show z = dw T.data.toList i (i + 1) from by rw [dw_zero]; exact HZ.out), by omega, rfl⟩
                        case round =>
                          obtain ⟨z2, k, m, rfl, rfl, rfl, hik, hks, hmk, HD, HZ4, hzb4, rfl⟩ := hrel
                          by_cases hkl : k < T.size
                          · by_cases hdk : Adr.isDig T[k] = true
                            · have hdg := (Adr.isDig_iff _).1 hdk
                              have r1 : ¬ (T[k].toNat : Int) < 48 := by omega
                              have r2 : ¬ (57 : Int) < (T[k].toNat : Int) := by omega
                              by_cases hm0 : m = 0
                              · subst hm0
                                have HK := Lib.hid (HKK.out.1 (H4.out (by omega)))
                                clear HKK HN H4 HY HD hdg hdk
                                go_wp2
                                all_goals
                                  refine bodyPost_ret (results_tmp2 rfl _ _ _) rfl ?_
                                  exact HK.out
                              · have r3 : ((m : Int) == 0) = false := by rw [beq_eq_false_iff_ne]; omega
                                have HD2 : Hid (∀ j (hj : j < T.size), i + 1 ≤ j → j < k + 1 → Adr.isDig T[j] = true) := fun j hj h1 h2 => by
                                  rcases Nat.lt_or_ge j k with h3 | h3
                                  · exact HD.out j hj h1 h3
                                  · obtain rfl : j = k := by omega
                                    exact hdk
                                obtain ⟨m2, rfl⟩ : ∃ m2, m = m2 + 1 := ⟨m - 1, by omega⟩
                                have HB := Lib.hid hdg
                                have HZ5 := Lib.hid (HWS.out k hkl hik)
                                rw [← HZ4.out] at HZ5
                                have HZ6 := Lib.hid (HDS.out (k + 1) (by omega) (by omega) (by omega) HD2.out)
                                rw [HZ5.out] at HZ6
                                clear HD hdg hdk hm0
                                go_wp2_with fail
                                go_roundw
                                case rel => exact ⟨_, k + 1, m2, (by congr 1; have hB := HB.out; first | omega | (simp only [wrap64, IntKind.wrap_u8]; omega)), by go_num, by go_num, by omega, by omega, by omega, HD2, HZ5.out.symm, HZ6.out, by first | rfl | trivial⟩
                                case measure => first | (simp [intOf]; omega) | simp [intOf]
                            · have hdf : Adr.isDig T[k] = false := by simpa using hdk
                              have HK := Lib.hid (HKK.out.1 (HN.out k hkl hik hdf))
                              have hor : T[k].toNat < 48 ∨ 57 < T[k].toNat := by
                                have := (not_congr (Adr.isDig_iff T[k])).1 hdk
                                omega
                              clear HKK HN H4 HY HD hdf hdk
                              rcases hor with hor | hor
                              · have r1 : (T[k].toNat : Int) < 48 := by omega
                                go_wp2
                                all_goals
                                  refine bodyPost_ret (results_tmp2 rfl _ _ _) rfl ?_
                                  exact HK.out
                              · have r1 : ¬ (T[k].toNat : Int) < 48 := by omega
                                have r2 : (57 : Int) < (T[k].toNat : Int) := by omega
                                go_wp2
                                all_goals
                                  refine bodyPost_ret (results_tmp2 rfl _ _ _) rfl ?_
                                  exact HK.out
                          · have hks2 : k = T.size := by omega
                            have hde := HY.out (by omega) (fun j hj h1 => HD.out j hj h1 (by omega))
                            rw [← hks2, ← HZ4.out, show i + 4 - k = m by omega] at hde
                            obtain ⟨N, hN⟩ : ∃ N, z2 * 10 ^ m = N := ⟨_, rfl⟩
                            rw [hN] at hde
                            have HNb := Lib.hid (dec_small hde)
                            have HNe := Lib.hid hN
                            have HK := Lib.hid (HKK.out.2 N hde)
                            clear hde hN hks2
                            have hs2 : ¬ (k : Int) < (T.size : Int) := by omega
                            have hm3 : m ≤ 3 := by omega
                            clear HKK HN H4 HY HD
                            go_wp2
                            go_loopw [5, 7] (fun vn vl wq => ∃ (z q : Nat), vn = .int .i64 z ∧ vl = .int .i64 q ∧ q ≤ 3 ∧ Hid (z * 10 ^ q = N) ∧ z ≤ 999999999 ∧ wq = wr) (fun _ vl _ => (intOf vl).toNat)
                            case atStart => exact ⟨_, m, rfl, rfl, by omega, HNe, by omega, rfl⟩
                            case round =>
                              obtain ⟨z3, q3, rfl, rfl, hq3, HZ7, hzb7, rfl⟩ := hrel
                              by_cases hq0 : 0 < q3
                              · have HZ8 : Hid (10 * z3 * 10 ^ (q3 - 1) = N) := by
                                    show _ = _
                                    have hp : 10 ^ q3 = 10 ^ (q3 - 1) * 10 := by rw [← Nat.pow_succ]; congr 1; omega
                                    rw [← HZ7.out, hp, Nat.mul_comm 10 z3, Nat.mul_assoc, Nat.mul_comm 10]
                                have HZ9 : Hid (10 * z3 ≤ 999999999) := Nat.le_trans (Nat.le_trans (Nat.le_mul_of_pos_right _ (Nat.pow_pos (by decide))) (Nat.le_of_eq HZ8.out)) HNb.out
                                go_wp2_with fail
                                go_roundw
                                case rel => exact ⟨10 * z3, q3 - 1, (by first | rfl | (congr 1; omega) | (simp only [wrap64]; congr 1; omega)), by congr 1; omega, by omega, HZ8, HZ9.out, by first | rfl | trivial⟩
                                case measure => first | (simp [intOf]; omega) | simp [intOf]
                              · obtain rfl : q3 = 0 := by omega
                                obtain rfl : z3 = N := by have := HZ7.out; rw [Nat.pow_zero, Nat.mul_one] at this; exact this
                                go_wp2
                                refine bodyPost_ret (results_tmp2 rfl _ _ _) rfl ?_
                                exact HK.out
                  · have HK := Lib.hid (HKK.out.1 (dec_c h2 (by rw [hTi]; exact h46)))
                    have p3 : ((T[i].toNat : Int) == 46) = false := by
                      rw [beq_eq_false_iff_ne]; intro e; exact h46 (UInt8.toNat_inj.1 (by show _ = 46; omega))
                    have p3b : ((T[i].toNat : Int) != 46) = true := by rw [bne, p3]; rfl
                    have p3c : ¬ (T[i].toNat : Int) = 46 := beq_eq_false_iff_ne.1 p3
                    clear HKK hhd hlt hle hzT hiD h2 hst hTi h46
                    rcases hlt48 with hnd2 | hnd2
                    · have p1 : decide ((48 : Int) ≤ (T[i].toNat : Int)) = false := decide_eq_false (by omega)
                      go_wp2
                      all_goals
                        refine bodyPost_ret (results_tmp2 rfl _ _ _) rfl ?_
                        exact HK.out
                    · have p1 : decide ((48 : Int) ≤ (T[i].toNat : Int)) = true := decide_eq_true (by omega)
                      have p2 : decide ((T[i].toNat : Int) ≤ 57) = false := decide_eq_false (by omega)
                      go_wp2
                      all_goals
                        refine bodyPost_ret (results_tmp2 rfl _ _ _) rfl ?_
                        exact HK.out
                · have hde := dec_bV (by omega) (by omega) (fun h => hhd (by omega)) (by omega)
                  rw [← hiD, ← HZ.out] at hde
                  obtain ⟨N, hN⟩ : ∃ N, z * 10 ^ 3 = N := ⟨_, rfl⟩
                  rw [hN] at hde
                  have HNb := Lib.hid (dec_small hde)
                  have HNe := Lib.hid hN
                  have HK := Lib.hid (HKK.out.2 N hde)
                  clear hde hN
                  have hs1 : ¬ (i : Int) < (T.size : Int) := by omega
                  clear HKK hhd hlt hle hzT hiD
                  go_wp2
                  go_loopw [5, 7] (fun vn vl wq => ∃ (z q : Nat), vn = .int .i64 z ∧ vl = .int .i64 q ∧ q ≤ 3 ∧ Hid (z * 10 ^ q = N) ∧ z ≤ 999999999 ∧ wq = wr) (fun _ vl _ => (intOf vl).toNat)
                  case atStart => exact ⟨_, 3, rfl, rfl, by omega, HNe, by omega, rfl⟩
                  case round =>
                    obtain ⟨z3, q3, rfl, rfl, hq3, HZ7, hzb7, rfl⟩ := hrel
                    by_cases hq0 : 0 < q3
                    · have HZ8 : Hid (10 * z3 * 10 ^ (q3 - 1) = N) := by
                          show _ = _
                          have hp : 10 ^ q3 = 10 ^ (q3 - 1) * 10 := by rw [← Nat.pow_succ]; congr 1; omega
                          rw [← HZ7.out, hp, Nat.mul_comm 10 z3, Nat.mul_assoc, Nat.mul_comm 10]
                      have HZ9 : Hid (10 * z3 ≤ 999999999) := Nat.le_trans (Nat.le_trans (Nat.le_mul_of_pos_right _ (Nat.pow_pos (by decide))) (Nat.le_of_eq HZ8.out)) HNb.out
                      go_wp2_with fail
                      go_roundw
                      case rel => exact ⟨10 * z3, q3 - 1, (by first | rfl | (congr 1; omega) | (simp only [wrap64]; congr 1; omega)), by congr 1; omega, by omega, HZ8, HZ9.out, by first | rfl | trivial⟩
                      case measure => first | (simp [intOf]; omega) | simp [intOf]
                    · obtain rfl : q3 = 0 := by omega
                      obtain rfl : z3 = N := by have := HZ7.out; rw [Nat.pow_zero, Nat.mul_one] at this; exact this
                      go_wp2
                      refine bodyPost_ret (results_tmp2 rfl _ _ _) rfl ?_
                      exact HK.out
        · have hT : s = s := rfl
          have HT : Hid (s.data.toList = Lib.trimPrefix s.data.toList [45]) := by
            show _ = _; unfold Lib.trimPrefix; rw [if_neg hsg]
          rw [← HT.out] at HKF HKT
          have HKK : Hid (((dec s.data.toList).isSome = false → ReadEndV s.data.toList w (.returned (.tuple #[.float .f64 0, .bool false])) w) ∧ ∀ n, dec s.data.toList = some n → ReadEndV s.data.toList w (.returned (.tuple #[.float .f64 (g (n : Int)), .bool true])) w) := ⟨HKF.out, fun n h => HKT.out n h _ (by rw [if_neg hsg, Nat.zero_add, hgn n (dec_small h)])⟩
          clear HT hT HKF HKT hgn hngn hneg
          by_cases h0 : 0 < s.size
          · have hb : ((s[0].toNat : Int) == 45) = false := by
              rw [beq_eq_false_iff_ne]; intro e
              have e2 : s[0] = 45 := UInt8.toNat_inj.1 (by show _ = 45; omega)
              refine hsg ?_
              obtain ⟨h2, h3⟩ := byte_get s h0
              unfold Lib.hasPrefix
              have : s.data.toList = s[0] :: s.data.toList.drop 1 := by
                rw [← h3, ← List.drop_eq_getElem_cons h2]; rfl
              rw [this, e2]; rfl
            clear hsg hz
            go_enter Tryz.func18, Tryz.ntmps18
            go_wp2
            go_loopw [5, 6] (fun vn vi wr => ∃ (z : Nat) (i : Nat), vn = .int .i64 z ∧ vi = .int .i64 i ∧ i ≤ dl s.data.toList ∧ i ≤ 6 ∧ (2 ≤ i → s.data.toList.head? ≠ some 48) ∧ Hid (z = dv s.data.toList i) ∧ z ≤ 999999 ∧ wr = w) (fun _ vi _ => s.size - (intOf vi).toNat)
            case atStart => exact ⟨0, 0, rfl, rfl, by omega, by omega, fun h => absurd h (by omega), rfl, by omega, rfl⟩
            case round =>
              obtain ⟨z, i, rfl, rfl, hi, hi6, hhd, HZ, hzb, rfl⟩ := hrel
              have hle := dl_le s.data.toList
              have hzT := size_data s
              by_cases hlt : i < dl s.data.toList
              · obtain ⟨hd1, hd2⟩ := dl_dig hlt
                have his : i < s.size := by omega
                have hdg := (Adr.isDig_iff _).1 hd2
                have p1 : decide ((48 : Int) ≤ (s[i].toNat : Int)) = true := decide_eq_true (by have := hdg.1; show (48 : Int) ≤ ((s.data.toList[i].toNat : Nat) : Int); omega)
                have p2 : decide ((s[i].toNat : Int) ≤ 57) = true := decide_eq_true (by have := hdg.2; show ((s.data.toList[i].toNat : Nat) : Int) ≤ 57; omega)
                have HB : Hid (48 ≤ s[i].toNat ∧ s[i].toNat ≤ 57) := hdg
                have HZ2 : Hid (10 * z + (s[i].toNat - 48) = dv s.data.toList (i + 1)) := by show _ = _; rw [dv_succ hd1, ← HZ.out]; rfl
                have HZ3 : Hid (i + 1 ≤ 6 → 10 * z + (s[i].toNat - 48) ≤ 999999) := fun h => by rw [HZ2.out]; exact dv_small hlt h
                have h0s : 0 < s.size := by omega
                by_cases hi6' : i = 6
                · subst hi6'
                  have HK := Lib.hid (HKK.out.1 (dec_7 hlt))
                  clear HKK hdg hd2 hhd hlt hle hzT
                  go_wp2
                  all_goals
                    refine bodyPost_ret (results_tmp2 rfl _ _ _) rfl ?_
                    exact HK.out
                · by_cases h1 : i = 1
                  · subst h1
                    have hhd0 : s.data.toList.head? = some s[0] := by
                      rw [List.head?_eq_getElem?, List.getElem?_eq_getElem (by rw [hzT]; omega)]; rfl
                    by_cases h48 : s[0] = 48
                    · have HK := Lib.hid (HKK.out.1 (dec_1 (by omega) (by rw [hhd0, h48])))
                      have p3 : ((s[0].toNat : Int) == 48) = true := by rw [h48]; rfl
                      clear HKK hdg hd2 hhd hlt hle hzT hhd0 h48
                      go_wp2
                      all_goals
                        refine bodyPost_ret (results_tmp2 rfl _ _ _) rfl ?_
                        exact HK.out
                    · have p3 : ((s[0].toNat : Int) == 48) = false := by
                        rw [beq_eq_false_iff_ne]; intro e; exact h48 (UInt8.toNat_inj.1 (by show _ = 48; omega))
                      have HH : Hid (2 ≤ 2 → s.data.toList.head? ≠ some 48) := fun _ e => h48 (Option.some.inj (hhd0.symm.trans e))
                      have HL : Hid (1 < dl s.data.toList) := hlt
                      clear hdg hd2 hhd hlt hhd0 h48 hle hzT
                      go_wp2_with fail
                      go_roundw
                      case rel => exact ⟨_, 2, (by congr 1; have hB := HB.out; first | omega | (simp only [wrap64, IntKind.wrap_u8]; omega)), rfl, HL.out, by omega, HH.out, HZ2, HZ3.out (by omega), by first | rfl | trivial⟩
                      case measure => first | (simp [intOf]; omega) | simp [intOf]
                  · have p4 : ((i : Int) == 6) = false := by rw [beq_eq_false_iff_ne]; omega
                    have p5 : ((i : Int) == 1) = false := by rw [beq_eq_false_iff_ne]; omega
                    have HH : Hid (2 ≤ i + 1 → s.data.toList.head? ≠ some 48) := fun h => hhd (by omega)
                    have HL : Hid (i < dl s.data.toList) := hlt
                    clear hdg hd2 hhd hlt hle hzT
                    go_wp2_with fail
                    go_roundw
                    case rel => exact ⟨_, i + 1, (by congr 1; have hB := HB.out; first | omega | (simp only [wrap64, IntKind.wrap_u8]; omega)), by go_num, HL.out, by omega, HH.out, HZ2, HZ3.out (by omega), by first | rfl | trivial⟩
                    case measure => first | (simp [intOf]; omega) | simp [intOf]
              · obtain hiD : i = dl s.data.toList := by omega
                rcases Nat.eq_zero_or_pos i with hi0 | hi0
                · subst hi0
                  have HK := Lib.hid (HKK.out.1 (dec_a hiD.symm))
                  have HN : Hid (∀ h : 0 < s.size, Adr.isDig s[0] = false) := fun h => by
                    have h2 : dl s.data.toList < s.data.toList.length := by rw [← hiD, hzT]; exact h
                    have := dl_stop h2
                    obtain ⟨h3, h4⟩ := byte_get s h
                    rw [← h4]
                    have e : s.data.toList[dl s.data.toList] = s.data.toList[0] := by congr 1; exact hiD.symm
                    rw [← e]; exact this
                  clear HKK hhd hlt hle hzT hiD
                  by_cases h0s : 0 < s.size
                  · have hnd := HN.out h0s
                    have hnd2 : s[0].toNat < 48 ∨ 57 < s[0].toNat := by
                      have := (not_congr (Adr.isDig_iff s[0])).1 (by rw [hnd]; decide)
                      omega
                    clear hnd HN
                    rcases hnd2 with hnd2 | hnd2
                    · have p1 : decide ((48 : Int) ≤ (s[0].toNat : Int)) = false := decide_eq_false (by omega)
                      go_wp2
                      all_goals
                        refine bodyPost_ret (results_tmp2 rfl _ _ _) rfl ?_
                        exact HK.out
                    · have p1 : decide ((48 : Int) ≤ (s[0].toNat : Int)) = true := decide_eq_true (by omega)
                      have p2 : decide ((s[0].toNat : Int) ≤ 57) = false := decide_eq_false (by omega)
                      go_wp2
                      all_goals
                        refine bodyPost_ret (results_tmp2 rfl _ _ _) rfl ?_
                        exact HK.out
                  · have hs0 : s.size = 0 := by omega
                    have hs1 : ¬ (0 : Int) < (s.size : Int) := by omega
                    go_wp2
                    all_goals
                      refine bodyPost_ret (results_tmp2 rfl _ _ _) rfl ?_
                      exact HK.out
                · have p0 : ((i : Int) == 0) = false := by rw [beq_eq_false_iff_ne]; omega
                  by_cases his : i < s.size
                  · have h2 : dl s.data.toList < s.data.toList.length := by rw [← hiD, hzT]; exact his
                    have hst := dl_stop h2
                    have hTi : s.data.toList[dl s.data.toList] = s[i] := by
                      obtain ⟨h3, h4⟩ := byte_get s his
                      rw [← h4]; congr 1; exact hiD.symm
                    rw [hTi] at hst
                    have hlt48 : s[i].toNat < 48 ∨ 57 < s[i].toNat := by
                      have := (not_congr (Adr.isDig_iff s[i])).1 (by rw [hst]; decide)
                      omega
                    by_cases h46 : s[i] = 46
                    · have p1 : decide ((48 : Int) ≤ (s[i].toNat : Int)) = false := decide_eq_false (by rw [h46]; decide)
                      have p3 : ((s[i].toNat : Int) == 46) = true := by rw [h46]; rfl
                      have p3b : ((s[i].toNat : Int) != 46) = false := by rw [bne, p3]; rfl
                      have p3c : (s[i].toNat : Int) = 46 := beq_iff_eq.1 p3
                      obtain ⟨q, hq⟩ : ∃ q, s.size - 1 = q := ⟨_, rfl⟩
                      have hzq : (s.size : Int) - 1 = (q : Int) := by omega
                      have hqs : q < s.size := by omega
                      have hlast : ∀ h : s.data.toList.length - 1 < s.data.toList.length, s.data.toList[s.data.toList.length - 1] = s[q] := fun h => by
                        obtain ⟨h3, h4⟩ := byte_get s hqs
                        rw [← h4]; congr 1
                      by_cases hi1 : i + 1 = s.size
                      · have HK := Lib.hid (HKK.out.1 (dec_f h2 (frac_d (by rw [← hiD, hzT]; exact hi1))))
                        have p6 : ((i : Int) + 1 == (s.size : Int)) = true := by rw [beq_iff_eq]; omega
                        clear HKK hhd hlt hle hzT hiD h2 hst hTi h46 hlast hlt48 hq
                        go_wp2
                        all_goals
                          refine bodyPost_ret (results_tmp2 rfl _ _ _) rfl ?_
                          exact HK.out
                      · have p6 : ((i : Int) + 1 == (s.size : Int)) = false := by rw [beq_eq_false_iff_ne]; omega
                        by_cases hl48 : s[q] = 48
                        · have HK := Lib.hid (HKK.out.1 (dec_f h2 (frac_e (by rw [← hiD, hzT]; omega) (by rw [hlast]; exact hl48))))
                          have p7 : ((s[q].toNat : Int) == 48) = true := by rw [hl48]; rfl
                          clear HKK hhd hlt hle hzT hiD h2 hst hTi h46 hlast hlt48 hq hl48
                          go_wp2
                          all_goals
                            refine bodyPost_ret (results_tmp2 rfl _ _ _) rfl ?_
                            exact HK.out
                        · have p7 : ((s[q].toNat : Int) == 48) = false := by
                            rw [beq_eq_false_iff_ne]; intro e; exact hl48 (UInt8.toNat_inj.1 (by show _ = 48; omega))
                          have HN : Hid (∀ j (hj : j < s.size), i + 1 ≤ j → Adr.isDig s[j] = false → (dec s.data.toList).isSome = false) := fun j hj h1 h3 => dec_f h2 (frac_n (i := j) (by rw [← hiD]; exact h1) (by rw [hzT]; exact hj) h3)
                          have H4 : Hid (i + 4 < s.size → (dec s.data.toList).isSome = false) := fun h => dec_f h2 (frac_4 (by rw [← hiD, hzT]; exact h))
                          have HDS : Hid (∀ k, i + 1 ≤ k → k ≤ s.size → k ≤ i + 4 → (∀ j (hj : j < s.size), i + 1 ≤ j → j < k → Adr.isDig s[j] = true) → dw s.data.toList i k ≤ 999999999) := fun k h1 h2 h3 h4 => dw_small (by omega) hi6 h1 (by rw [hzT]; exact h2) h3 (fun j hj h5 h6 => h4 j (by rw [← hzT]; exact hj) h5 h6)
                          have HWS : Hid (∀ k (hk : k < s.size), i + 1 ≤ k → dw s.data.toList i (k + 1) = 10 * dw s.data.toList i k + (s[k].toNat - 48)) := fun k hk h1 => dw_succ h1 (by rw [hzT]; exact hk)
                          have HY : Hid (s.size ≤ i + 4 → (∀ j (hj : j < s.size), i + 1 ≤ j → Adr.isDig s[j] = true) → dec s.data.toList = some (dw s.data.toList i s.size * 10 ^ (i + 4 - s.size))) := fun h4 hd => by
                            have h9 := dec_gV (by omega) (by omega) (fun h => hhd (by omega)) h2 (hTi.trans h46) (frac_y (by rw [← hiD, hzT]; omega) (by rw [← hiD, hzT]; exact h4) (fun j hj h1 => hd j (by rw [← hzT]; exact hj) (by rw [hiD]; exact h1)) (by rw [hlast]; exact hl48))
                            rw [hzT, ← hiD] at h9
                            exact h9
                          have hi1s : i + 1 < s.size := by omega
                          clear hhd hlt hle hzT hiD h2 hst hTi h46 hlast hlt48 hq hl48
                          go_wp2
                          go_loopw [5, 6, 7] (fun vn vi vl wq => ∃ (z k m : Nat), vn = .int .i64 z ∧ vi = .int .i64 k ∧ vl = .int .i64 m ∧ i + 1 ≤ k ∧ k ≤ s.size ∧ m + k = i + 4 ∧ Hid (∀ j (hj : j < s.size), i + 1 ≤ j → j < k → Adr.isDig s[j] = true) ∧ Hid (z = dw s.data.toList i k) ∧ z ≤ 999999999 ∧ wq = wr) (fun _ vi _ _ => s.size - (intOf vi).toNat)
                          case atStart => exact ⟨_, i + 1, 3, rfl, by go_num, rfl, by omega, by omega, by omega, (show ∀ j (hj : j < s.size), i + 1 ≤ j → j < i + 1 → Adr.isDig s[j] = true from fun j hj h1 h2 => absurd h2 (by omega)), (show z = dw s.data.toList i (i + 1) from by rw [dw_zero]; exact HZ.out), by omega, rfl⟩
                          case round =>
                            obtain ⟨z2, k, m, rfl, rfl, rfl, hik, hks, hmk, HD, HZ4, hzb4, rfl⟩ := hrel
                            by_cases hkl : k < s.size
                            · by_cases hdk : Adr.isDig s[k] = true
                              · have hdg := (Adr.isDig_iff _).1 hdk
                                have r1 : ¬ (s[k].toNat : Int) < 48 := by omega
                                have r2 : ¬ (57 : Int) < (s[k].toNat : Int) := by omega
                                by_cases hm0 : m = 0
                                · subst hm0
                                  have HK := Lib.hid (HKK.out.1 (H4.out (by omega)))
                                  clear HKK HN H4 HY HD hdg hdk
                                  go_wp2
                                  all_goals
                                    refine bodyPost_ret (results_tmp2 rfl _ _ _) rfl ?_
                                    exact HK.out
                                · have r3 : ((m : Int) == 0) = false := by rw [beq_eq_false_iff_ne]; omega
                                  have HD2 : Hid (∀ j (hj : j < s.size), i + 1 ≤ j → j < k + 1 → Adr.isDig s[j] = true) := fun j hj h1 h2 => by
                                    rcases Nat.lt_or_ge j k with h3 | h3
                                    · exact HD.out j hj h1 h3
                                    · obtain rfl : j = k := by omega
                                      exact hdk
                                  obtain ⟨m2, rfl⟩ : ∃ m2, m = m2 + 1 := ⟨m - 1, by omega⟩
                                  have HB := Lib.hid hdg
                                  have HZ5 := Lib.hid (HWS.out k hkl hik)
                                  rw [← HZ4.out] at HZ5
                                  have HZ6 := Lib.hid (HDS.out (k + 1) (by omega) (by omega) (by omega) HD2.out)
                                  rw [HZ5.out] at HZ6
                                  clear HD hdg hdk hm0
                                  go_wp2_with fail
                                  go_roundw
                                  case rel => exact ⟨_, k + 1, m2, (by congr 1; have hB := HB.out; first | omega | (simp only [wrap64, IntKind.wrap_u8]; omega)), by go_num, by go_num, by omega, by omega, by omega, HD2, HZ5.out.symm, HZ6.out, by first | rfl | trivial⟩
                                  case measure => first | (simp [intOf]; omega) | simp [intOf]
                              · have hdf : Adr.isDig s[k] = false := by simpa using hdk
                                have HK := Lib.hid (HKK.out.1 (HN.out k hkl hik hdf))
                                have hor : s[k].toNat < 48 ∨ 57 < s[k].toNat := by
                                  have := (not_congr (Adr.isDig_iff s[k])).1 hdk
                                  omega
                                clear HKK HN H4 HY HD hdf hdk
                                rcases hor with hor | hor
                                · have r1 : (s[k].toNat : Int) < 48 := by omega
                                  go_wp2
                                  all_goals
                                    refine bodyPost_ret (results_tmp2 rfl _ _ _) rfl ?_
                                    exact HK.out
                                · have r1 : ¬ (s[k].toNat : Int) < 48 := by omega
                                  have r2 : (57 : Int) < (s[k].toNat : Int) := by omega
                                  go_wp2
                                  all_goals
                                    refine bodyPost_ret (results_tmp2 rfl _ _ _) rfl ?_
                                    exact HK.out
                            · have hks2 : k = s.size := by omega
                              have hde := HY.out (by omega) (fun j hj h1 => HD.out j hj h1 (by omega))
                              rw [← hks2, ← HZ4.out, show i + 4 - k = m by omega] at hde
                              obtain ⟨N, hN⟩ : ∃ N, z2 * 10 ^ m = N := ⟨_, rfl⟩
                              rw [hN] at hde
                              have HNb := Lib.hid (dec_small hde)
                              have HNe := Lib.hid hN
                              have HK := Lib.hid (HKK.out.2 N hde)
                              clear hde hN hks2
                              have hs2 : ¬ (k : Int) < (s.size : Int) := by omega
                              have hm3 : m ≤ 3 := by omega
                              clear HKK HN H4 HY HD
                              go_wp2
                              go_loopw [5, 7] (fun vn vl wq => ∃ (z q : Nat), vn = .int .i64 z ∧ vl = .int .i64 q ∧ q ≤ 3 ∧ Hid (z * 10 ^ q = N) ∧ z ≤ 999999999 ∧ wq = wr) (fun _ vl _ => (intOf vl).toNat)
                              case atStart => exact ⟨_, m, rfl, rfl, by omega, HNe, by omega, rfl⟩
                              case round =>
                                obtain ⟨z3, q3, rfl, rfl, hq3, HZ7, hzb7, rfl⟩ := hrel
                                by_cases hq0 : 0 < q3
                                · have HZ8 : Hid (10 * z3 * 10 ^ (q3 - 1) = N) := by
                                      show _ = _
                                      have hp : 10 ^ q3 = 10 ^ (q3 - 1) * 10 := by rw [← Nat.pow_succ]; congr 1; omega
                                      rw [← HZ7.out, hp, Nat.mul_comm 10 z3, Nat.mul_assoc, Nat.mul_comm 10]
                                  have HZ9 : Hid (10 * z3 ≤ 999999999) := Nat.le_trans (Nat.le_trans (Nat.le_mul_of_pos_right _ (Nat.pow_pos (by decide))) (Nat.le_of_eq HZ8.out)) HNb.out
                                  go_wp2_with fail
                                  go_roundw
                                  case rel => exact ⟨10 * z3, q3 - 1, (by first | rfl | (congr 1; omega) | (simp only [wrap64]; congr 1; omega)), by congr 1; omega, by omega, HZ8, HZ9.out, by first | rfl | trivial⟩
                                  case measure => first | (simp [intOf]; omega) | simp [intOf]
                                · obtain rfl : q3 = 0 := by omega
                                  obtain rfl : z3 = N := by have := HZ7.out; rw [Nat.pow_zero, Nat.mul_one] at this; exact this
                                  go_wp2
                                  refine bodyPost_ret (results_tmp2 rfl _ _ _) rfl ?_
                                  exact HK.out
                    · have HK := Lib.hid (HKK.out.1 (dec_c h2 (by rw [hTi]; exact h46)))
                      have p3 : ((s[i].toNat : Int) == 46) = false := by
                        rw [beq_eq_false_iff_ne]; intro e; exact h46 (UInt8.toNat_inj.1 (by show _ = 46; omega))
                      have p3b : ((s[i].toNat : Int) != 46) = true := by rw [bne, p3]; rfl
                      have p3c : ¬ (s[i].toNat : Int) = 46 := beq_eq_false_iff_ne.1 p3
                      clear HKK hhd hlt hle hzT hiD h2 hst hTi h46
                      rcases hlt48 with hnd2 | hnd2
                      · have p1 : decide ((48 : Int) ≤ (s[i].toNat : Int)) = false := decide_eq_false (by omega)
                        go_wp2
                        all_goals
                          refine bodyPost_ret (results_tmp2 rfl _ _ _) rfl ?_
                          exact HK.out
                      · have p1 : decide ((48 : Int) ≤ (s[i].toNat : Int)) = true := decide_eq_true (by omega)
                        have p2 : decide ((s[i].toNat : Int) ≤ 57) = false := decide_eq_false (by omega)
                        go_wp2
                        all_goals
                          refine bodyPost_ret (results_tmp2 rfl _ _ _) rfl ?_
                          exact HK.out
                  · have hde := dec_bV (by omega) (by omega) (fun h => hhd (by omega)) (by omega)
                    rw [← hiD, ← HZ.out] at hde
                    obtain ⟨N, hN⟩ : ∃ N, z * 10 ^ 3 = N := ⟨_, rfl⟩
                    rw [hN] at hde
                    have HNb := Lib.hid (dec_small hde)
                    have HNe := Lib.hid hN
                    have HK := Lib.hid (HKK.out.2 N hde)
                    clear hde hN
                    have hs1 : ¬ (i : Int) < (s.size : Int) := by omega
                    clear HKK hhd hlt hle hzT hiD
                    go_wp2
                    go_loopw [5, 7] (fun vn vl wq => ∃ (z q : Nat), vn = .int .i64 z ∧ vl = .int .i64 q ∧ q ≤ 3 ∧ Hid (z * 10 ^ q = N) ∧ z ≤ 999999999 ∧ wq = wr) (fun _ vl _ => (intOf vl).toNat)
                    case atStart => exact ⟨_, 3, rfl, rfl, by omega, HNe, by omega, rfl⟩
                    case round =>
                      obtain ⟨z3, q3, rfl, rfl, hq3, HZ7, hzb7, rfl⟩ := hrel
                      by_cases hq0 : 0 < q3
                      · have HZ8 : Hid (10 * z3 * 10 ^ (q3 - 1) = N) := by
                            show _ = _
                            have hp : 10 ^ q3 = 10 ^ (q3 - 1) * 10 := by rw [← Nat.pow_succ]; congr 1; omega
                            rw [← HZ7.out, hp, Nat.mul_comm 10 z3, Nat.mul_assoc, Nat.mul_comm 10]
                        have HZ9 : Hid (10 * z3 ≤ 999999999) := Nat.le_trans (Nat.le_trans (Nat.le_mul_of_pos_right _ (Nat.pow_pos (by decide))) (Nat.le_of_eq HZ8.out)) HNb.out
                        go_wp2_with fail
                        go_roundw
                        case rel => exact ⟨10 * z3, q3 - 1, (by first | rfl | (congr 1; omega) | (simp only [wrap64]; congr 1; omega)), by congr 1; omega, by omega, HZ8, HZ9.out, by first | rfl | trivial⟩
                        case measure => first | (simp [intOf]; omega) | simp [intOf]
                      · obtain rfl : q3 = 0 := by omega
                        obtain rfl : z3 = N := by have := HZ7.out; rw [Nat.pow_zero, Nat.mul_one] at this; exact this
                        go_wp2
                        refine bodyPost_ret (results_tmp2 rfl _ _ _) rfl ?_
                        exact HK.out
          · have hs00 : s.size = 0 := by omega
            have hd0 : dl s.data.toList = 0 := by have := dl_le s.data.toList; omega
            have HK := Lib.hid (HKK.out.1 (dec_a hd0))
            clear hsg hz HKK hd0
            go_enter Tryz.func18, Tryz.ntmps18
            go_wp2
            go_loopw [5, 6] (fun vn vi wr => vn = .int .i64 0 ∧ vi = .int .i64 0 ∧ wr = w) (fun _ _ _ => 0)
            case atStart => exact ⟨rfl, rfl, rfl⟩
            case round =>
              obtain ⟨rfl, rfl, rfl⟩ := hrel
              go_wp2
              refine bodyPost_ret (results_tmp2 rfl _ _ _) rfl ?_
              exact HK.out
end Go.Proofs.YtmhgacgneckboaaGreatDoor
