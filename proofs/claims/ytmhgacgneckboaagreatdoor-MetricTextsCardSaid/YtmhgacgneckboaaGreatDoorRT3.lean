/- A walk: the reference's text of a number of thousandths. -/
import Derived.Test.YtmhgacgneckboaaGreatDoorRT2
namespace Mtr
open Go Go.Lib Ieee Fta Adr
theorem trim_at {X : List UInt8} {L : Nat} (hL : 1 ≤ L) (hX : L ≤ X.length) (hl : X[L - 1]'(by omega) ≠ 48) (hz : ∀ j (hj : j < X.length), L ≤ j → X[j] = 48) : Lib.trimRightB X 48 = X.take L := by
  have e : X = X.take L ++ X.drop L := (List.take_append_drop L X).symm
  have hd : Lib.trimRightB (X.drop L) 48 = [] := by
    have : ∀ Y : List UInt8, (∀ y ∈ Y, y = 48) → Lib.trimRightB Y 48 = [] := fun Y hY => by
      rcases trimR_end Y 48 with h | ⟨A, x, h, hx⟩
      · exact h
      · exfalso
        have : x ∈ Y := trimR_mem (c := 48) (by rw [h]; simp)
        exact hx (hY x this)
    refine this _ fun y hy => ?_
    rw [List.mem_iff_getElem] at hy
    obtain ⟨j, hj, rfl⟩ := hy
    rw [List.length_drop] at hj
    rw [List.getElem_drop]
    exact hz _ (by omega) (by omega)
  have ht : Lib.trimRightB (X.take L) 48 = X.take L := by
    have : X.take L = X.take (L - 1) ++ [X[L - 1]'(by omega)] := by
      have := List.take_succ_eq_append_getElem (l := X) (i := L - 1) (by omega)
      rw [show L - 1 + 1 = L by omega] at this
      exact this
    rw [this]
    exact trimR_last _ _ _ hl
  conv => lhs; rw [e]
  rw [trimR_app, hd, if_pos rfl, ht]
theorem three_len (k : Nat) : (three k).length = 3 := rfl
theorem thousand_dec {k : Nat} (h : k < 1000) : decDigits (1000 + k) = 49 :: three k := by
  rw [dec_three (by omega), show (1000 + k) / 1000 = 1 by omega, show (1000 + k) % 1000 = k by omega, decDigits_one (by decide)]; rfl
theorem three_some {k : Nat} (h : k < 1000) (h0 : 0 < k) : ∃ j, ∃ hj : j < (three k).length, (three k)[j] ≠ 48 := by
  have key : ∀ i : Nat, i < 10 → i ≠ 0 → UInt8.ofNat (48 + i) ≠ 48 := by
    have : ∀ i : Fin 10, i ≠ 0 → UInt8.ofNat (48 + i.val) ≠ 48 := by decide +kernel
    intro i hi h0
    exact this ⟨i, hi⟩ (by intro e; apply h0; exact congrArg Fin.val e)
  by_cases h1 : k / 100 = 0
  · by_cases h2 : k / 10 % 10 = 0
    · exact ⟨2, by rw [three_len]; decide, key (k % 10) (by omega) (by omega)⟩
    · exact ⟨1, by rw [three_len]; decide, key (k / 10 % 10) (by omega) h2⟩
  · exact ⟨0, by rw [three_len]; decide, key (k / 100) (by omega) h1⟩
theorem mk_is {s : ByteArray} {l : List UInt8} (h : s.data.toList = l) : (⟨l.toArray⟩ : ByteArray) = s := by rw [← h]
theorem frac_build {n k a L : Nat} {SA t : ByteArray} (hT : textL n = if fracL k = [] then decDigits a else decDigits a ++ 46 :: fracL k) (hSA : (⟨(decDigits a).toArray⟩ : ByteArray) = SA) (hL : 2 ≤ L) (hL4 : L ≤ 4) (ht : t.data.toList = (49 :: three k).take L)
    (hl : (49 :: three k).getD (L - 1) 0 ≠ 48) (hz : ∀ j, j < 4 → L ≤ j → (49 :: three k).getD j 0 = 48) : (⟨(textL n).toArray⟩ : ByteArray) = SA ++ ⟨#[46]⟩ ++ t.extract 1 t.size := by
  have hf : fracL k = (three k).take (L - 1) := by
    unfold fracL
    refine trim_at (by omega) (by rw [three_len]; omega) ?_ ?_
    · obtain ⟨q, hq⟩ : ∃ q, L - 1 = q + 1 := ⟨L - 2, by omega⟩
      rw [hq] at hl
      have h3 : q < (three k).length := by rw [three_len]; omega
      have e : (three k)[L - 1 - 1]'(by rw [three_len]; omega) = (three k)[q] := by congr 1; omega
      rw [e]
      rw [List.getD_cons_succ, List.getD_eq_getElem?_getD, List.getElem?_eq_getElem h3] at hl
      exact hl
    · intro j hj h1
      have := hz (j + 1) (by rw [three_len] at hj; omega) (by omega)
      rw [List.getD_cons_succ, List.getD_eq_getElem?_getD, List.getElem?_eq_getElem hj] at this
      exact this
  have hne : fracL k ≠ [] := by
    rw [hf]
    intro e
    have := congrArg List.length e
    rw [List.length_take, three_len] at this
    simp at this
    omega
  rw [hT, if_neg hne, hf]
  refine mk_is ?_
  rw [ByteArray.data_append, ByteArray.data_append, ← hSA]
  have hsz : t.size = L := by
    have h1 : t.data.toList.length = t.size := by simp
    rw [ht, List.length_take] at h1
    have : (49 :: three k).length = 4 := rfl
    omega
  have he : (t.extract 1 t.size).data.toList = (three k).take (L - 1) := by
    rw [Lib.extract_data, ht, hsz]
    obtain ⟨q, hq⟩ : ∃ q, L = q + 1 := ⟨L - 1, by omega⟩
    rw [hq, List.take_succ_cons, List.drop_succ_cons, List.drop_zero, Nat.add_sub_cancel, List.take_take, Nat.min_self]
  simp only [Array.toList_append]
  rw [he]
  simp
end Mtr
namespace Go.Proofs.YtmhgacgneckboaaGreatDoor
open Go Go.RowKit Mtr Ieee Fta
theorem sgn_true (l : List UInt8) : (⟨(sgn true ++ l).toArray⟩ : ByteArray) = (⟨#[45]⟩ : ByteArray) ++ ⟨l.toArray⟩ := (cat_mk [45] l).symm
set_option maxHeartbeats 4000000 in
set_option maxRecDepth 100000 in
theorem refText_thou (n : Nat) (hn : n ≤ 999999999) (neg : Bool) (w : World) : Calls Tryz.prog 21 #[.float .f64 (ofT neg n)] w fun e w' => e = .returned (.tuple #[.string ⟨(sgn neg ++ textL n).toArray⟩, .bool true]) ∧ Below w.heap.size w w' := by
  have hlt := ofT_lt neg hn
  have hrg := ofT_rung neg hn
  have htb := thou_bound hn
  have hsg := sign_of (ofT neg n) hlt (by
    rw [hrg]
    have h1 : thou n < 4696837146684686336 := by
      rcases Nat.lt_or_ge n 999999999 with h | h
      · exact Nat.lt_trans (thou_lt h (by decide)) (by decide +kernel)
      · rw [show n = 999999999 by omega]; decide +kernel
    omega)
  have hng : negB (ofT neg n) = neg := by
    unfold negB ofT
    cases neg
    · rw [if_neg (by decide), show (0 + thou n) / 9223372036854775808 % 2 = 0 by omega]; rfl
    · rw [if_pos rfl, show (9223372036854775808 + thou n) / 9223372036854775808 % 2 = 1 by omega]; rfl
  rw [hrg, hng] at hsg
  have HN := Lib.hid (refNan_any (ofT neg n))
  rw [ofT_nan neg hn] at HN
  have hth : thou n ≤ 4696837146684686336 := by
    rcases Nat.lt_or_ge n 999999999 with h | h
    · exact Nat.le_of_lt (Nat.lt_trans (thou_lt h (by decide)) (by decide +kernel))
    · rw [show n = 999999999 by omega]; decide +kernel
  obtain ⟨p, r, hp, hr2, n', hn64, hto, hnn⟩ := ref_whole (g := thou n) hth
  obtain rfl : n' = n := hnn n hn rfl
  have hq1 : ∀ w, (binOp .quo 22 (.float .f64 (floatOfInt .f64 (n' : Int))) (.float .f64 4652007308841189376)).run Tryz.prog w = .ok (.float .f64 (thou n')) w := fun w => run_float_arith w .quo _ .f64 _ _ _ (thou_run hn).2
  have hmul : ∀ w, (binOp .mul 22 (.float .f64 (thou n')) (.float .f64 4652007308841189376)).run Tryz.prog w = .ok (.float .f64 p) w := fun w => run_float_arith w .mul _ .f64 _ _ _ hp
  have hadd : ∀ w, (binOp .add 22 (.float .f64 p) (.float .f64 4602678819172646912)).run Tryz.prog w = .ok (.float .f64 r) w := fun w => run_float_arith w .add _ .f64 _ _ _ hr2
  have hcv : ∀ w, (convert 22 3 (.float .f64 r)).run Tryz.prog w = .ok (.int .i64 n') w := fun w => run_convert_float_int w 22 3 .f64 .i64 _ _ (by kernel_rfl) Tryz.underlying3 hto
  have hve : (FloatKind.f64.format.order (thou n') (thou n') == some .eq) = true := thou_isEq hn
  have hve2 : (FloatKind.f64.format.order (thou n') (thou n') != some .eq) = false := by rw [bne, hve]; rfl
  have hn9 : ¬ (999999999 : Int) < (n' : Int) := by omega
  obtain ⟨a, ha⟩ : ∃ a, n' / 1000 = a := ⟨_, rfl⟩
  obtain ⟨k, hk⟩ : ∃ k, n' % 1000 = k := ⟨_, rfl⟩
  have hai : (n' : Int) / 1000 = (a : Int) := by omega
  have hki : (n' : Int) % 1000 = (k : Int) := by omega
  have hkt : (n' : Int).tmod 1000 = (k : Int) := by rw [Int.tmod_eq_emod_of_nonneg (by omega)]; omega
  have hk1 : k < 1000 := by omega
  have HDa := Lib.hid (fun W => digits11 a W (by omega))
  have HDk := Lib.hid (fun W => digits11 (1000 + k) W (by omega))
  rw [thousand_dec hk1] at HDk
  obtain ⟨SA, hSA⟩ : ∃ SA : ByteArray, (⟨(Lib.decDigits a).toArray⟩ : ByteArray) = SA := ⟨_, rfl⟩
  have hSAs : SA.size ≤ 1000 := by
    have h1 := Lib.nDigits_le20 a (by omega)
    have h2 := Lib.decDigits_length a
    rw [← hSA, size_mk]; omega
  have hT : textL n' = if fracL k = [] then Lib.decDigits a else Lib.decDigits a ++ 46 :: fracL k := by unfold textL; rw [ha, hk]
  rw [hSA] at HDa
  have HT := Lib.hid hT
  have HSA := Lib.hid hSA
  obtain ⟨K, hK⟩ : ∃ K, 1000 + k = K := ⟨_, rfl⟩
  have h1k : (1000 : Int) + (k : Int) = (K : Int) := by omega
  rw [hK] at HDk
  obtain ⟨S0, hS0⟩ : ∃ S0 : ByteArray, (⟨(49 :: three k).toArray⟩ : ByteArray) = S0 := ⟨_, rfl⟩
  rw [hS0] at HDk
  have hS0z : S0.size = 4 := by rw [← hS0, size_mk]; rfl
  have HS0 : Hid (S0.data.toList = 49 :: three k) := by show _ = _; rw [← hS0, data_mk]
  obtain ⟨g1, g2, g3, g4, g5⟩ := hsg
  clear hp hr2 hto hnn hng hrg hlt htb hT hSA hth hK hS0
  generalize ofT neg n' = f at *
  generalize thou n' = g at *
  cases neg with
  | false =>
    obtain rfl := g5 rfl
    clear g4 g5
    rcases g3 with ⟨h, -⟩ | ⟨k1, k2, -⟩ | ⟨k1, k2, q, k3, k4⟩
    · cases h
    all_goals
      go_enter Tryz.func21, Tryz.ntmps21
      go_wp2_with fail
      refine (HN.out _).mono ?_
      rintro e w' ⟨rfl, rfl⟩
      go_wp2_with fail
      refine (HDa.out _).mono ?_
      rintro e w1 ⟨rfl, hb1⟩
      have HB1 := Lib.hid hb1
      clear hb1 HN
      rcases Nat.eq_zero_or_pos k with hk0 | hk0
      · have hk0i : ¬ (0 : Int) < (k : Int) := by omega
        have hTx : (⟨(textL n').toArray⟩ : ByteArray) = SA := by
          rw [HT.out, hk0, if_pos (by decide +kernel)]; exact HSA.out
        have HTx := Lib.hid hTx
        clear hTx hk0
        go_wp2_with fail
        refine bodyPost_ret (results_tmp2 rfl _ _ _) rfl ?_
        exact ⟨by rw [show sgn false ++ textL n' = textL n' from rfl, HTx.out]; rfl, HB1.out⟩
      · have hk0i : (0 : Int) < (k : Int) := by omega
        go_wp2_with fail
        refine (HDk.out _).mono ?_
        rintro e w2 ⟨rfl, hb2⟩
        have HB2 := Lib.hid (below_step HB1.out hb2)
        clear hb2
        go_wp2_with fail
        go_loopw [9] (fun v9 wr => ∃ (L : Nat) (t : ByteArray), v9 = .string t ∧ 2 ≤ L ∧ L ≤ 4 ∧ t.size = L ∧ Hid (t.data.toList = (49 :: three k).take L) ∧ Hid (∀ j, j < 4 → L ≤ j → (49 :: three k).getD j 0 = 48) ∧ wr = w2) (fun v9 _ => match v9 with | .string t => t.size | _ => 0)
        case atStart => exact ⟨4, S0, rfl, by omega, by omega, hS0z, (by show _ = _; rw [HS0.out]; rfl), (fun j h1 h2 => absurd h2 (by omega)), rfl⟩
        case round =>
          obtain ⟨L, t, rfl, hL2, hL4, htz, HTl, HZ, rfl⟩ := hrel
          obtain ⟨x, hx⟩ : ∃ x, L - 1 = x := ⟨_, rfl⟩
          have hxs : x < t.size := by omega
          have hxi : (t.size : Int) - 1 = (x : Int) := by omega
          have hbt : Hid (t[x] = (49 :: three k).getD x 0) := by
            show _ = _
            have h1 : x < t.data.toList.length := by simpa using hxs
            obtain ⟨y, hy⟩ : ∃ y, t[x] = y := ⟨_, rfl⟩
            have h3 : t.data.toList[x]? = some y := by rw [← hy]; exact List.getElem?_eq_getElem h1
            rw [HTl.out, List.getElem?_take, if_pos (by omega)] at h3
            rw [hy, List.getD_eq_getElem?_getD, h3]
            rfl
          by_cases h48 : t[x] = 48
          · have hL3 : 3 ≤ L := by
              rcases Nat.lt_or_ge L 3 with h | h
              · exfalso
                obtain ⟨j, hj, hjn⟩ := three_some hk1 hk0
                apply hjn
                have hj3 : j < 3 := hj
                rcases Nat.eq_zero_or_pos j with h0 | h0
                · subst h0
                  have h7 : (49 :: three k).getD x 0 = 48 := hbt.out.symm.trans h48
                  rw [show x = 0 + 1 by omega, List.getD_cons_succ, List.getD_eq_getElem?_getD, List.getElem?_eq_getElem hj] at h7
                  exact h7
                · have := HZ.out (j + 1) (by omega) (by omega)
                  rw [List.getD_cons_succ, List.getD_eq_getElem?_getD, List.getElem?_eq_getElem hj] at this
                  exact this
              · exact h
            have h48i : (((t[x].toNat : Nat) : Int) == 48) = true := by rw [h48]; rfl
            have HT2 : Hid ((t.extract 0 x).data.toList = (49 :: three k).take x) := by
              show _ = _
              rw [Lib.extract_data, HTl.out, List.drop_zero, Nat.sub_zero, List.take_take, Nat.min_eq_left (by omega)]
            have hsz2 : (t.extract 0 x).size = x := by simp; omega
            have HZ2 : Hid (∀ j, j < 4 → x ≤ j → (49 :: three k).getD j 0 = 48) := fun j h1 h2 => by
              rcases Nat.lt_or_ge j L with h | h
              · have : j = x := by omega
                subst this
                rw [← hbt.out]; exact h48
              · exact HZ.out j h1 h
            clear HTl HZ hbt h48
            go_wp2_with fail
            go_roundw
            case rel => exact ⟨x, t.extract 0 x, rfl, by omega, by omega, hsz2, HT2, HZ2, by first | rfl | trivial⟩
            case measure => show (t.extract 0 x).size < t.size; omega
          · have h48i : (((t[x].toNat : Nat) : Int) == 48) = false := by
              rw [beq_eq_false_iff_ne]; intro e; exact h48 (UInt8.toNat_inj.1 (by show _ = 48; omega))
            have HFin := Lib.hid (frac_build HT.out HSA.out hL2 hL4 HTl.out (by rw [hx, ← hbt.out]; exact h48) HZ.out)
            have ht1 : 1 ≤ t.size := by omega
            have ht4 : t.size ≤ 4 := by omega
            rw [htz] at HFin
            clear HTl HZ hbt h48
            go_wp2_with fail
            refine bodyPost_ret (results_tmp2 rfl _ _ _) rfl ?_
            exact ⟨by rw [show sgn false ++ textL n' = textL n' from rfl, HFin.out]; rfl, HB2.out⟩
  | true =>
    have g6 := g4 rfl
    clear g4 g5
    rcases g3 with ⟨-, k1⟩ | ⟨-, -, h⟩ | ⟨k1, k2, q, k3, k4⟩
    rotate_left
    · cases h
    all_goals
      go_enter Tryz.func21, Tryz.ntmps21
      go_wp2_with fail
      refine (HN.out _).mono ?_
      rintro e w' ⟨rfl, rfl⟩
      go_wp2_with fail
      refine (HDa.out _).mono ?_
      rintro e w1 ⟨rfl, hb1⟩
      have HB1 := Lib.hid hb1
      clear hb1 HN
      rcases Nat.eq_zero_or_pos k with hk0 | hk0
      · have hk0i : ¬ (0 : Int) < (k : Int) := by omega
        have hTx : (⟨(textL n').toArray⟩ : ByteArray) = SA := by
          rw [HT.out, hk0, if_pos (by decide +kernel)]; exact HSA.out
        have HTx := Lib.hid hTx
        clear hTx hk0
        go_wp2_with fail
        refine bodyPost_ret (results_tmp2 rfl _ _ _) rfl ?_
        exact ⟨by rw [sgn_true (textL n'), HTx.out]; rfl, HB1.out⟩
      · have hk0i : (0 : Int) < (k : Int) := by omega
        go_wp2_with fail
        refine (HDk.out _).mono ?_
        rintro e w2 ⟨rfl, hb2⟩
        have HB2 := Lib.hid (below_step HB1.out hb2)
        clear hb2
        go_wp2_with fail
        go_loopw [9] (fun v9 wr => ∃ (L : Nat) (t : ByteArray), v9 = .string t ∧ 2 ≤ L ∧ L ≤ 4 ∧ t.size = L ∧ Hid (t.data.toList = (49 :: three k).take L) ∧ Hid (∀ j, j < 4 → L ≤ j → (49 :: three k).getD j 0 = 48) ∧ wr = w2) (fun v9 _ => match v9 with | .string t => t.size | _ => 0)
        case atStart => exact ⟨4, S0, rfl, by omega, by omega, hS0z, (by show _ = _; rw [HS0.out]; rfl), (fun j h1 h2 => absurd h2 (by omega)), rfl⟩
        case round =>
          obtain ⟨L, t, rfl, hL2, hL4, htz, HTl, HZ, rfl⟩ := hrel
          obtain ⟨x, hx⟩ : ∃ x, L - 1 = x := ⟨_, rfl⟩
          have hxs : x < t.size := by omega
          have hxi : (t.size : Int) - 1 = (x : Int) := by omega
          have hbt : Hid (t[x] = (49 :: three k).getD x 0) := by
            show _ = _
            have h1 : x < t.data.toList.length := by simpa using hxs
            obtain ⟨y, hy⟩ : ∃ y, t[x] = y := ⟨_, rfl⟩
            have h3 : t.data.toList[x]? = some y := by rw [← hy]; exact List.getElem?_eq_getElem h1
            rw [HTl.out, List.getElem?_take, if_pos (by omega)] at h3
            rw [hy, List.getD_eq_getElem?_getD, h3]
            rfl
          by_cases h48 : t[x] = 48
          · have hL3 : 3 ≤ L := by
              rcases Nat.lt_or_ge L 3 with h | h
              · exfalso
                obtain ⟨j, hj, hjn⟩ := three_some hk1 hk0
                apply hjn
                have hj3 : j < 3 := hj
                rcases Nat.eq_zero_or_pos j with h0 | h0
                · subst h0
                  have h7 : (49 :: three k).getD x 0 = 48 := hbt.out.symm.trans h48
                  rw [show x = 0 + 1 by omega, List.getD_cons_succ, List.getD_eq_getElem?_getD, List.getElem?_eq_getElem hj] at h7
                  exact h7
                · have := HZ.out (j + 1) (by omega) (by omega)
                  rw [List.getD_cons_succ, List.getD_eq_getElem?_getD, List.getElem?_eq_getElem hj] at this
                  exact this
              · exact h
            have h48i : (((t[x].toNat : Nat) : Int) == 48) = true := by rw [h48]; rfl
            have HT2 : Hid ((t.extract 0 x).data.toList = (49 :: three k).take x) := by
              show _ = _
              rw [Lib.extract_data, HTl.out, List.drop_zero, Nat.sub_zero, List.take_take, Nat.min_eq_left (by omega)]
            have hsz2 : (t.extract 0 x).size = x := by simp; omega
            have HZ2 : Hid (∀ j, j < 4 → x ≤ j → (49 :: three k).getD j 0 = 48) := fun j h1 h2 => by
              rcases Nat.lt_or_ge j L with h | h
              · have : j = x := by omega
                subst this
                rw [← hbt.out]; exact h48
              · exact HZ.out j h1 h
            clear HTl HZ hbt h48
            go_wp2_with fail
            go_roundw
            case rel => exact ⟨x, t.extract 0 x, rfl, by omega, by omega, hsz2, HT2, HZ2, by first | rfl | trivial⟩
            case measure => show (t.extract 0 x).size < t.size; omega
          · have h48i : (((t[x].toNat : Nat) : Int) == 48) = false := by
              rw [beq_eq_false_iff_ne]; intro e; exact h48 (UInt8.toNat_inj.1 (by show _ = 48; omega))
            have HFin := Lib.hid (frac_build HT.out HSA.out hL2 hL4 HTl.out (by rw [hx, ← hbt.out]; exact h48) HZ.out)
            have ht1 : 1 ≤ t.size := by omega
            have ht4 : t.size ≤ 4 := by omega
            rw [htz] at HFin
            clear HTl HZ hbt h48
            go_wp2_with fail
            refine bodyPost_ret (results_tmp2 rfl _ _ _) rfl ?_
            exact ⟨by rw [sgn_true (textL n'), HFin.out]; rfl, HB2.out⟩
end Go.Proofs.YtmhgacgneckboaaGreatDoor
