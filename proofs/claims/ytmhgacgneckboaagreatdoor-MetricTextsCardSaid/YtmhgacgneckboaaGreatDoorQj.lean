/- A walk: the library's text of a float below one, three digits behind the point. Walks: the library's text of nought; FormatFloat. -/
import Derived.Test.YtmhgacgneckboaaGreatDoorQi
namespace Go.Proofs.YtmhgacgneckboaaGreatDoor
open Go Go.RowKit Fta Go.Sort

set_option maxHeartbeats 4000000 in
set_option maxRecDepth 100000 in
theorem ftoa_low (w0 w : World) (v : Value) (neg : Bool) (E F n d : Nat) (x : Int) (hE : EnvF w) (hD : Dst w0 w v [] 0 []) (hx : (E : Int) + -1023 = x) (hx0 : x < 0) (hx1 : -13 ≤ x) (hF : F < 4503599627370496)
    (hn : 1 ≤ n) (hn18 : n ≤ 18) (hdig : 4 - -x * 78913 / 262144 = (n : Int)) (hd : d < 18446744073709551616)
    (HFx : ∀ W, Below w.heap.size w W → Calls Tryz.prog 96 #[.int .u64 (((4503599627370496 + F) * 2048 : Nat) : Int), .int .i64 (x - 11 - 52), .int .i64 n, .int .i64 3, .int .u8 102] W fun e' w' => e' = .returned (.tuple #[.int .u64 (d : Nat), .int .i64 (-3)]) ∧ Below W.heap.size W w') :
    Calls Tryz.prog 71 #[v, .float .f64 ((if neg then 9223372036854775808 else 0) + (E * 4503599627370496 + F)), .int .u8 102, .int .i64 3] w fun e w' => (∃ v', e = .returned v' ∧ w'.ownsRow w0.heap.size 5 1 v' (sgn neg ++ fix3 d).length (bc (sgn neg ++ fix3 d))) ∧ Below w0.heap.size w0 w' := by
  obtain ⟨b, hb⟩ : ∃ b, (if neg then 9223372036854775808 else 0) + (E * 4503599627370496 + F) = b := ⟨_, rfl⟩
  rw [hb]
  obtain ⟨hq, ⟨c, hc1, hc2, hc3⟩, hm⟩ := bits_parts neg E F b (by omega) hF hb
  have hfb := run_sbits b
  have hE0 : ((E : Int) == 0) = false := by rw [beq_eq_false_iff_ne]; omega
  have hE7 : ((E : Int) == 2047) = false := by rw [beq_eq_false_iff_ne]; omega
  obtain ⟨M, hM⟩ : ∃ M, 4503599627370496 + F = M := ⟨_, rfl⟩
  have hor : bits BinOp.or IntKind.u64 (F : Int) 4503599627370496 = (M : Int) := by
    have := u64_or_nat F 4503599627370496 (by omega) (by decide)
    have hj := nat_join 52 4503599627370496 F (by decide) hF
    rw [Nat.or_comm, hj, hM] at this
    exact this
  have hM1 : 4503599627370496 ≤ M := by omega
  have hM2 : M < 9007199254740992 := by omega
  have hM0 : ((M : Int) == 0) = false := by rw [beq_eq_false_iff_ne]; omega
  have HL := Lib.hid (fun W => log10_any (-x) W (by omega) (by omega))
  obtain ⟨q1, hq1⟩ : ∃ q1, -x * 78913 / 262144 = q1 := ⟨_, rfl⟩
  rw [hq1] at HL hdig
  have HLen : Hid (∀ W : World, Calls Tryz.prog 91 #[.int .u64 M] W fun e w' => e = .returned (.int .i64 53) ∧ w' = W) := fun W => by
    have := Tryz.bits_Len64 M W (by omega) (by omega)
    rw [Int.toNat_natCast, bitLen53 M hM1 hM2] at this
    exact this
  rw [hM] at HFx
  obtain ⟨X, hX⟩ : ∃ X, M * 2048 = X := ⟨_, rfl⟩
  rw [hX] at HFx
  have hshl : IntKind.u64.wrap ((M : Int) * 2048) = (X : Int) := by rw [IntKind.wrap_u64, ← hX]; omega
  have hXi : (M : Int) * 2048 = (X : Int) := by omega
  have HF := Lib.hid HFx
  have HE := Lib.hid hE
  have HD := Lib.hid hD
  have hn18i : (n : Int) ≤ 18 := by omega
  have hn0i : (0 : Int) < (n : Int) := by omega
  have hopt := hE.opt
  have HM := Lib.hid hM
  clear hE hD HFx hb hM hX hF
  cases neg with
  | false =>
    have hq : (b : Int) / 9223372036854775808 = 0 := hq
    go_enter Tryz.func71, Tryz.ntmps71
    go_wp2_with fail
    go_quiet (fail)
    have HB1 := Lib.hid (below_drews (w := w) nq)
    have HE1 := Lib.hid (HE.out.drewN nq)
    have hopt1 := HE1.out.opt
    generalize w.drewN nq = w1 at *
    go_wp2_with fail
    refine (HL.out _).mono ?_
    rintro e w2 ⟨rfl, rfl⟩
    go_wp2_with fail
    refine (HLen.out _).mono ?_
    rintro e w2 ⟨rfl, rfl⟩
    obtain ⟨q, hqq⟩ : ∃ q, w1.heap.size = q := ⟨_, rfl⟩
    obtain ⟨wo, hwo⟩ : ∃ wo, w1.alloc (.cells #[.int .u8 0, .int .u8 0, .int .u8 0, .int .u8 0, .int .u8 0, .int .u8 0, .int .u8 0, .int .u8 0, .int .u8 0, .int .u8 0, .int .u8 0, .int .u8 0, .int .u8 0, .int .u8 0, .int .u8 0, .int .u8 0, .int .u8 0, .int .u8 0, .int .u8 0, .int .u8 0, .int .u8 0, .int .u8 0, .int .u8 0, .int .u8 0] 113) = wo := ⟨_, rfl⟩
    have hbo : Below w1.heap.size w1 wo := by rw [← hwo]; exact (Below.refl _ _).alloc (Nat.le_refl _) _
    have hzo : ∀ j, j < 24 → wo.cell? ⟨q, j, none⟩ = some (.int .u8 0) ∧ wo.frozen? ⟨q, j, none⟩ = false := fun j hj => by
      rw [← hwo, ← hqq]
      refine ⟨?_, World.frozen?_alloc_new _ _ _ _⟩
      rw [World.cell?_alloc_at _ _ _ _ rfl]
      exact Lib.zeros24_at j hj
    have HZo := Lib.hid hzo
    have HBo := Lib.hid (below_step HB1.out hbo)
    have HWO := Lib.hid hwo
    have HQ : Hid (w.heap.size ≤ q) := by show _ ≤ _; rw [← hqq]; exact HB1.out.size
    have HQo : Hid (q < wo.heap.size) := by show _ < _; rw [← hqq, ← hwo]; simp
    have HQQ := Lib.hid hqq
    clear hzo hbo hwo hqq HB1 HE1 hopt1
    go_wp2_with fail
    rw [HWO.out, HQQ.out]
    refine (HF.out wo HBo.out).mono ?_
    rintro e w3 ⟨rfl, hb3⟩
    have HB3 := Lib.hid (below_step HBo.out hb3)
    have HQ2 : Hid (q < w3.heap.size) := Nat.lt_of_lt_of_le HQo.out hb3.size
    have HZ3 : Hid (∀ j, j < 24 → w3.cell? ⟨q, j, none⟩ = some (.int .u8 0) ∧ w3.frozen? ⟨q, j, none⟩ = false) := fun j hj =>
      ⟨(hb3.cell (p := ⟨q, j, none⟩) HQo.out).trans (HZo.out j hj).1, (hb3.frozen (p := ⟨q, j, none⟩) HQo.out).trans (HZo.out j hj).2⟩
    have HE3 := Lib.hid (HE.out.below HB3.out)
    clear HF hb3 HBo HZo HWO HQo
    by_cases hd0 : d = 0
    · have hdi : ((d : Int) != 0) = false := by rw [bne_eq_false_iff_eq]; omega
      have hdj : (d : Int) = 0 := by omega
      have HFin : Hid ([] ++ lowL [] 0 = sgn false ++ fix3 d) := by show _ = _; rw [hd0]; decide +kernel
      have HDD : Hid (Dst w0 w3 v [] q []) := ⟨own_below HD.out.own HB3.out, below_step0 HD.out.bel HB3.out HD.out.own, fun i hi => by simp at hi, fun h => absurd rfl h, fun h => absurd rfl h⟩
      have HC := Lib.hid (efg_lowP w0 w3 v [] [] q 24 false HDD.out (by simp) (by simp) (by omega) 0 0 (by decide) (by omega))
      clear HDD HZ3 HE3 HD hd0
      go_wp2_with fail

      refine HC.out.mono ?_
      rintro e w6 ⟨v6, rfl, hd6⟩
      have HR : Hid (w6.ownsRow w0.heap.size 5 1 v6 (sgn false ++ fix3 d).length (bc (sgn false ++ fix3 d))) := by
        show World.ownsRow _ _ _ _ _ _ _
        rw [← HFin.out]; exact hd6.own
      have HB6 := Lib.hid hd6.bel
      clear hd6 HC
      go_wp2_with fail
      go_ret
      exact ⟨⟨_, rfl, HR.out⟩, HB6.out⟩
    · have hdi : ((d : Int) != 0) = true := by rw [bne_iff_ne]; omega
      have hdj : ¬ (d : Int) = 0 := by omega
      have HNd := Lib.hid (Tryz.internal_strconv_numDigits d (by omega) hd w3.drew (HE3.out.drewN 1).env.tb)
      have HSd := Lib.hid (setDigits_any q d w3.drew HZ3.out hd)
      unfold DigEnd at HSd
      clear HZ3 HE3 hd0
      go_wp2_with fail
      go_region_with (first | (go_at_call 94; refine HNd.out.mono ?_; rintro e w4 ⟨rfl, rfl⟩) | (go_at_call 93; refine HSd.out.mono ?_; rintro e w5 ⟨k, hk, hz, -, rfl, hdg, hb5⟩))
      obtain ⟨ds, hds⟩ : ∃ ds, (Lib.decDigits d).take k = ds := ⟨_, rfl⟩
      have hdl : ds.length = k := by rw [← hds, List.length_take, Lib.decDigits_length]; omega
      have hDD : Dst w0 w5 v [] q ds := by
        refine ⟨own_belowB (own_below HD.out.own HB3.out).drew hb5 (fun g hg => Nat.lt_of_lt_of_le (HD.out.own.lt g hg).2 HQ.out), below_stepB HD.out.bel (HB3.out) hb5 HQ.out, fun i hi => ?_, fun _ e => ?_, fun _ => Nat.lt_of_lt_of_le HQ2.out hb5.size⟩
        · obtain ⟨c, a1, a2⟩ := hdg i (by rw [hdl] at hi; exact hi)
          have : ds[i]? = some c := by rw [← hds, List.getElem?_take, if_pos (by rw [hdl] at hi; exact hi)]; exact a1
          rw [List.getElem?_eq_getElem hi] at this
          injection this with this
          rw [this]; exact a2
        · have h1 := (HD.out.own.lt q e).2
          have h2 := HQ.out
          omega
      have HDD := Lib.hid hDD
      have HDS := Lib.hid hds
      have hkN := hk
      have HZ := Lib.hid hz
      have HN20 := Lib.nDigits_le20 d hd
      clear hDD hds hz hdg hb5 hk
      by_cases h3 : 3 < Lib.nDigits d
      · obtain ⟨P, hP⟩ : ∃ P, Lib.nDigits d = P + 3 := ⟨Lib.nDigits d - 3, by omega⟩
        have HFin : Hid ([] ++ upL ds P = sgn false ++ fix3 d) := by
          show _ = _
          rw [← HDS.out, upL_fix (Lib.decDigits_length d) hP (by rw [hP] at hkN ⊢; exact hkN) (by rw [hP]; rw [hP] at HZ; exact HZ.out)]
          unfold fix3 sgn
          rw [if_pos h3, hP, Nat.add_sub_cancel]; rfl
        have HC := Lib.hid (efg_upP w0 w5 v [] ds q 24 P false HDD.out (by simp) (by omega) (by omega) (by omega) (by omega))
        rw [hdl] at HC
        rw [hP]
        have hpi : (((P + 3 : Nat) : Int)) - 3 = (P : Int) := by omega
        have hpi2 : (P : Int) + 3 - 3 = (P : Int) := by omega
        clear HDD HDS HZ hkN hdl h3 hP
        go_wp2_with fail
        refine HC.out.mono ?_
        rintro e w6 ⟨v6, rfl, hd6⟩
        have HR : Hid (w6.ownsRow w0.heap.size 5 1 v6 (sgn false ++ fix3 d).length (bc (sgn false ++ fix3 d))) := by
          show World.ownsRow _ _ _ _ _ _ _
          rw [← HFin.out]; exact hd6.own
        have HB6 := Lib.hid hd6.bel
        clear hd6 HC
        go_wp2_with fail
        go_ret
        exact ⟨⟨_, rfl, HR.out⟩, HB6.out⟩
      · obtain ⟨Q, hQ⟩ : ∃ Q, Lib.nDigits d + Q = 3 := ⟨3 - Lib.nDigits d, by omega⟩
        have HFin : Hid ([] ++ lowL ds Q = sgn false ++ fix3 d) := by
          show _ = _
          rw [← HDS.out, lowL_fix (Lib.decDigits_length d) hQ hkN HZ.out]
          unfold fix3 sgn
          rw [if_neg h3, show 3 - Lib.nDigits d = Q by omega]; rfl
        have HC := Lib.hid (efg_lowP w0 w5 v [] ds q 24 false HDD.out (by simp) (by omega) (by omega) Q ((Lib.nDigits d : Nat) - 3) (by omega) (by omega))
        rw [hdl] at HC
        clear HDD HDS HZ hkN hdl h3 hQ
        go_wp2_with fail
        refine HC.out.mono ?_
        rintro e w6 ⟨v6, rfl, hd6⟩
        have HR : Hid (w6.ownsRow w0.heap.size 5 1 v6 (sgn false ++ fix3 d).length (bc (sgn false ++ fix3 d))) := by
          show World.ownsRow _ _ _ _ _ _ _
          rw [← HFin.out]; exact hd6.own
        have HB6 := Lib.hid hd6.bel
        clear hd6 HC
        go_wp2_with fail
        go_ret
        exact ⟨⟨_, rfl, HR.out⟩, HB6.out⟩
  | true =>
    have hq : (b : Int) / 9223372036854775808 = 1 := hq
    go_enter Tryz.func71, Tryz.ntmps71
    go_wp2_with fail
    go_quiet (fail)
    have HB1 := Lib.hid (below_drews (w := w) nq)
    have HE1 := Lib.hid (HE.out.drewN nq)
    have hopt1 := HE1.out.opt
    generalize w.drewN nq = w1 at *
    go_wp2_with fail
    refine (HL.out _).mono ?_
    rintro e w2 ⟨rfl, rfl⟩
    go_wp2_with fail
    refine (HLen.out _).mono ?_
    rintro e w2 ⟨rfl, rfl⟩
    obtain ⟨q, hqq⟩ : ∃ q, w1.heap.size = q := ⟨_, rfl⟩
    obtain ⟨wo, hwo⟩ : ∃ wo, w1.alloc (.cells #[.int .u8 0, .int .u8 0, .int .u8 0, .int .u8 0, .int .u8 0, .int .u8 0, .int .u8 0, .int .u8 0, .int .u8 0, .int .u8 0, .int .u8 0, .int .u8 0, .int .u8 0, .int .u8 0, .int .u8 0, .int .u8 0, .int .u8 0, .int .u8 0, .int .u8 0, .int .u8 0, .int .u8 0, .int .u8 0, .int .u8 0, .int .u8 0] 113) = wo := ⟨_, rfl⟩
    have hbo : Below w1.heap.size w1 wo := by rw [← hwo]; exact (Below.refl _ _).alloc (Nat.le_refl _) _
    have hzo : ∀ j, j < 24 → wo.cell? ⟨q, j, none⟩ = some (.int .u8 0) ∧ wo.frozen? ⟨q, j, none⟩ = false := fun j hj => by
      rw [← hwo, ← hqq]
      refine ⟨?_, World.frozen?_alloc_new _ _ _ _⟩
      rw [World.cell?_alloc_at _ _ _ _ rfl]
      exact Lib.zeros24_at j hj
    have HZo := Lib.hid hzo
    have HBo := Lib.hid (below_step HB1.out hbo)
    have HWO := Lib.hid hwo
    have HQ : Hid (w.heap.size ≤ q) := by show _ ≤ _; rw [← hqq]; exact HB1.out.size
    have HQo : Hid (q < wo.heap.size) := by show _ < _; rw [← hqq, ← hwo]; simp
    have HQQ := Lib.hid hqq
    clear hzo hbo hwo hqq HB1 HE1 hopt1
    go_wp2_with fail
    rw [HWO.out, HQQ.out]
    refine (HF.out wo HBo.out).mono ?_
    rintro e w3 ⟨rfl, hb3⟩
    have HB3 := Lib.hid (below_step HBo.out hb3)
    have HQ2 : Hid (q < w3.heap.size) := Nat.lt_of_lt_of_le HQo.out hb3.size
    have HZ3 : Hid (∀ j, j < 24 → w3.cell? ⟨q, j, none⟩ = some (.int .u8 0) ∧ w3.frozen? ⟨q, j, none⟩ = false) := fun j hj =>
      ⟨(hb3.cell (p := ⟨q, j, none⟩) HQo.out).trans (HZo.out j hj).1, (hb3.frozen (p := ⟨q, j, none⟩) HQo.out).trans (HZo.out j hj).2⟩
    have HE3 := Lib.hid (HE.out.below HB3.out)
    clear HF hb3 HBo HZo HWO HQo
    by_cases hd0 : d = 0
    · have hdi : ((d : Int) != 0) = false := by rw [bne_eq_false_iff_eq]; omega
      have hdj : (d : Int) = 0 := by omega
      have HFin : Hid ([] ++ [45] ++ lowL [] 0 = sgn true ++ fix3 d) := by show _ = _; rw [hd0]; decide +kernel
      have HDD : Hid (Dst w0 w3 v [] q []) := ⟨own_below HD.out.own HB3.out, below_step0 HD.out.bel HB3.out HD.out.own, fun i hi => by simp at hi, fun h => absurd rfl h, fun h => absurd rfl h⟩
      have HC := Lib.hid (efg_lowN w0 w3 v [] [] q 24 false HDD.out (by simp) (by simp) (by omega) 0 0 (by decide) (by omega))
      clear HDD HZ3 HE3 HD hd0
      go_wp2_with fail

      refine HC.out.mono ?_
      rintro e w6 ⟨v6, rfl, hd6⟩
      have HR : Hid (w6.ownsRow w0.heap.size 5 1 v6 (sgn true ++ fix3 d).length (bc (sgn true ++ fix3 d))) := by
        show World.ownsRow _ _ _ _ _ _ _
        rw [← HFin.out]; exact hd6.own
      have HB6 := Lib.hid hd6.bel
      clear hd6 HC
      go_wp2_with fail
      go_ret
      exact ⟨⟨_, rfl, HR.out⟩, HB6.out⟩
    · have hdi : ((d : Int) != 0) = true := by rw [bne_iff_ne]; omega
      have hdj : ¬ (d : Int) = 0 := by omega
      have HNd := Lib.hid (Tryz.internal_strconv_numDigits d (by omega) hd w3.drew (HE3.out.drewN 1).env.tb)
      have HSd := Lib.hid (setDigits_any q d w3.drew HZ3.out hd)
      unfold DigEnd at HSd
      clear HZ3 HE3 hd0
      go_wp2_with fail
      go_region_with (first | (go_at_call 94; refine HNd.out.mono ?_; rintro e w4 ⟨rfl, rfl⟩) | (go_at_call 93; refine HSd.out.mono ?_; rintro e w5 ⟨k, hk, hz, -, rfl, hdg, hb5⟩))
      obtain ⟨ds, hds⟩ : ∃ ds, (Lib.decDigits d).take k = ds := ⟨_, rfl⟩
      have hdl : ds.length = k := by rw [← hds, List.length_take, Lib.decDigits_length]; omega
      have hDD : Dst w0 w5 v [] q ds := by
        refine ⟨own_belowB (own_below HD.out.own HB3.out).drew hb5 (fun g hg => Nat.lt_of_lt_of_le (HD.out.own.lt g hg).2 HQ.out), below_stepB HD.out.bel (HB3.out) hb5 HQ.out, fun i hi => ?_, fun _ e => ?_, fun _ => Nat.lt_of_lt_of_le HQ2.out hb5.size⟩
        · obtain ⟨c, a1, a2⟩ := hdg i (by rw [hdl] at hi; exact hi)
          have : ds[i]? = some c := by rw [← hds, List.getElem?_take, if_pos (by rw [hdl] at hi; exact hi)]; exact a1
          rw [List.getElem?_eq_getElem hi] at this
          injection this with this
          rw [this]; exact a2
        · have h1 := (HD.out.own.lt q e).2
          have h2 := HQ.out
          omega
      have HDD := Lib.hid hDD
      have HDS := Lib.hid hds
      have hkN := hk
      have HZ := Lib.hid hz
      have HN20 := Lib.nDigits_le20 d hd
      clear hDD hds hz hdg hb5 hk
      by_cases h3 : 3 < Lib.nDigits d
      · obtain ⟨P, hP⟩ : ∃ P, Lib.nDigits d = P + 3 := ⟨Lib.nDigits d - 3, by omega⟩
        have HFin : Hid ([] ++ [45] ++ upL ds P = sgn true ++ fix3 d) := by
          show _ = _
          rw [← HDS.out, upL_fix (Lib.decDigits_length d) hP (by rw [hP] at hkN ⊢; exact hkN) (by rw [hP]; rw [hP] at HZ; exact HZ.out)]
          unfold fix3 sgn
          rw [if_pos h3, hP, Nat.add_sub_cancel]; rfl
        have HC := Lib.hid (efg_upN w0 w5 v [] ds q 24 P false HDD.out (by simp) (by omega) (by omega) (by omega) (by omega))
        rw [hdl] at HC
        rw [hP]
        have hpi : (((P + 3 : Nat) : Int)) - 3 = (P : Int) := by omega
        have hpi2 : (P : Int) + 3 - 3 = (P : Int) := by omega
        clear HDD HDS HZ hkN hdl h3 hP
        go_wp2_with fail
        refine HC.out.mono ?_
        rintro e w6 ⟨v6, rfl, hd6⟩
        have HR : Hid (w6.ownsRow w0.heap.size 5 1 v6 (sgn true ++ fix3 d).length (bc (sgn true ++ fix3 d))) := by
          show World.ownsRow _ _ _ _ _ _ _
          rw [← HFin.out]; exact hd6.own
        have HB6 := Lib.hid hd6.bel
        clear hd6 HC
        go_wp2_with fail
        go_ret
        exact ⟨⟨_, rfl, HR.out⟩, HB6.out⟩
      · obtain ⟨Q, hQ⟩ : ∃ Q, Lib.nDigits d + Q = 3 := ⟨3 - Lib.nDigits d, by omega⟩
        have HFin : Hid ([] ++ [45] ++ lowL ds Q = sgn true ++ fix3 d) := by
          show _ = _
          rw [← HDS.out, lowL_fix (Lib.decDigits_length d) hQ hkN HZ.out]
          unfold fix3 sgn
          rw [if_neg h3, show 3 - Lib.nDigits d = Q by omega]; rfl
        have HC := Lib.hid (efg_lowN w0 w5 v [] ds q 24 false HDD.out (by simp) (by omega) (by omega) Q ((Lib.nDigits d : Nat) - 3) (by omega) (by omega))
        rw [hdl] at HC
        clear HDD HDS HZ hkN hdl h3 hQ
        go_wp2_with fail
        refine HC.out.mono ?_
        rintro e w6 ⟨v6, rfl, hd6⟩
        have HR : Hid (w6.ownsRow w0.heap.size 5 1 v6 (sgn true ++ fix3 d).length (bc (sgn true ++ fix3 d))) := by
          show World.ownsRow _ _ _ _ _ _ _
          rw [← HFin.out]; exact hd6.own
        have HB6 := Lib.hid hd6.bel
        clear hd6 HC
        go_wp2_with fail
        go_ret
        exact ⟨⟨_, rfl, HR.out⟩, HB6.out⟩
end Go.Proofs.YtmhgacgneckboaaGreatDoor

namespace Go.Proofs.YtmhgacgneckboaaGreatDoor
open Go Go.RowKit Fta Go.Sort

set_option maxHeartbeats 4000000 in
set_option maxRecDepth 100000 in
theorem ftoa_zeroP (w0 w : World) (v : Value) (hD : Dst w0 w v [] 0 []) :
    Calls Tryz.prog 71 #[v, .float .f64 0, .int .u8 102, .int .i64 3] w fun e w' => (∃ v', e = .returned v' ∧ w'.ownsRow w0.heap.size 5 1 v' (sgn false ++ fix3 0).length (bc (sgn false ++ fix3 0))) ∧ Below w0.heap.size w0 w' := by
  have hfb := run_sbits 0
  have HD := Lib.hid hD
  have HC := Lib.hid (fun w1 (h : Dst w0 w1 v [] 0 []) => efg_zeroP w0 w1 v [] 0 false h (by simp))
  have HFin : Hid ([] ++ [48, 46, 48, 48, 48] = sgn false ++ fix3 0) := by show _ = _; decide +kernel
  have b1 : bits BinOp.and IntKind.i64 0 2047 = 0 := by decide
  have b2 : bits BinOp.and IntKind.u64 0 4503599627370495 = 0 := by decide
  have b3 : bits BinOp.and IntKind.i64 2048 2047 = 0 := by decide
  have b4 : bits BinOp.and IntKind.u64 9223372036854775808 4503599627370495 = 0 := by decide
  clear hD
  go_enter Tryz.func71, Tryz.ntmps71
  go_wp2_with fail
  go_quiet (fail)
  have HD1 : Hid (Dst w0 (w.drewN nq) v [] 0 []) := ⟨own_below HD.out.own (below_drews nq), below_step HD.out.bel (below_drews nq), fun i hi => by simp at hi, fun h => absurd rfl h, fun h => absurd rfl h⟩
  generalize w.drewN nq = w1 at *
  go_wp2_with fail
  refine (HC.out w1 HD1.out).mono ?_
  rintro e w6 ⟨v6, rfl, hd6⟩
  have HR : Hid (w6.ownsRow w0.heap.size 5 1 v6 (sgn false ++ fix3 0).length (bc (sgn false ++ fix3 0))) := by
    show World.ownsRow _ _ _ _ _ _ _
    rw [← HFin.out]; exact hd6.own
  have HB6 := Lib.hid hd6.bel
  clear hd6 HC HD1 HD
  go_wp2_with fail
  go_ret
  exact ⟨⟨_, rfl, HR.out⟩, HB6.out⟩

set_option maxHeartbeats 4000000 in
set_option maxRecDepth 100000 in
theorem ftoa_zeroN (w0 w : World) (v : Value) (hD : Dst w0 w v [] 0 []) :
    Calls Tryz.prog 71 #[v, .float .f64 9223372036854775808, .int .u8 102, .int .i64 3] w fun e w' => (∃ v', e = .returned v' ∧ w'.ownsRow w0.heap.size 5 1 v' (sgn true ++ fix3 0).length (bc (sgn true ++ fix3 0))) ∧ Below w0.heap.size w0 w' := by
  have hfb := run_sbits 9223372036854775808
  have HD := Lib.hid hD
  have HC := Lib.hid (fun w1 (h : Dst w0 w1 v [] 0 []) => efg_zeroN w0 w1 v [] 0 false h (by simp))
  have HFin : Hid ([] ++ [45] ++ [48, 46, 48, 48, 48] = sgn true ++ fix3 0) := by show _ = _; decide +kernel
  have b1 : bits BinOp.and IntKind.i64 0 2047 = 0 := by decide
  have b2 : bits BinOp.and IntKind.u64 0 4503599627370495 = 0 := by decide
  have b3 : bits BinOp.and IntKind.i64 2048 2047 = 0 := by decide
  have b4 : bits BinOp.and IntKind.u64 9223372036854775808 4503599627370495 = 0 := by decide
  clear hD
  go_enter Tryz.func71, Tryz.ntmps71
  go_wp2_with fail
  go_quiet (fail)
  have HD1 : Hid (Dst w0 (w.drewN nq) v [] 0 []) := ⟨own_below HD.out.own (below_drews nq), below_step HD.out.bel (below_drews nq), fun i hi => by simp at hi, fun h => absurd rfl h, fun h => absurd rfl h⟩
  generalize w.drewN nq = w1 at *
  go_wp2_with fail
  refine (HC.out w1 HD1.out).mono ?_
  rintro e w6 ⟨v6, rfl, hd6⟩
  have HR : Hid (w6.ownsRow w0.heap.size 5 1 v6 (sgn true ++ fix3 0).length (bc (sgn true ++ fix3 0))) := by
    show World.ownsRow _ _ _ _ _ _ _
    rw [← HFin.out]; exact hd6.own
  have HB6 := Lib.hid hd6.bel
  clear hd6 HC HD1 HD
  go_wp2_with fail
  go_ret
  exact ⟨⟨_, rfl, HR.out⟩, HB6.out⟩

/-- What is asked of the inner function. -/
def FtoaGood (bits d : Nat) (neg : Bool) (w : World) : Prop := ∀ (w0 w1 : World) (v : Value), Below w.heap.size w w1 → Dst w0 w1 v [] 0 [] → Calls Tryz.prog 71 #[v, .float .f64 bits, .int .u8 102, .int .i64 3] w1 fun e w' => (∃ v', e = .returned v' ∧ w'.ownsRow w0.heap.size 5 1 v' (sgn neg ++ fix3 d).length (bc (sgn neg ++ fix3 d))) ∧ Below w0.heap.size w0 w'
/-- The text that a call's own bytes give. -/
theorem conv_own {w : World} {base : Nat} {v : Value} {l : List UInt8} (h : w.ownsRow base 5 1 v l.length (bc l)) (hl : 0 < l.length) : (convert 70 9 v).run Tryz.prog w = .ok (.string ⟨l.toArray⟩) w := by
  rcases h.2 with ⟨-, h0⟩ | ⟨g, cap, cur, hv, -⟩
  · omega
  · subst hv
    refine run_convert_bytes_back w 70 9 5 _ cap l Tryz.underlying70 Tryz.underlying5 Tryz.underlying9 fun j hj => ?_
    refine h.cells rfl j _ ?_
    unfold bc
    rw [List.getElem?_map, List.getElem?_eq_getElem hj]; rfl
theorem fix3_pos (neg : Bool) (d : Nat) : 0 < (sgn neg ++ fix3 d).length := by
  rw [List.length_append]
  unfold fix3
  split <;> simp <;> omega
set_option maxHeartbeats 1000000 in
set_option maxRecDepth 100000 in
theorem format_any (bits d : Nat) (neg : Bool) (w : World) (hG : FtoaGood bits d neg w) :
    Calls Tryz.prog 51 #[.float .f64 bits, .int .u8 102, .int .i64 3, .int .i64 64] w fun e w' => e = .returned (.string ⟨(sgn neg ++ fix3 d).toArray⟩) ∧ Below w.heap.size w w' := by
  obtain ⟨wo, hwo⟩ : ∃ wo, w.alloc (.cells (Array.replicate 24 (.int .u8 0)) 5) = wo := ⟨_, rfl⟩
  have hbo : Below w.heap.size w wo := by rw [← hwo]; exact (Below.refl _ _).alloc (Nat.le_refl _) _
  have hD : Dst w wo (.slice (some ⟨w.heap.size, 0, none⟩) 0 24) [] 0 [] :=
    ⟨by rw [← hwo]; exact World.ownsRow_made w _ 24 (Nat.le_refl _) (by unfold maxLen; omega) (by simp), hbo, fun i hi => by simp at hi, fun h => absurd rfl h, fun h => absurd rfl h⟩
  have HC := Lib.hid (hG w wo _ hbo hD)
  have i1 : max (7 : Int) 24 = 24 := by decide
  have hmk : (Instr.makeSlice 70 (.int .i64 0) (.int .i64 24)).run Tryz.prog w = .ok (.slice (some ⟨w.heap.size, 0, none⟩) 0 24) wo := by rw [← hwo]; kernel_rfl
  have HP := Lib.hid (fix3_pos neg d)
  generalize sgn neg ++ fix3 d = L at *
  clear hG hD hwo hbo
  go_enter Tryz.func51, Tryz.ntmps51
  go_wp2_with fail
  refine HC.out.mono ?_
  rintro e w2 ⟨⟨v2, rfl, hown⟩, hb2⟩
  have hcv := conv_own hown HP.out
  go_wp2_with fail
  go_ret
  exact ⟨rfl, hb2⟩
theorem format_str (bits d : Nat) (neg : Bool) (w : World) (hG : FtoaGood bits d neg w) :
    Calls Tryz.prog 36 #[.float .f64 bits, .int .u8 102, .int .i64 3, .int .i64 64] w fun e w' => e = .returned (.string ⟨(sgn neg ++ fix3 d).toArray⟩) ∧ Below w.heap.size w w' := by
  have HC := Lib.hid (format_any bits d neg w hG)
  generalize sgn neg ++ fix3 d = L at *
  clear hG
  go_enter Tryz.func36, Tryz.ntmps36
  go_wp2_with fail
  refine HC.out.mono ?_
  rintro e w2 ⟨rfl, hb2⟩
  go_wp2_with fail
  go_ret
  exact ⟨rfl, hb2⟩
end Go.Proofs.YtmhgacgneckboaaGreatDoor
