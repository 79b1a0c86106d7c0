/- A walk: SchemaWord. -/
import Derived.Test.YtlldjkhlhfnfeaaGreatDoorGn
import Derived.Test.YtlldjkhlhfnfeaaGreatDoorGs
namespace Sch
open Go Go.Lib Adr Mtr Tre
theorem word_items {F G M Lf : List Fault} {s : ByteArray} (hM : F ++ (([s], 3) :: G) = M) (hL : F ++ G = Lf) (hne : ∀ f ∈ F ++ G, f.1 ≠ [s]) (k : Nat) (h : k < M.length) :
    (k = F.length → M[k] = ([s], 3)) ∧ (∀ j, (hj : j < Lf.length) → (k < F.length ∧ j = k ∨ F.length < k ∧ j + 1 = k) → M[k] = Lf[j] ∧ M[k].1 ≠ [s]) := by
  subst hM hL
  refine ⟨fun e => ?_, fun j hj hc => ?_⟩
  · subst e
    rw [List.getElem_append_right (Nat.le_refl _)]; simp
  · have e : (F ++ (([s], 3) :: G))[k] = (F ++ G)[j] := by
      rcases hc with ⟨h1, rfl⟩ | ⟨h1, h2⟩
      · rw [List.getElem_append_left h1, List.getElem_append_left h1]
      · rw [List.getElem_append_right (by omega), List.getElem_append_right (by omega)]
        obtain ⟨d, hd⟩ : ∃ d, k - F.length = d + 1 := ⟨k - F.length - 1, by omega⟩
        simp only [hd, List.getElem_cons_succ]
        congr 1; omega
    exact ⟨e, by rw [e]; exact hne _ (List.getElem_mem hj)⟩
end Sch
namespace Go.Proofs.YtlldjkhlhfnfeaaGreatDoor
open Go Go.RowKit Go.Sort Sch Adr Mtr Tre

theorem flt_w {w : World} {base : Nat} {T : TypeId} {v : Value} {F : List Fault} (h : Pl w base T 2 v (F.map fitem)) : ∃ A c, v = .slice A F.length c ∧ F.length ≤ c ∧ c ≤ maxLen ∧ Pd w 2 A (F.map fitem) ∧ (A = none → c = 0) := by
  obtain ⟨A, c, e, h1, h2, h3, h4⟩ := h.read
  rw [List.length_map] at e h1
  exact ⟨A, c, e, h1, h2, h3, h4⟩
set_option maxHeartbeats 8000000 in
set_option maxRecDepth 100000 in
theorem schemaWord_any (A : Option Addr) (cap : Nat) (L : List Line) (s : ByteArray) (w : World) (hE : Env w) (hR : Rd w 3 A L.length (lines L)) (hcap : L.length ≤ cap) (hc : cap ≤ maxLen) (hnil : A = none → cap = 0) (_hsm : s.size ≤ maxLen) :
    Calls Tryz.prog 3 #[.slice A L.length cap, .string s] w fun e w' => e = .returned (.bool true) ∧ Below w.heap.size w w' := by
  have HA := Lib.hid (fun W (hb : Below w.heap.size w W) => awake13_any W (hE.below hb))
  have HFew := Lib.hid (few13_any A cap L w hR hcap hc)
  have HRi := Lib.hid (fun W (hb : Below w.heap.size w W) => refRight_lines A cap L W (hR.below hb) hcap hc)
  rw [right_ref] at HRi
  cases hf : fewB L with
  | false =>
    rw [hf] at HFew
    clear hf HRi hR
    go_enter Tryz.func3, Tryz.ntmps3
    go_wp2_with fail
    refine HFew.out.mono ?_
    rintro e w1 ⟨rfl, hb1⟩
    go_wp2_with fail
    refine (HA.out _ hb1).mono ?_
    rintro e w2 ⟨rfl, hb2⟩
    go_wp2_with fail
    go_ret
    exact ⟨rfl, below_step hb1 hb2⟩
  | true =>
    rw [hf] at HFew
    cases hr : rightB L with
    | false =>
      rw [hr] at HRi
      clear hf hr hR
      go_enter Tryz.func3, Tryz.ntmps3
      go_wp2_with fail
      refine HFew.out.mono ?_
      rintro e w1 ⟨rfl, hb1⟩
      have HB1 := Lib.hid hb1
      go_wp2_with fail
      refine (HRi.out w1 HB1.out).mono ?_
      rintro e w2 ⟨rfl, hb2⟩
      have HB2 := Lib.hid (below_step HB1.out hb2)
      go_wp2_with fail
      refine (HA.out _ HB2.out).mono ?_
      rintro e w3 ⟨rfl, hb3⟩
      go_wp2_with fail
      go_ret
      exact ⟨rfl, below_step HB2.out hb3⟩
    | true =>
      rw [hr] at HRi
      have hln := few_len hf
      have HSec := Lib.hid (second_any s)
      by_cases hs : s.size ≤ 40
      · have hsd : decide ((40 : Int) < (s.size : Int)) = false := decide_eq_false (by omega)
        have h1 := emp_iff (secondB s)
        have h2 := emp_list (secondB s)
        by_cases he : secondB s = ⟨#[]⟩
        · have e1 : (secondB s).toList.isEmpty = true := by rw [h1, decide_eq_true he]
          have e2 : (secondB s).toList = [] := h2.2 he
          have HFd := Lib.hid (fun q W (hb : Below w.heap.size w W) (hl : Rd W 1 (some ⟨q, 0, none⟩) 1 (sv [s])) => (show Calls Tryz.prog 17 #[.slice A L.length cap, .slice (some ⟨q, 0, none⟩) 1 1] W fun e w' => e = .returned (.int .i64 (refFind L [s])) ∧ Below W.heap.size W w' from refFind_lines A cap L (some ⟨q, 0, none⟩) 1 [s] W (hR.below hb) hcap hc (by omega) hl (by unfold maxLen; simp)))
          rw [refFind_eq hr [s]] at HFd
          by_cases hn : [s] ∈ paths L
          · obtain ⟨k, hk⟩ := Option.isSome_iff_exists.1 ((find_mem hr).2 hn)
            rw [hk] at HFd
            have hk0 : (0 : Int) ≤ (k : Int) := by omega
            generalize secondB s = s2 at *
            clear hf hr hR hE h1 h2 he hn hk
            go_enter Tryz.func3, Tryz.ntmps3
            go_wp2_with fail
            refine HFew.out.mono ?_
            rintro e w1 ⟨rfl, hb1⟩
            have HB1 := Lib.hid hb1
            clear hb1 HFew
            go_wp2_with fail
            refine (HRi.out w1 HB1.out).mono ?_
            rintro e w2 ⟨rfl, hb2⟩
            have HB2 := Lib.hid (below_step HB1.out hb2)
            clear hb2 HRi HB1

            go_wp2_with fail
            refine (HSec.out w2).mono ?_
            rintro e w3 ⟨rfl, hb3⟩
            have HB3 := Lib.hid (below_step HB2.out hb3)
            clear hb3 HB2 HSec

            obtain ⟨wo, hwo⟩ : ∃ wo, w3.alloc (.cells #[.string s] 9) = wo := ⟨_, rfl⟩
            have hbo : Below w3.heap.size w3 wo := by rw [← hwo]; exact (Below.refl _ _).alloc (Nat.le_refl _) _
            have HBo := Lib.hid (below_step HB3.out hbo)
            have hlit : Rd wo 1 (some ⟨w3.heap.size, 0, none⟩) 1 (sv [s]) := by rw [← hwo]; exact rd_lit w3 [s] _
            have HFx := Lib.hid (HFd.out _ wo HBo.out hlit)
            have HWO := Lib.hid hwo
            clear hbo hlit hwo HFd
            go_wp2_with fail
            rw [HWO.out]
            refine HFx.out.mono ?_
            rintro e w4 ⟨rfl, hb4⟩
            have HB4 := Lib.hid (below_step HBo.out hb4)
            clear HFx HWO HBo HB3 hb4
            go_wp2_with fail

            refine (HA.out _ HB4.out).mono ?_
            rintro e w9 ⟨rfl, hb9⟩
            go_wp2_with fail
            go_ret
            exact ⟨rfl, below_step HB4.out hb9⟩
          · have hk : findB L [s] = none := by
              cases h : findB L [s] with
              | none => rfl
              | some k => exact absurd ((find_mem hr).1 (by rw [h]; rfl)) hn
            rw [hk] at HFd
            obtain ⟨F, G, hF, hG, hne⟩ := word_check hr hn hln hs he
            obtain ⟨hwr, -⟩ := word_right hr hn hln hs
            have HPut := Lib.hid (fun W (hb : Below w.heap.size w W) => put_any A cap L s W (hR.below hb) hcap hc hnil hr)
            have HCk := Lib.hid (fun W (hb : Below w.heap.size w W) => check_yes A cap L W (hE.below hb) (hR.below hb) hcap hc hr)
            have HCz := Lib.hid (fun A2 c2 W (hb : Below w.heap.size w W) (hR2 : Rd W 3 A2 (wordL L s).length (lines (wordL L s))) (h1 : (wordL L s).length ≤ c2) (h2 : c2 ≤ maxLen) => check_yes A2 c2 (wordL L s) W (hE.below hb) hR2 h1 h2 hwr)
            have hsh := check_short hwr
            have hfw := check_few (right_len hwr)
            have hfl := check_few (right_len hr)
            rw [hF] at HCk hfl
            rw [hG] at HCz hsh hfw
            obtain ⟨M, hM⟩ : ∃ M, F ++ (([s], 3) :: G) = M := ⟨_, rfl⟩
            obtain ⟨Lf, hL⟩ : ∃ Lf, F ++ G = Lf := ⟨_, rfl⟩
            have hlen : M.length = Lf.length + 1 := by rw [← hM, ← hL, List.length_append, List.length_cons, List.length_append]; omega
            have HFM : Hid (F.length < M.length) := by show _ < _; rw [← hM, List.length_append, List.length_cons]; omega
            have HML : Hid (((M.length : Int) != (Lf.length : Int) + 1) = false ∧ ((M.length : Int) == (Lf.length : Int) + 1) = true) := by
              refine ⟨?_, ?_⟩
              · rw [bne_eq_false_iff_eq]; omega
              · rw [beq_iff_eq]; omega
            have HMK : Hid (∀ k, (h : k < M.length) → (k = F.length → M[k] = ([s], 3)) ∧ (∀ j, (hj : j < Lf.length) → (k < F.length ∧ j = k ∨ F.length < k ∧ j + 1 = k) → M[k] = Lf[j] ∧ M[k].1 ≠ [s])) := fun k h => word_items hM hL hne k h
            rw [hM] at HCz hsh hfw
            rw [hL] at HCk hfl hne
            have HSH : Hid (∀ k, (h : k < M.length) → M[k].1.length ≤ 1000) := fun k h => hsh _ (List.getElem_mem h)
            generalize secondB s = s2 at *
            generalize wordL L s = Z at *
            clear hf hr hR hE h1 h2 he hn hk hF hG hne hwr hsh hM hL hlen hnil
            go_enter Tryz.func3, Tryz.ntmps3
            go_wp2_with fail
            refine HFew.out.mono ?_
            rintro e w1 ⟨rfl, hb1⟩
            have HB1 := Lib.hid hb1
            clear hb1 HFew
            go_wp2_with fail
            refine (HRi.out w1 HB1.out).mono ?_
            rintro e w2 ⟨rfl, hb2⟩
            have HB2 := Lib.hid (below_step HB1.out hb2)
            clear hb2 HRi HB1

            go_wp2_with fail
            refine (HSec.out w2).mono ?_
            rintro e w3 ⟨rfl, hb3⟩
            have HB3 := Lib.hid (below_step HB2.out hb3)
            clear hb3 HB2 HSec

            obtain ⟨wo, hwo⟩ : ∃ wo, w3.alloc (.cells #[.string s] 9) = wo := ⟨_, rfl⟩
            have hbo : Below w3.heap.size w3 wo := by rw [← hwo]; exact (Below.refl _ _).alloc (Nat.le_refl _) _
            have HBo := Lib.hid (below_step HB3.out hbo)
            have hlit : Rd wo 1 (some ⟨w3.heap.size, 0, none⟩) 1 (sv [s]) := by rw [← hwo]; exact rd_lit w3 [s] _
            have HFx := Lib.hid (HFd.out _ wo HBo.out hlit)
            have HWO := Lib.hid hwo
            clear hbo hlit hwo HFd
            go_wp2_with fail
            rw [HWO.out]
            refine HFx.out.mono ?_
            rintro e w4 ⟨rfl, hb4⟩
            have HB4 := Lib.hid (below_step HBo.out hb4)
            clear HFx HWO HBo HB3 hb4

            go_wp2_with fail
            refine (HPut.out w4 HB4.out).mono ?_
            rintro e w5 ⟨⟨Az, cz, rfl, hz1', hz2', hRz⟩, hb5⟩
            have HB5 := Lib.hid (below_step HB4.out hb5)
            have HRz := Lib.hid hRz
            clear HPut hb5 hRz HB4
            go_wp2_with fail
            refine (HCk.out w5 HB5.out).mono ?_
            rintro e w6 ⟨⟨va, rfl, hva⟩, hb6⟩
            have HB6 := Lib.hid (below_step HB5.out hb6)
            have HC7 := Lib.hid (HCz.out Az cz w6 HB6.out (HRz.out.below hb6) hz1' hz2')
            obtain ⟨Aa, ca, rfl, ha1, ha2, hpa, -⟩ := flt_w hva
            have HPa := Lib.hid hpa
            clear HCk HCz hb6 hva hpa HB5 HRz
            go_wp2_with fail
            refine HC7.out.mono ?_
            rintro e w7 ⟨⟨vb, rfl, hvb⟩, hb7⟩
            have HB7 := Lib.hid (below_step HB6.out hb7)
            obtain ⟨Ab, cb, rfl, hb1', hb2', hpb, -⟩ := flt_w hvb
            have HPb := Lib.hid hpb
            have HPl := Lib.hid (HPa.out.below hb7)
            clear HC7 hb7 hvb hpb HB6 HPa
            have hml1 : ((M.length : Int) != (Lf.length : Int) + 1) = false := HML.out.1
            have hml2 : ((M.length : Int) == (Lf.length : Int) + 1) = true := HML.out.2
            go_wp2_with fail
            clear hml1 hml2
            go_loopw [10, 68] (fun va vi wr => ∃ j k : Nat, k ≤ M.length ∧ va = .int .i64 j ∧ vi = .int .i64 k ∧ Hid (k ≤ F.length ∧ j = k ∨ F.length < k ∧ j + 1 = k) ∧ Hid (Below w7.heap.size w7 wr)) (fun _ vi _ => M.length - (intOf vi).toNat)
            case atStart => exact ⟨0, 0, Nat.zero_le _, rfl, rfl, .inl ⟨Nat.zero_le _, rfl⟩, Below.refl _ _⟩
            case round =>
              obtain ⟨j, k, hk, rfl, rfl, HJ, HB⟩ := hrel
              by_cases hlt : k < M.length
              · obtain ⟨B, O, b, cc, rfl, hab, hadd, hpv, x0, x1⟩ := (HPb.out.below HB.out).fault hlt
                have hmk := HMK.out k hlt
                have HMt := Lib.hid hmk.1
                have HMe := Lib.hid hmk.2
                obtain ⟨hrd, hcc1, hcc2, hp0, hbb⟩ := hpv.rd
                obtain ⟨B5, O5, e5, -, -, z5⟩ := hrd.strAt hp0
                injection e5 with e5
                injection e5 with e5 e6
                subst e5 e6
                rw [Nat.zero_add] at z5
                have HPS := Lib.hid (HSH.out k hlt)
                generalize M[k] = m at *
                obtain ⟨P, u⟩ := m
                obtain ⟨q, hq⟩ : ∃ q, wr.heap.size = q := ⟨_, rfl⟩
                obtain ⟨wo, hwo⟩ : ∃ wo, wr.alloc (.cells #[.slice (some ⟨b, 0, none⟩) P.length cc, .int .i64 u] 34) = wo := ⟨_, rfl⟩
                have hbo : Below wr.heap.size wr wo := by rw [← hwo]; exact (Below.refl _ _).alloc (Nat.le_refl _) _
                have y0 : wo.cell? ⟨q, 0, none⟩ = some (.slice (some ⟨b, 0, none⟩) P.length cc) := by rw [← hwo, World.cell?_alloc_at _ _ _ _ hq.symm]; rfl
                have y1 : wo.cell? ⟨q, 1, none⟩ = some (.int .i64 u) := by rw [← hwo, World.cell?_alloc_at _ _ _ _ hq.symm]; rfl
                have z0 : wo.cell? ⟨b, 0, none⟩ = some (.string P[0]) := (hbo.cell (Lib.lt_of_cell z5)).trans z5
                have HBo := Lib.hid (below_step HB.out hbo)
                have HPv := Lib.hid (hpv.below hbo)
                clear HB hbo hpv hrd z5 hmk
                by_cases hkf : k = F.length
                · have hv := HMt.out hkf
                  have hP1 : P = [s] := congrArg Prod.fst hv
                  have hu1 : u = 3 := congrArg Prod.snd hv
                  subst hP1 hu1
                  have hjk : j = k := by
                    rcases HJ.out with h | h
                    · exact h.2
                    · omega
                  have HK : Hid (F.length < k + 1 ∧ j + 1 = k + 1) := ⟨by omega, by omega⟩
                  simp only [List.getElem_cons_zero] at z0
                  simp only [List.length_singleton] at hwo y0
                  clear HMt HMe HPS HJ hv hkf hjk
                  go_wp2_with fail
                  go_roundw
                  case rel => exact ⟨j, k + 1, by omega, rfl, by go_num, .inr HK.out, HBo⟩
                  case measure => simp [intOf]; omega
                · have hj : j < Lf.length := by
                    have h1 := HML.out.2
                    have h2 := HFM.out
                    rw [beq_iff_eq] at h1
                    rcases HJ.out with h | h <;> omega
                  have hcase : k < F.length ∧ j = k ∨ F.length < k ∧ j + 1 = k := by
                    rcases HJ.out with h | h
                    · exact .inl ⟨by omega, h.2⟩
                    · exact .inr h
                  obtain ⟨hv, hne⟩ := HMe.out j hj hcase
                  have HK : Hid (k + 1 ≤ F.length ∧ j + 1 = k + 1 ∨ F.length < k + 1 ∧ j + 1 + 1 = k + 1) := by
                    rcases hcase with h | h
                    · exact .inl ⟨by omega, by omega⟩
                    · exact .inr ⟨by omega, by omega⟩
                  obtain ⟨B2, O2, b2, cc2, rfl, hab2, hadd2, hpv2, l0, l1⟩ := (HPl.out.below HBo.out).fault hj
                  rw [← hv] at hpv2 l0 l1
                  have hps : P.length ≤ 1000 := HPS.out
                  have hne : ¬ P = [s] := hne
                  have hji : (j : Int) < (Lf.length : Int) := by omega
                  have hj0 : (0 : Int) ≤ (j : Int) := by omega
                  have hEq : ∀ m os, Calls Tryz.prog 21 #[.slice (some ⟨b2, 0, none⟩) P.length cc2, .slice (some ⟨b, 0, none⟩) P.length cc] (grow (redrawn wo m) os) fun e w' => e = .returned (.bool true) ∧ ∃ p : Regrown, w' = grow (redrawn wo p.d) p.os := fun m os =>
                    Calls.regrown_of (equal_refl P hps _ _ _ _ _ (hpv2.rd.1.below (below_regrown wo m os)) (HPv.out.rd.1.below (below_regrown wo m os)))
                  have HEQ := Lib.hid hEq
                  have L0 := fun m os => cell_regrown l0 m os
                  have L1 := fun m os => cell_regrown l1 m os
                  have Y0 := fun m os => cell_regrown y0 m os
                  have Y1 := fun m os => cell_regrown y1 m os
                  have hjb : ((j : Int) == (Lf.length : Int)) = false := by rw [beq_eq_false_iff_ne]; omega
                  have hjc : ¬ ((j : Int) = (Lf.length : Int)) := by omega
                  clear HMt HMe HPS HJ hcase hpv2 hps hv hEq
                  by_cases h1 : P.length = 1
                  · obtain ⟨a, ha⟩ := List.length_eq_one_iff.1 h1
                    subst ha
                    simp only [List.getElem_cons_zero] at z0
                    simp only [List.length_singleton] at hwo y0 Y0 HEQ
                    have has : ¬ a = s := fun e => hne (by rw [e])
                    have q1 : (a.toList == s.toList) = false := by rw [beq_eq_false_iff_ne]; exact fun e => has (bytes_inj e)
                    have q2 : ¬ a.toList = s.toList := by simpa using q1
                    clear has hne h1
                    go_wp2_with fail
                    have hEq := HEQ.out
                    refine wp_region_quiet_below (by kernel_rfl) (by kernel_rfl) ?_
                    repeat (go_big_quiet_step ((go_at_call 21; exact hEq _ _)))
                    refine wpQuiet_nil ?_
                    intro _ hw'
                    obtain ⟨⟨dq, osq⟩, hw''⟩ := hw'
                    subst hw''
                    have HB3 := Lib.hid (below_step HBo.out (below_regrown wo dq osq))
                    clear hEq HEQ L0 L1 Y0 Y1 l0 l1 y0 y1 HBo HPv hwo hq hjb hjc q1 q2
                    go_wp2_with fail
                    go_roundw
                    case rel => exact ⟨j + 1, k + 1, by omega, by go_num, by go_num, HK.out, HB3⟩
                    case measure => simp [intOf]; omega
                  · have q1 : ((P.length : Int) == 1) = false := by rw [beq_eq_false_iff_ne]; omega
                    have q2 : ¬ ((P.length : Int) = 1) := by omega
                    clear hne h1 z0
                    go_wp2_with fail
                    have hEq := HEQ.out
                    refine wp_region_quiet_below (by kernel_rfl) (by kernel_rfl) ?_
                    repeat (go_big_quiet_step ((go_at_call 21; exact hEq _ _)))
                    refine wpQuiet_nil ?_
                    intro _ hw'
                    obtain ⟨⟨dq, osq⟩, hw''⟩ := hw'
                    subst hw''
                    have HB3 := Lib.hid (below_step HBo.out (below_regrown wo dq osq))
                    clear hEq HEQ L0 L1 Y0 Y1 l0 l1 y0 y1 HBo HPv hwo hq hjb hjc q1 q2
                    go_wp2_with fail
                    go_roundw
                    case rel => exact ⟨j + 1, k + 1, by omega, by go_num, by go_num, HK.out, HB3⟩
                    case measure => simp [intOf]; omega
              · obtain rfl : k = M.length := by omega
                have h1 := HML.out.2
                rw [beq_iff_eq] at h1
                have hFM := HFM.out
                obtain rfl : j = Lf.length := by
                  rcases HJ.out with h | h <;> omega
                clear h1 hFM HJ
                go_wp2_with fail
                refine (HA.out _ (below_step HB7.out HB.out)).mono ?_
                rintro e w9 ⟨rfl, hb9⟩
                go_wp2_with fail
                go_ret
                exact ⟨rfl, below_step (below_step HB7.out HB.out) hb9⟩
        · have e1 : (secondB s).toList.isEmpty = false := by rw [h1, decide_eq_false he]
          have e2 : ¬ (secondB s).toList = [] := fun e => he (h2.1 e)
          generalize secondB s = s2 at *
          clear hf hr hR hE h1 h2 he
          go_enter Tryz.func3, Tryz.ntmps3
          go_wp2_with fail
          refine HFew.out.mono ?_
          rintro e w1 ⟨rfl, hb1⟩
          have HB1 := Lib.hid hb1
          clear hb1 HFew
          go_wp2_with fail
          refine (HRi.out w1 HB1.out).mono ?_
          rintro e w2 ⟨rfl, hb2⟩
          have HB2 := Lib.hid (below_step HB1.out hb2)
          clear hb2 HRi HB1

          go_wp2_with fail
          refine (HSec.out w2).mono ?_
          rintro e w3 ⟨rfl, hb3⟩
          have HB3 := Lib.hid (below_step HB2.out hb3)
          clear hb3 HB2 HSec
          go_wp2_with fail

          refine (HA.out _ HB3.out).mono ?_
          rintro e w9 ⟨rfl, hb9⟩
          go_wp2_with fail
          go_ret
          exact ⟨rfl, below_step HB3.out hb9⟩
      · have hsd : decide ((40 : Int) < (s.size : Int)) = true := decide_eq_true (by omega)
        have hsi : (40 : Int) < (s.size : Int) := by omega
        clear hf hr hR hE HSec
        go_enter Tryz.func3, Tryz.ntmps3
        go_wp2_with fail
        refine HFew.out.mono ?_
        rintro e w1 ⟨rfl, hb1⟩
        have HB1 := Lib.hid hb1
        clear hb1 HFew
        go_wp2_with fail
        refine (HRi.out w1 HB1.out).mono ?_
        rintro e w2 ⟨rfl, hb2⟩
        have HB2 := Lib.hid (below_step HB1.out hb2)
        clear hb2 HRi HB1
        go_wp2_with fail

        refine (HA.out _ HB2.out).mono ?_
        rintro e w9 ⟨rfl, hb9⟩
        go_wp2_with fail
        go_ret
        exact ⟨rfl, below_step HB2.out hb9⟩
end Go.Proofs.YtlldjkhlhfnfeaaGreatDoor
