/- Walks: the reference's sound and Number (layer 15). -/
import Derived.Test.YtlojeeakjgalpaaDoorWrd
import Derived.Test.YtlojeeakjgalpaaDoorNumW
namespace Rte
open Go Adr
theorem isRule_eq (h : ByteArray) (x : Ent) : isRule h x = (decide ((words x).length = 3) && decide (x.host = h) && decide (x.kind = 5) && numIn (bs x.key) 1 1000 && wordsOk (words x)) := by
  unfold isRule
  by_cases h3 : (words x).length = 3
  · rw [decide_eq_true h3]
    cases numIn (bs x.key) 1 1000 <;> cases decide (x.host = h) <;> cases decide (x.kind = 5) <;> cases wordsOk (words x) <;> rfl
  · rw [decide_eq_false h3]
    have : wordsOk (words x) = false := by
      match hh : words x with
      | [] => rfl
      | [_] => rfl
      | [_, _] => rfl
      | [_, _, _] => rw [hh] at h3; exact absurd rfl h3
      | _ :: _ :: _ :: _ :: _ => rfl
    rw [this]; simp
end Rte
namespace Go.Proofs.YtlojeeakjgalpaaDoor
open Go Go.RowKit Rte

set_option maxHeartbeats 1000000 in
theorem sound_any (s : ByteArray) (w : World) (hs : s.size ≤ 100000000) :
    Calls Tryd.prog 41 #[.string s] w fun e w' => e = .returned (.bool (side (bs s))) ∧ Below w.heap.size w w' := by
  have HP := Lib.hid (refPre_any s w hs)
  have HX : Hid (side (bs s) = (decide (0 ≤ (Adr.pre s.data.toList).1) || decide (bs s = bs sAny))) := rfl
  have HE : Hid _ := eq_any s
  go_enter Tryd.func41, Tryd.ntmps41
  go_wp2_with fail
  refine HP.out.mono ?_
  rintro e w1 ⟨rfl, hb1⟩
  clear HP
  generalize Adr.pre s.data.toList = p at *
  by_cases ha : bs s = bs sAny
  · have he : (s.toList == [97, 110, 121]) = true := by rw [HE.out]; exact decide_eq_true ha
    have he2 : s.toList = [97, 110, 121] := by simpa using he
    have HR : Hid (side (bs s) = true) := by show _ = _; rw [HX.out, decide_eq_true ha, Bool.or_true]
    clear HX HE he ha
    generalize p.1 = n
    generalize p.2 = m
    go_wp2
    all_goals
      go_ret
      exact ⟨ret_bool HR.out.symm, hb1⟩
  · have he : (s.toList == [97, 110, 121]) = false := by rw [HE.out]; exact decide_eq_false ha
    have he2 : ¬ s.toList = [97, 110, 121] := by simpa using he
    have HE2 : Hid _ := he
    have HR : Hid (side (bs s) = decide (0 ≤ p.1)) := by show _ = _; rw [HX.out, decide_eq_false ha, Bool.or_false]
    clear HX HE he ha
    generalize p.1 = n at *
    generalize p.2 = m
    go_wp2
    all_goals
      go_ret
      exact ⟨ret_bool (by first | exact HR.out.symm | (rw [HR.out]; simp [he2]; done)), hb1⟩

set_option maxHeartbeats 4000000 in
set_option maxRecDepth 100000 in
theorem number_any (x : Ent) (h : ByteArray) (w : World) (hk : x.key.size ≤ 100000000) (hv : x.val.size ≤ 100000000) :
    Calls Tryd.prog 19 #[x.agg, .string h] w fun e w' => e = .returned (.int .i64 (rule h x)) ∧ Below w.heap.size w w' := by
  have HWD := Lib.hid (show ∀ W, _ from fun W => words_any x.val W hv)
  have HNM := Lib.hid (show ∀ W, _ from fun W => refNum_any x.key W (by unfold maxLen; omega))
  unfold Ent.agg
  go_enter Tryd.func19, Tryd.ntmps19
  go_wp2_with fail
  refine (HWD.out _).mono ?_
  rintro e w1 ⟨a, b, c, rfl, hw3, hb1⟩
  obtain ⟨g0, g1, g2, g3⟩ := box_cells x hb1
  have HB1 : Hid (Below w.heap.size w w1) := ((Below.refl _ _).alloc (Nat.le_refl _) _).trans (hb1.mono (by simp))
  have hlb : w.heap.size < w1.heap.size := Nat.lt_of_lt_of_le (by simp) hb1.size
  have HW3 : Hid ((words x).length = 3 → words x = [bs a, bs b, bs c]) := hw3
  have HLN : Hid ((Adr.parts 32 x.val.data.toList).length = (words x).length) := rfl
  rw [HLN.out]
  clear hb1 HWD hw3 HLN
  obtain ⟨bx, hbx⟩ : ∃ bx, w.heap.size = bx := ⟨_, rfl⟩
  have HBX : Hid (w.heap.size = bx) := hbx
  rw [hbx] at g0 g1 g2 g3 hlb ⊢
  clear hbx
  have HIR := Lib.hid (isRule_eq h x)
  have HZR : Hid (isRule h x = false → rule h x = 0) := rule_zero
  have HNR : Hid (isRule h x = true → rule h x = Adr.num (bs x.key)) := fun hr => by unfold rule; rw [if_pos hr]
  have HIN : Hid _ := Adr.numIn_iff (bs x.key) 1 1000
  have hAB : Below w1.heap.size w1 (w1.alloc (.cells #[.string a, .string b, .string c] 62)) := (Below.refl _ _).alloc (Nat.le_refl _) _
  have HAB := Lib.hid hAB
  clear hAB
  by_cases h3 : (words x).length = 3
  · have HT := Lib.hid (HW3.out h3)
    have HI2 : Hid (isRule h x = (decide (x.host = h) && decide (x.kind = 5) && Adr.numIn (bs x.key) 1 1000 && ((decide (bs a = bs sPermit) || decide (bs a = bs sDeny)) && side (bs b) && side (bs c)))) := by
      show _ = _
      rw [HIR.out, HT.out]; rfl
    have hbc : bs b ∈ words x ∧ bs c ∈ words x := by rw [HT.out]; simp
    have hps := Adr.parts_short 32 x.val.data.toList
    rw [size_data] at hps
    have hb2 : b.size ≤ 100000000 := by have := hps _ hbc.1; rw [size_data] at this; omega
    have hc2 : c.size ≤ 100000000 := by have := hps _ hbc.2; rw [size_data] at this; omega
    have S1 := Lib.hid (show ∀ W, _ from fun W => sound_any b W hb2)
    have S2 := Lib.hid (show ∀ W, _ from fun W => sound_any c W hc2)
    rw [decide_eq_true h3]
    clear HIR HW3 HT hbc hps hb2 hc2 h3
    go_wp2_with fail
    refine (HNM.out _).mono ?_
    rintro e w2 ⟨rfl, hw2⟩
    rw [show Adr.num x.key.data.toList = Adr.num (bs x.key) from rfl]
    have hl1 : w1.heap.size < w2.heap.size := by rw [← hw2]; simp
    have d0 : w2.cell? ⟨w1.heap.size, 0, none⟩ = some (.string a) := by rw [← hw2, World.cell?_alloc_at _ _ _ _ rfl]; rfl
    have d1 : w2.cell? ⟨w1.heap.size, 1, none⟩ = some (.string b) := by rw [← hw2, World.cell?_alloc_at _ _ _ _ rfl]; rfl
    have d2 : w2.cell? ⟨w1.heap.size, 2, none⟩ = some (.string c) := by rw [← hw2, World.cell?_alloc_at _ _ _ _ rfl]; rfl
    have e0 : w2.cell? ⟨bx, 0, none⟩ = some (.string x.host) := by rw [← hw2, World.cell?_alloc_lt _ _ _ hlb]; exact g0
    have e1 : w2.cell? ⟨bx, 1, none⟩ = some (.int .i64 x.kind) := by rw [← hw2, World.cell?_alloc_lt _ _ _ hlb]; exact g1
    have HB2 : Hid (Below w.heap.size w w2) := by
      show Below w.heap.size w w2
      rw [← hw2]
      exact HB1.out.trans (HAB.out.mono (by rw [HBX.out]; omega))
    clear hw2 HAB g0 g1 g2 g3 HB1 HNM
    generalize w1.heap.size = ax at *
    generalize Adr.num (bs x.key) = n at *
    have HINN : Hid (Adr.numIn (bs x.key) 1 1000 = (decide (1 ≤ n) && decide (n ≤ 1000))) := by
      show _ = _
      rw [Bool.eq_iff_iff, HIN.out]; simp only [Bool.and_eq_true, decide_eq_true_eq]; omega
    by_cases hh : x.host = h
    · have hh2 : x.host.toList = h.toList := by rw [hh]
      by_cases h5 : x.kind = 5
      · have h5b : (x.kind == 5) = true := by rw [beq_iff_eq]; exact h5
        by_cases hn : 1 ≤ n ∧ n ≤ 1000
        · obtain ⟨hn1, hn2⟩ := hn
          have HI3 : Hid (isRule h x = ((decide (bs a = bs sPermit) || decide (bs a = bs sDeny)) && side (bs b) && side (bs c))) := by
            show _ = _
            rw [HI2.out, HINN.out, decide_eq_true hh, decide_eq_true h5, decide_eq_true hn1, decide_eq_true hn2]; rfl
          clear HI2 HINN hh HIN
          by_cases hw : bs a = bs sPermit ∨ bs a = bs sDeny
          · have HI4 : Hid (isRule h x = (side (bs b) && side (bs c))) := by
              show _ = _
              rw [HI3.out]
              rcases hw with hp | hp <;> simp [hp]
            have hwd : a.toList = [112, 101, 114, 109, 105, 116] ∨ a.toList = [100, 101, 110, 121] := by
              rw [Lib.toList_data]; exact hw
            clear hw HI3
            rcases hwd with hp | hp
            all_goals
              go_wp2_with fail
              refine (S1.out _).mono ?_
              rintro e w3 ⟨rfl, hb3⟩
              have d2' : w3.cell? ⟨ax, 2, none⟩ = some (.string c) := (hb3.cell (p := ⟨ax, 2, none⟩) hl1).trans d2
              have HB3 : Hid (Below w.heap.size w w3) := below_step HB2.out hb3
              clear hb3 d0 d1 d2 e0 e1 HB2 S1
              generalize side (bs b) = r1 at *
              cases r1 with
              | false =>
                have HR : Hid (rule h x = 0) := HZR.out (by rw [HI4.out]; rfl)
                clear HI4 HZR HNR
                go_wp2
                go_ret
                exact ⟨ret_int HR.out.symm, HB3.out⟩
              | true =>
                go_wp2_with fail
                refine (S2.out _).mono ?_
                rintro e w4 ⟨rfl, hb4⟩
                have HB4 : Hid (Below w.heap.size w w4) := below_step HB3.out hb4
                clear hb4 HB3 S2
                generalize side (bs c) = r2 at *
                cases r2 with
                | false =>
                  have HR : Hid (rule h x = 0) := HZR.out (by rw [HI4.out]; rfl)
                  clear HI4 HZR HNR
                  go_wp2
                  go_ret
                  exact ⟨ret_int HR.out.symm, HB4.out⟩
                | true =>
                  have HR : Hid (rule h x = n) := HNR.out (by rw [HI4.out]; rfl)
                  clear HI4 HZR HNR
                  go_wp2
                  go_ret
                  exact ⟨ret_int HR.out.symm, HB4.out⟩
          · have HR : Hid (rule h x = 0) := HZR.out (by
              rw [HI3.out]
              have z1 : ¬ bs a = bs sPermit := fun hc => hw (.inl hc)
              have z2 : ¬ bs a = bs sDeny := fun hc => hw (.inr hc)
              simp [z1, z2])
            have n1 : ¬ a.toList = [112, 101, 114, 109, 105, 116] := by rw [Lib.toList_data]; exact fun hc => hw (.inl hc)
            have n2 : ¬ a.toList = [100, 101, 110, 121] := by rw [Lib.toList_data]; exact fun hc => hw (.inr hc)
            clear HI3 HZR HNR hw S1 S2
            go_wp2
            all_goals
              go_ret
              exact ⟨ret_int HR.out.symm, HB2.out⟩
        · have HR : Hid (rule h x = 0) := HZR.out (by
            rw [HI2.out, HINN.out]
            have : (decide (1 ≤ n) && decide (n ≤ 1000)) = false := by
              rw [Bool.and_eq_false_iff, decide_eq_false_iff_not, decide_eq_false_iff_not]; omega
            rw [this]; simp)
          clear HI2 HINN HZR HNR S1 S2 HIN hh
          go_wp2
          all_goals
            go_ret
            exact ⟨ret_int HR.out.symm, HB2.out⟩
      · have h5b : (x.kind == 5) = false := by rw [beq_eq_false_iff_ne]; exact h5
        have HR : Hid (rule h x = 0) := HZR.out (by rw [HI2.out, decide_eq_false h5]; simp)
        clear HI2 HINN HZR HNR S1 S2 HIN hh
        go_wp2
        all_goals
          go_ret
          exact ⟨ret_int HR.out.symm, HB2.out⟩
    · have hh2 : ¬ x.host.toList = h.toList := bytes_ne hh
      have HR : Hid (rule h x = 0) := HZR.out (by rw [HI2.out, decide_eq_false hh]; simp)
      clear HI2 HINN HZR HNR S1 S2 HIN
      go_wp2
      all_goals
        go_ret
        exact ⟨ret_int HR.out.symm, HB2.out⟩
  · have HR : Hid (rule h x = 0) := HZR.out (isRule_not3 h3)
    rw [decide_eq_false h3]
    clear HIR HW3 HZR HNR h3
    go_wp2_with fail
    refine (HNM.out _).mono ?_
    rintro e w2 ⟨rfl, hw2⟩
    have HB2 : Hid (Below w.heap.size w w2) := by
      show Below w.heap.size w w2
      rw [← hw2]
      exact HB1.out.trans (HAB.out.mono (by rw [HBX.out]; omega))
    clear hw2 HAB g0 g1 g2 g3 HB1 HNM
    generalize Adr.num x.key.data.toList = n at *
    go_wp2
    all_goals
      go_ret
      exact ⟨ret_int HR.out.symm, HB2.out⟩
end Go.Proofs.YtlojeeakjgalpaaDoor
