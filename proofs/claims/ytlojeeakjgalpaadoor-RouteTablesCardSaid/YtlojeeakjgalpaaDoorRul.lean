/- Walks: what a rule is (route.side, route.takes, route.rule), and which of two numbers stands ahead (cmp.Compare). -/
import Derived.Test.YtlojeeakjgalpaaDoorLk
import Derived.Test.YtlojeeakjgalpaaDoorLibW
namespace Go.Proofs.YtlojeeakjgalpaaDoor
open Go Go.RowKit Rte

theorem isNaN_any (a : Int) (w : World) : Calls Tryd.prog 53 #[.int .i64 a] w fun e w' => e = .returned (.bool false) ∧ w = w' := by
  go_enter Tryd.func53, Tryd.ntmps53
  go_wp2
  go_ret
  exact ⟨by simp, rfl⟩
def cmpI (a b : Int) : Int := if a < b then -1 else if b < a then 1 else 0
theorem compare_any (a b : Int) (w : World) : Calls Tryd.prog 39 #[.int .i64 a, .int .i64 b] w fun e w' => e = .returned (.int .i64 (cmpI a b)) ∧ w = w' := by
  go_enter Tryd.func39, Tryd.ntmps39
  go_wp2_with (first | (go_at_call 53; refine (isNaN_any _ _).mono ?_; rintro e w' ⟨rfl, rfl⟩))
  all_goals
    go_ret
    refine ⟨ret_int ?_, rfl⟩
    unfold cmpI
    repeat' split
    all_goals first | rfl | (exfalso; omega)

theorem eq_any (s : ByteArray) : (s.toList == [97, 110, 121]) = decide (bs s = bs sAny) := by
  rw [Lib.toList_data, Bool.eq_iff_iff, beq_iff_eq, decide_eq_true_eq]; rfl
theorem eq_permit (s : ByteArray) : (s.toList == [112, 101, 114, 109, 105, 116]) = decide (bs s = bs sPermit) := by
  rw [Lib.toList_data, Bool.eq_iff_iff, beq_iff_eq, decide_eq_true_eq]; rfl
theorem eq_deny (s : ByteArray) : (s.toList == [100, 101, 110, 121]) = decide (bs s = bs sDeny) := by
  rw [Lib.toList_data, Bool.eq_iff_iff, beq_iff_eq, decide_eq_true_eq]; rfl

set_option maxHeartbeats 1000000 in
theorem side_any (s : ByteArray) (w : World) (hE : Env w) (hs : s.size ≤ 100000000) :
    Calls Tryd.prog 51 #[.string s] w fun e w' => e = .returned (.bool (side (bs s))) ∧ Below w.heap.size w w' := by
  have HP := Lib.hid (pre_any s w hE hs)
  have HX : Hid (side (bs s) = (decide (0 ≤ (Adr.pre s.data.toList).1) || decide (bs s = bs sAny))) := rfl
  go_enter Tryd.func51, Tryd.ntmps51
  go_wp2_with fail
  refine HP.out.mono ?_
  rintro e w1 ⟨rfl, hb1⟩
  unfold preRet
  clear HP
  generalize Adr.pre s.data.toList = p at *
  by_cases h0 : 0 ≤ p.1
  · rw [show decide (0 ≤ p.1) = true from decide_eq_true h0]
    generalize max p.1 0 = n
    generalize p.2 = m
    go_wp2
    go_ret
    exact ⟨ret_bool (by rw [HX.out, decide_eq_true h0]; rfl), hb1⟩
  · have HF : Hid (decide (0 ≤ p.1) = false) := decide_eq_false h0
    rw [HF.out]
    generalize max p.1 0 = n
    generalize p.2 = m
    go_wp2
    go_ret
    exact ⟨ret_bool (by rw [HX.out, HF.out, Bool.false_or]; exact eq_any s), hb1⟩

set_option maxHeartbeats 1000000 in
theorem takes_any (s : ByteArray) (ip : Int) (w : World) (hE : Env w) (hs : s.size ≤ 100000000) :
    Calls Tryd.prog 30 #[.string s, .int .i64 ip] w fun e w' => e = .returned (.bool (takes (bs s) ip)) ∧ Below w.heap.size w w' := by
  have HP := Lib.hid (pre_any s w hE hs)
  have HX : Hid (takes (bs s) ip = (decide (bs s = bs sAny) || (decide (0 ≤ (Adr.pre s.data.toList).1) && Adr.isIn (Adr.pre s.data.toList).1 (Adr.pre s.data.toList).2 ip))) := rfl
  have HE : Hid _ := eq_any s
  go_enter Tryd.func30, Tryd.ntmps30
  go_wp2_with fail
  refine HP.out.mono ?_
  rintro e w1 ⟨rfl, hb1⟩
  unfold preRet
  clear HP
  generalize Adr.pre s.data.toList = p at *
  by_cases ha : bs s = bs sAny
  · have he : (s.toList == [97, 110, 121]) = true := by rw [HE.out]; exact decide_eq_true ha
    have he2 : s.toList = [97, 110, 121] := by simpa using he
    have HR : Hid (takes (bs s) ip = true) := by show _ = _; rw [HX.out, decide_eq_true ha, Bool.true_or]
    clear HX HE he ha
    generalize max p.1 0 = n
    generalize p.2 = m
    generalize decide (0 ≤ p.1) = q
    go_wp2
    all_goals
      go_ret
      exact ⟨ret_bool HR.out.symm, hb1⟩
  · have he : (s.toList == [97, 110, 121]) = false := by rw [HE.out]; exact decide_eq_false ha
    have he2 : ¬ s.toList = [97, 110, 121] := by simpa using he
    have HE2 : Hid _ := he
    by_cases h0 : 0 ≤ p.1
    · have HI := Lib.hid (in_any p.1 p.2 ip w1)
      have HR : Hid (takes (bs s) ip = Adr.isIn p.1 p.2 ip) := by show _ = _; rw [HX.out, decide_eq_false ha, Bool.false_or, decide_eq_true h0, Bool.true_and]
      rw [show decide (0 ≤ p.1) = true from decide_eq_true h0, show max p.1 0 = p.1 by omega]
      clear HX HE he ha
      generalize p.1 = n at *
      generalize p.2 = m at *
      go_wp2_with fail
      refine HI.out.mono ?_
      rintro e w2 ⟨rfl, rfl⟩
      generalize Adr.isIn n m ip = q at *
      go_wp2
      all_goals
        go_ret
        exact ⟨ret_bool (by first | (rw [HE2.out, Bool.false_or]; exact HR.out.symm) | (rw [HE2.out]; exact HR.out.symm) | exact HR.out.symm), hb1⟩
    · have HF : Hid (decide (0 ≤ p.1) = false) := decide_eq_false h0
      have HR : Hid (takes (bs s) ip = false) := by show _ = _; rw [HX.out, decide_eq_false ha, Bool.false_or, HF.out, Bool.false_and]
      rw [HF.out]
      clear HX HE he ha h0 HF
      generalize max p.1 0 = n
      generalize p.2 = m
      go_wp2
      all_goals
        go_ret
        exact ⟨ret_bool (by first | (rw [HE2.out, Bool.false_or]; exact HR.out.symm) | (rw [HE2.out]; exact HR.out.symm) | exact HR.out.symm), hb1⟩

/-- The three words of a split. -/
theorem Rd.three {w : World} {A : Option Addr} {a b c : List UInt8} (h : Rd w 1 A 3 (strs [a, b, c])) :
    ∃ B O, A = some ⟨B, O, none⟩ ∧ B < w.heap.size ∧ w.cell? ⟨B, O, none⟩ = some (.string ⟨a.toArray⟩) ∧ w.cell? ⟨B, O + 1, none⟩ = some (.string ⟨b.toArray⟩) ∧ w.cell? ⟨B, O + 2, none⟩ = some (.string ⟨c.toArray⟩) := by
  obtain ⟨ad, e, hb, hx⟩ := h.2 (by omega)
  have h0 := hx 0 _ rfl
  have h1 := hx 1 _ rfl
  have h2 := hx 2 _ rfl
  obtain ⟨B, O, sp⟩ := ad
  obtain rfl : sp = none := World.cell?_spot h0
  rw [add_plain] at h0 h1 h2
  exact ⟨B, O, e, hb, h0, h1, h2⟩

/-- What a rule hangs on, once its words are three. -/
theorem isRule_three {h : ByteArray} {x : Ent} {a b c : List UInt8} (hw : words x = [a, b, c]) : isRule h x = (Adr.numIn (bs x.key) 1 1000 && decide (x.host = h) && decide (x.kind = 5) && ((decide (a = bs sPermit) || decide (a = bs sDeny)) && side b && side c)) := by
  unfold isRule; rw [hw]; rfl
theorem isRule_not3 {h : ByteArray} {x : Ent} (hw : (words x).length ≠ 3) : isRule h x = false := by
  unfold isRule
  have : wordsOk (words x) = false := by
    match hh : words x with
    | [] => rfl
    | [_] => rfl
    | [_, _] => rfl
    | [_, _, _] => rw [hh] at hw; exact absurd rfl hw
    | _ :: _ :: _ :: _ :: _ => rfl
  rw [this, Bool.and_false]
theorem three_of {α : Type} {l : List α} (h : l.length = 3) : ∃ a b c, l = [a, b, c] := by
  match l, h with
  | [a, b, c], _ => exact ⟨a, b, c, rfl⟩

set_option maxHeartbeats 2000000 in
set_option maxRecDepth 100000 in
theorem rule_any (x : Ent) (h : ByteArray) (w : World) (hE : Env w) (hk : x.key.size ≤ 100000000) (hv : x.val.size ≤ 100000000) :
    Calls Tryd.prog 36 #[x.agg, .string h] w fun e w' => e = .returned (.int .i64 (rule h x)) ∧ Below w.heap.size w w' := by
  have hN := fun W (hW : Env W) => num_any x.key 1 1000 W hW (by omega)
  have hS := fun W (hW : Env W) => split_any x.val 32 W hW hv
  have HN := Lib.hid hN
  have HS := Lib.hid hS
  clear hN hS
  unfold Ent.agg
  go_enter Tryd.func36, Tryd.ntmps36
  go_wp2_with fail
  refine (HN.out _ (hE.below ((Below.refl _ _).alloc (Nat.le_refl _) _))).mono ?_
  rintro e w1 ⟨rfl, hb1⟩
  have hE1 : Env w1 := (hE.below ((Below.refl _ _).alloc (Nat.le_refl _) _)).below hb1
  obtain ⟨g0, g1, g2, g3⟩ := box_cells x hb1
  have HB1 : Hid (Below w.heap.size w w1) := ((Below.refl _ _).alloc (Nat.le_refl _) _).trans (hb1.mono (by simp))
  obtain ⟨bx, hbx⟩ : ∃ bx, w.heap.size = bx := ⟨_, rfl⟩
  have HZ : Hid (bx < w1.heap.size) := by show _ < _; rw [← hbx]; exact Nat.lt_of_lt_of_le (by simp) hb1.size
  clear hb1 HN
  unfold numRet
  rw [hbx] at g0 g1 g2 g3 ⊢
  have HBX : Hid (w.heap.size = bx) := hbx
  clear hbx
  have HNR : Hid (Adr.numIn x.key.data.toList 1 1000 = true → isRule h x = true → rule h x = Adr.num x.key.data.toList) := fun _ hr => by unfold rule; rw [if_pos hr]
  have HZR : Hid (isRule h x = false → rule h x = 0) := rule_zero
  generalize hin : Adr.numIn x.key.data.toList 1 1000 = q at *
  generalize hnn : (if q = true then Adr.num x.key.data.toList else 0) = n at *
  have HQ : Hid (Adr.numIn (bs x.key) 1 1000 = q) := hin
  have HNN : Hid ((if q = true then Adr.num (bs x.key) else 0) = n) := hnn
  clear hin hnn
  go_wp2_with fail
  refine (HS.out _ hE1).mono ?_
  rintro e w2 ⟨A, cap, rfl, hc1, hc2, hR, hb2⟩
  have hE2 : Env w2 := hE1.below hb2
  have hlb : bx < w1.heap.size := HZ.out
  rw [← hb2.cell (p := ⟨bx, 0, none⟩) hlb] at g0
  rw [← hb2.cell (p := ⟨bx, 1, none⟩) hlb] at g1
  rw [← hb2.cell (p := ⟨bx, 2, none⟩) hlb] at g2
  rw [← hb2.cell (p := ⟨bx, 3, none⟩) hlb] at g3
  have HB2 : Hid (Below w.heap.size w w2) := HB1.out.trans (hb2.mono (by rw [HBX.out]; exact Nat.le_of_lt hlb))
  have HW : Hid (words x = Adr.parts 32 x.val.data.toList) := rfl
  have hps := Adr.parts_short 32 x.val.data.toList
  rw [size_data] at hps
  generalize Adr.parts 32 x.val.data.toList = L at *
  have HPS := Lib.hid hps
  have HLE : Hid (w1.heap.size ≤ w2.heap.size) := hb2.size
  clear hb2 hE1 HB1 HS hlb hps
  cases q with
  | false =>
    have HR : Hid (rule h x = 0) := HZR.out (by unfold isRule; rw [HQ.out]; rfl)
    clear HNR HZR HQ HNN HW
    go_wp2
    go_ret
    exact ⟨ret_int HR.out.symm, HB2.out⟩
  | true =>
    have HNN2 : Hid (n = Adr.num (bs x.key)) := HNN.out.symm.trans (if_pos rfl)
    by_cases hh : x.host = h
    · have hh2 : x.host.toList = h.toList := by rw [hh]
      by_cases h5 : x.kind = 5
      · by_cases h3 : L.length = 3
        · obtain ⟨a, b, c, rfl⟩ := three_of h3
          have HI : Hid _ := isRule_three (h := h) HW.out
          rw [HQ.out, decide_eq_true hh, decide_eq_true h5] at HI
          have hR' : Rd w2 1 A 3 (strs [a, b, c]) := hR
          obtain ⟨B, O, rfl, hBl, c0, c1, c2⟩ := hR'.three
          have hsb : b.length ≤ 100000000 := Nat.le_trans (HPS.out b (by simp)) hv
          have hsc : c.length ≤ 100000000 := Nat.le_trans (HPS.out c (by simp)) hv
          obtain ⟨s0, hs0⟩ : ∃ s0, (⟨a.toArray⟩ : ByteArray) = s0 := ⟨_, rfl⟩
          obtain ⟨s1, hs1⟩ : ∃ s1, (⟨b.toArray⟩ : ByteArray) = s1 := ⟨_, rfl⟩
          obtain ⟨s2, hs2⟩ : ∃ s2, (⟨c.toArray⟩ : ByteArray) = s2 := ⟨_, rfl⟩
          have ea : a = bs s0 := by rw [← hs0]
          have eb : b = bs s1 := by rw [← hs1]
          have ec : c = bs s2 := by rw [← hs2]
          have H1 := Lib.hid (show ∀ W, Env W → _ from fun W hW => side_any s1 W hW (by rw [← hs1, size_mk]; exact hsb))
          have H2 := Lib.hid (show ∀ W, Env W → _ from fun W hW => side_any s2 W hW (by rw [← hs2, size_mk]; exact hsc))
          rw [hs0] at c0
          rw [hs1] at c1
          rw [hs2] at c2
          have HP0 : Hid _ := eq_permit s0
          have HD0 : Hid _ := eq_deny s0
          have HI2 : Hid (isRule h x = ((decide (bs s0 = bs sPermit) || decide (bs s0 = bs sDeny)) && side (bs s1) && side (bs s2))) := by
            show _ = _
            rw [HI.out, ea, eb, ec]; rfl
          clear HI ea eb ec hs0 hs1 hs2 hsb hsc hR hR' HPS HW h3 hc2 HQ HNN
          have hcap : 3 ≤ cap := hc1
          clear hc1
          by_cases hw : bs s0 = bs sPermit ∨ bs s0 = bs sDeny
          · have HI3 : Hid (isRule h x = (side (bs s1) && side (bs s2))) := by
              show _ = _
              rw [HI2.out]
              rcases hw with hp | hp <;> simp [hp]
            have hwd : s0.toList = [112, 101, 114, 109, 105, 116] ∨ s0.toList = [100, 101, 110, 121] := by
              rw [Lib.toList_data]; exact hw
            clear hw HI2 HP0 HD0
            rcases hwd with hp | hp
            all_goals
              go_wp2_with fail
              refine (H1.out _ hE2).mono ?_
              rintro e w3 ⟨rfl, hb3⟩
              have hE3 : Env w3 := hE2.below hb3
              have c2' : w3.cell? ⟨B, O + 2, none⟩ = some (.string s2) := (hb3.cell (p := ⟨B, O + 2, none⟩) hBl).trans c2
              have HB3 : Hid (Below w.heap.size w w3) := HB2.out.trans (hb3.mono (by rw [HBX.out]; exact Nat.le_trans (Nat.le_of_lt HZ.out) HLE.out))
              clear hb3 c0 c1 c2 g0 g1 g2 g3 hE2 HB2
              generalize side (bs s1) = r1 at *
              cases r1 with
              | false =>
                have HR : Hid (rule h x = 0) := HZR.out (by rw [HI3.out]; rfl)
                clear HI3 HZR HNR
                go_wp2
                go_ret
                exact ⟨ret_int HR.out.symm, HB3.out⟩
              | true =>
                go_wp2_with fail
                refine (H2.out _ hE3).mono ?_
                rintro e w4 ⟨rfl, hb4⟩
                have HB4 : Hid (Below w.heap.size w w4) := below_step HB3.out hb4
                clear hb4 hE3 HB3
                generalize side (bs s2) = r2 at *
                cases r2 with
                | false =>
                  have HR : Hid (rule h x = 0) := HZR.out (by rw [HI3.out]; rfl)
                  clear HI3 HZR HNR
                  go_wp2
                  go_ret
                  exact ⟨ret_int HR.out.symm, HB4.out⟩
                | true =>
                  have HR : Hid (rule h x = n) := (HNR.out (by first | exact trivial | rfl) (by rw [HI3.out]; rfl)).trans HNN2.out.symm
                  clear HI3 HZR HNR HNN2
                  go_wp2
                  go_ret
                  exact ⟨ret_int HR.out.symm, HB4.out⟩
          · have HR : Hid (rule h x = 0) := HZR.out (by
              rw [HI2.out]
              have h1 : ¬ bs s0 = bs sPermit := fun hc => hw (.inl hc)
              have h2 : ¬ bs s0 = bs sDeny := fun hc => hw (.inr hc)
              simp [h1, h2])
            have n1 : ¬ s0.toList = [112, 101, 114, 109, 105, 116] := by rw [Lib.toList_data]; exact fun hc => hw (.inl hc)
            have n2 : ¬ s0.toList = [100, 101, 110, 121] := by rw [Lib.toList_data]; exact fun hc => hw (.inr hc)
            clear HI2 HZR HNR HNN2 hw HP0 HD0 H1 H2
            go_wp2
            all_goals
              go_ret
              exact ⟨ret_int HR.out.symm, HB2.out⟩
        · have HR : Hid (rule h x = 0) := HZR.out (isRule_not3 (by rw [HW.out]; exact h3))
          have h3z : ¬ (L.length : Int) = 3 := by omega
          clear HZR HNR HNN2 HW HQ HNN
          generalize L.length = ln at *
          go_wp2
          all_goals
            go_ret
            exact ⟨ret_int HR.out.symm, HB2.out⟩
      · have HR : Hid (rule h x = 0) := HZR.out (by unfold isRule; rw [decide_eq_false h5, Bool.and_false, Bool.false_and])
        clear HZR HNR HNN2 HW HQ HNN
        generalize L.length = ln at *
        go_wp2
        all_goals
          go_ret
          exact ⟨ret_int HR.out.symm, HB2.out⟩
    · have HR : Hid (rule h x = 0) := HZR.out (by unfold isRule; rw [decide_eq_false hh, Bool.and_false, Bool.false_and, Bool.false_and])
      have hh2 : ¬ x.host.toList = h.toList := bytes_ne hh
      clear HZR HNR HNN2 HW HQ HNN
      generalize L.length = ln at *
      go_wp2
      all_goals
        go_ret
        exact ⟨ret_int HR.out.symm, HB2.out⟩
end Go.Proofs.YtlojeeakjgalpaaDoor
