/- Walks: a prefix of a text: the program's and the reference's; the reference's In. -/
import Derived.Test.YtlojeeakjgalpaaDoorIpW
import Derived.Deep.RegionHeld3
namespace Adr
open Go
theorem pre_parts (l : List UInt8) (h : (parts 47 l).length ≠ 2) : pre l = (-1, 0) := by
  unfold pre
  split
  · rename_i e; rw [e] at h; simp at h
  · rfl
theorem pre_two (l a b : List UInt8) (h : parts 47 l = [a, b]) : pre l = if good (ip a) (num b) then (ip a, num b) else (-1, 0) := by
  unfold pre; rw [h]
theorem good_no {n k : Int} (h : ¬ (0 ≤ n ∧ 0 ≤ k ∧ k ≤ 32 ∧ right n k = true)) : good n k = false := by
  rw [Bool.eq_false_iff]
  unfold good
  simp only [ne_eq, Bool.and_eq_true, decide_eq_true_eq]
  rintro ⟨⟨⟨a, b⟩, c⟩, d⟩
  exact h ⟨a, b, c, d⟩
theorem first_slash (l : List UInt8) (h : (47 : UInt8) ∈ l) : ∃ a r, l = a ++ 47 :: r ∧ (47 : UInt8) ∉ a := first_at 47 l h
theorem numIn_32 {b : List UInt8} (h : numIn b 0 32 = true) : 0 ≤ num b ∧ num b ≤ 32 := by
  have := (numIn_iff _ _ _).1 h; omega
theorem not_numIn_32 {b : List UInt8} (h : numIn b 0 32 = false) : ¬ (0 ≤ num b ∧ num b ≤ 32) := by
  intro a
  have := (numIn_iff b 0 32).2 ⟨a.1, a.1, a.2⟩
  rw [h] at this; cases this
end Adr
namespace Go.Proofs.YtlojeeakjgalpaaDoor
open Go.RowKit

/-- A prefix that is there, or (0, 0, false). -/
def preRet (p : Int × Int) : Value := .tuple #[.int .i64 (max p.1 0), .int .i64 p.2, .bool (decide (0 ≤ p.1))]
theorem preRet_yes {p : Int × Int} (h : 0 ≤ p.1) : preRet p = .tuple #[.int .i64 p.1, .int .i64 p.2, .bool true] := by
  unfold preRet; rw [show max p.1 0 = p.1 by omega]; simp [h]
theorem preRet_no : preRet (-1, 0) = .tuple #[.int .i64 0, .int .i64 0, .bool false] := by
  unfold preRet; simp; decide

set_option maxHeartbeats 1000000 in
set_option maxRecDepth 100000 in
theorem pre_any (s : ByteArray) (w : World) (hE : Env w) (hs : s.size ≤ 100000000) :
    Calls Tryd.prog 23 #[.string s] w fun e w' => e = .returned (preRet (Adr.pre s.data.toList)) ∧ Below w.heap.size w w' := by
  by_cases hc : (47 : UInt8) ∈ s.data.toList
  · obtain ⟨a, r, hl, ha⟩ := Adr.first_slash _ hc
    have hp : Adr.pre s.data.toList = if Adr.good (Adr.ip a) (Adr.num r) then (Adr.ip a, Adr.num r) else (-1, 0) := by
      rw [hl, Adr.pre_hit a r ha]; unfold Adr.preCut; simp
    have hsz := size_data s
    have hln : a.length + (r.length + 1) = s.size := by rw [← hsz, hl]; simp
    have hla : a.length ≤ 100000000 := by omega
    have hlr : r.length ≤ 100000000 := by omega
    have HL := Lib.hid hl
    clear hl hsz hln hc
    have HN := Lib.hid (show ∀ W, Env W → Calls Tryd.prog 44 #[.string ⟨r.toArray⟩, .int .i64 0, .int .i64 32] W fun e w' => e = .returned (numRet ⟨r.toArray⟩ 0 32) ∧ Below W.heap.size W w' from
      fun W hW => num_any ⟨r.toArray⟩ 0 32 W hW (by rw [size_mk]; omega))
    have HI := Lib.hid (show ∀ W, Env W → Calls Tryd.prog 27 #[.string ⟨a.toArray⟩] W fun e w' => e = .returned (okRet (Adr.ip a)) ∧ Below W.heap.size W w' from
      fun W hW => by
        have := ip_any ⟨a.toArray⟩ W hW (by rw [size_mk]; omega)
        rw [data_mk] at this; exact this)
    by_cases hip : 0 ≤ Adr.ip a
    · have HIR := Lib.hid (okRet_yes hip)
      cases hin : Adr.numIn r 0 32 with
      | true =>
        have hb := Adr.numIn_32 hin
        have HNR := Lib.hid (numRet_yes (s := ⟨r.toArray⟩) (by rw [data_mk]; exact hin))
        cases hr : Adr.right (Adr.ip a) (Adr.num r) with
        | true =>
          rw [Adr.good_right hr, if_pos rfl] at hp
          have HF := Lib.hid (show preRet (Adr.pre s.data.toList) = .tuple #[.int .i64 (Adr.ip a), .int .i64 (Adr.num r), .bool true] by rw [hp]; exact preRet_yes hip)
          have HR := Lib.hid hr
          clear hp hr hin
          go_enter Tryd.func23, Tryd.ntmps23
          go_wp2_with fail
          refine (cut_hit s 47 a r _ hE hs HL.out ha).mono ?_
          rintro e w1 ⟨rfl, hb1⟩
          go_wp2_with fail
          refine (HI.out _ (hE.below hb1)).mono ?_
          rintro e w2 ⟨rfl, hb2⟩
          rw [HIR.out]
          go_wp2_with fail
          refine (HN.out _ ((hE.below hb1).below hb2)).mono ?_
          rintro e w3 ⟨rfl, hb3⟩
          rw [HNR.out]
          go_wp2_with fail
          refine (right_any _ _ _).mono ?_
          rintro e w4 ⟨rfl, rfl⟩
          rw [HR.out]
          go_wp2_with fail
          go_ret3
          exact ⟨by rw [HF.out]; simp, below_step (below_step hb1 hb2) hb3⟩
        | false =>
          rw [Adr.good_no (by rw [hr]; simp), if_neg (by simp)] at hp
          have HF := Lib.hid (show preRet (Adr.pre s.data.toList) = .tuple #[.int .i64 0, .int .i64 0, .bool false] by rw [hp]; exact preRet_no)
          have HR := Lib.hid hr
          clear hp hr hin
          go_enter Tryd.func23, Tryd.ntmps23
          go_wp2_with fail
          refine (cut_hit s 47 a r _ hE hs HL.out ha).mono ?_
          rintro e w1 ⟨rfl, hb1⟩
          go_wp2_with fail
          refine (HI.out _ (hE.below hb1)).mono ?_
          rintro e w2 ⟨rfl, hb2⟩
          rw [HIR.out]
          go_wp2_with fail
          refine (HN.out _ ((hE.below hb1).below hb2)).mono ?_
          rintro e w3 ⟨rfl, hb3⟩
          rw [HNR.out]
          go_wp2_with fail
          refine (right_any _ _ _).mono ?_
          rintro e w4 ⟨rfl, rfl⟩
          rw [HR.out]
          go_wp2_with fail
          go_ret3
          exact ⟨by rw [HF.out]; rfl, below_step (below_step hb1 hb2) hb3⟩
      | false =>
        have hnb := Adr.not_numIn_32 hin
        rw [Adr.good_no (fun h => hnb ⟨h.2.1, h.2.2.1⟩), if_neg (by simp)] at hp
        have HNR := Lib.hid (numRet_no (s := ⟨r.toArray⟩) (by rw [data_mk]; exact hin))
        have HF := Lib.hid (show preRet (Adr.pre s.data.toList) = .tuple #[.int .i64 0, .int .i64 0, .bool false] by rw [hp]; exact preRet_no)
        clear hp hin hnb
        go_enter Tryd.func23, Tryd.ntmps23
        go_wp2_with fail
        refine (cut_hit s 47 a r _ hE hs HL.out ha).mono ?_
        rintro e w1 ⟨rfl, hb1⟩
        go_wp2_with fail
        refine (HI.out _ (hE.below hb1)).mono ?_
        rintro e w2 ⟨rfl, hb2⟩
        rw [HIR.out]
        go_wp2_with fail
        refine (HN.out _ ((hE.below hb1).below hb2)).mono ?_
        rintro e w3 ⟨rfl, hb3⟩
        rw [HNR.out]
        go_wp2_with fail
        go_ret3
        exact ⟨by rw [HF.out]; rfl, below_step (below_step hb1 hb2) hb3⟩
    · have HIR := Lib.hid (okRet_no (n := Adr.ip a) (by omega))
      rw [Adr.good_no (fun h => hip h.1), if_neg (by simp)] at hp
      have HF := Lib.hid (show preRet (Adr.pre s.data.toList) = .tuple #[.int .i64 0, .int .i64 0, .bool false] by rw [hp]; exact preRet_no)
      clear hp
      have HNR : Hid (∃ x y, numRet ⟨r.toArray⟩ 0 32 = .tuple #[.int .i64 x, .bool y]) := Lib.hid ⟨_, _, rfl⟩
      obtain ⟨x, y, hxy⟩ := HNR.out
      have HNR' := Lib.hid hxy
      clear hxy HNR hip
      go_enter Tryd.func23, Tryd.ntmps23
      go_wp2_with fail
      refine (cut_hit s 47 a r _ hE hs HL.out ha).mono ?_
      rintro e w1 ⟨rfl, hb1⟩
      go_wp2_with fail
      refine (HI.out _ (hE.below hb1)).mono ?_
      rintro e w2 ⟨rfl, hb2⟩
      rw [HIR.out]
      go_wp2_with fail
      refine (HN.out _ ((hE.below hb1).below hb2)).mono ?_
      rintro e w3 ⟨rfl, hb3⟩
      rw [HNR'.out]
      go_wp2_with fail
      go_ret3
      exact ⟨by rw [HF.out]; rfl, below_step (below_step hb1 hb2) hb3⟩
  · have HF := Lib.hid (show preRet (Adr.pre s.data.toList) = .tuple #[.int .i64 0, .int .i64 0, .bool false] by rw [Adr.pre_miss _ hc]; exact preRet_no)
    obtain ⟨x, y, hxy⟩ : ∃ x y, okRet (Adr.ip s.data.toList) = .tuple #[.int .i64 x, .bool y] := ⟨_, _, rfl⟩
    have HIR := Lib.hid hxy
    obtain ⟨x', y', hxy'⟩ : ∃ x y, numRet ⟨#[]⟩ 0 32 = .tuple #[.int .i64 x, .bool y] := ⟨_, _, rfl⟩
    have HNR := Lib.hid hxy'
    clear hxy hxy'
    have HC := Lib.hid hc
    clear hc
    go_enter Tryd.func23, Tryd.ntmps23
    go_wp2_with fail
    refine (cut_no s 47 _ hE hs HC.out).mono ?_
    rintro e w1 ⟨rfl, hb1⟩
    go_wp2_with fail
    refine (ip_any s _ (hE.below hb1) hs).mono ?_
    rintro e w2 ⟨rfl, hb2⟩
    rw [HIR.out]
    go_wp2_with fail
    refine (num_any ⟨#[]⟩ 0 32 _ ((hE.below hb1).below hb2) (by decide)).mono ?_
    rintro e w3 ⟨rfl, hb3⟩
    rw [HNR.out]
    go_wp2_with fail
    go_ret3
    exact ⟨by rw [HF.out]; rfl, below_step (below_step hb1 hb2) hb3⟩

set_option maxHeartbeats 1000000 in
set_option maxRecDepth 100000 in
theorem refPre_any (s : ByteArray) (w : World) (hs : s.size ≤ 100000000) :
    Calls Tryd.prog 16 #[.string s] w fun e w' => e = .returned (.tuple #[.int .i64 (Adr.pre s.data.toList).1, .int .i64 (Adr.pre s.data.toList).2]) ∧ Below w.heap.size w w' := by
  go_enter Tryd.func16, Tryd.ntmps16
  go_wp2_with fail
  refine (parts_any s 47 _ hs).mono ?_
  rintro e w1 ⟨A, cap, rfl, hc1, hc2, hR, hb1⟩
  have hps := Adr.parts_short 47 s.data.toList
  rw [size_data] at hps
  by_cases h2 : (Adr.parts 47 s.data.toList).length = 2
  · have htwo := Adr.pre_two s.data.toList
    generalize Adr.parts 47 s.data.toList = L at *
    match L, h2 with
    | [a, b], _ =>
      have hp := htwo a b rfl
      have hla := hps a (by simp)
      have hlb := hps b (by simp)
      clear htwo hps h2
      obtain ⟨ad, hA, had, hcl⟩ := hR.2 (by simp)
      subst hA
      have hc0 := hcl 0 _ rfl
      have hc1' : w1.cell? ⟨ad.block, ad.off + 1, none⟩ = some (.string ⟨b.toArray⟩) := hcl 1 _ rfl
      have e0 : ad.add 0 = ad := rfl
      rw [e0] at hc0
      clear hcl hR e0
      have HP := Lib.hid hp
      clear hp
      have HI := Lib.hid (show ∀ W, Calls Tryd.prog 32 #[.string ⟨a.toArray⟩] W fun e w' => e = .returned (.int .i64 (Adr.ip a)) ∧ Below W.heap.size W w' from
        fun W => by
          have := refIp_any ⟨a.toArray⟩ W (by rw [size_mk]; omega)
          rw [data_mk] at this; exact this)
      have HN := Lib.hid (show ∀ W, Calls Tryd.prog 33 #[.string ⟨b.toArray⟩] W fun e w' => e = .returned (.int .i64 (Adr.num b)) ∧ W = w' from
        fun W => by
          have := refNum_any ⟨b.toArray⟩ W (by rw [size_mk]; unfold maxLen; omega)
          rw [data_mk] at this; exact this)
      have Hb1 := Lib.hid hb1
      have had1 : (⟨ad.block, ad.off + 1, none⟩ : Addr).block < w1.heap.size := had
      clear hb1 hla hlb
      go_wp2_with fail
      go_region_held3 (fun W => W.cell? ad = some (.string ⟨a.toArray⟩) ∧ W.cell? ⟨ad.block, ad.off + 1, none⟩ = some (.string ⟨b.toArray⟩)) (first | go_keep | exact ⟨(hbz.cell (p := ad) had).trans hc0, (hbz.cell (p := ⟨ad.block, ad.off + 1, none⟩) had1).trans hc1'⟩)
        (first | (go_at_call 32; refine (HI.out _).mono ?_; rintro e W ⟨rfl, hbz⟩) | (go_at_call 33; refine (HN.out _).mono ?_; rintro e W ⟨rfl, rfl⟩))
      have hbw : Below w1.heap.size w1 _ := (Below.refl w1.heap.size w1).drew.trans hbz
      have HB := Lib.hid (below_step Hb1.out hbw)
      clear hbw hbz hc0 hc1' had had1
      have fin : ∀ x y : Int, Adr.pre s.data.toList = (x, y) → Hid (Ending.returned (.tuple #[.int .i64 (Adr.pre s.data.toList).1, .int .i64 (Adr.pre s.data.toList).2]) = Ending.returned (.tuple #[.int .i64 x, .int .i64 y])) := fun x y e => Lib.hid (by rw [e])
      by_cases h0 : 0 ≤ Adr.ip a
      · by_cases h1 : 0 ≤ Adr.num b
        · by_cases h3 : Adr.num b ≤ 32
          · cases hr : Adr.right (Adr.ip a) (Adr.num b) with
            | true =>
              have HF := fin (Adr.ip a) (Adr.num b) (by rw [HP.out, Adr.good_right hr]; rfl)
              have HR := Lib.hid hr
              clear hr fin
              go_wp2_with (go_at_call 34; refine (refRight_any _ _ _).mono ?_; rintro e w4 ⟨rfl, rfl⟩; rw [HR.out])
              go_ret2
              exact ⟨HF.out.symm, HB.out⟩
            | false =>
              have HF := fin (-1) 0 (by rw [HP.out, Adr.good_no (by rw [hr]; simp)]; rfl)
              have HR := Lib.hid hr
              clear hr fin
              go_wp2_with (go_at_call 34; refine (refRight_any _ _ _).mono ?_; rintro e w4 ⟨rfl, rfl⟩; rw [HR.out])
              go_ret2
              exact ⟨HF.out.symm, HB.out⟩
          · have HF := fin (-1) 0 (by rw [HP.out, Adr.good_no (fun h => h3 h.2.2.1)]; rfl)
            have h3' : 32 < Adr.num b := by omega
            clear fin h3
            go_wp2_with fail
            go_ret2
            exact ⟨HF.out.symm, HB.out⟩
        · have HF := fin (-1) 0 (by rw [HP.out, Adr.good_no (fun h => h1 h.2.1)]; rfl)
          have h1' : Adr.num b < 0 := by omega
          clear fin h1
          go_wp2_with fail
          go_ret2
          exact ⟨HF.out.symm, HB.out⟩
      · have HF := fin (-1) 0 (by rw [HP.out, Adr.good_no (fun h => h0 h.1)]; rfl)
        have h0' : Adr.ip a < 0 := by omega
        clear fin h0
        go_wp2_with fail
        go_ret2
        exact ⟨HF.out.symm, HB.out⟩
  · have HF := Lib.hid (Adr.pre_parts _ h2)
    have hne : (((Adr.parts 47 s.data.toList).length : Int) == 2) = false := by rw [beq_eq_false_iff_ne]; omega
    clear h2
    go_wp2_with fail
    go_ret2
    exact ⟨by rw [HF.out]; rfl, hb1⟩
end Go.Proofs.YtlojeeakjgalpaaDoor
