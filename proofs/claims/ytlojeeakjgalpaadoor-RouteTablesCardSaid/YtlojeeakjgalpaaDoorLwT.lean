/- A walk: the law RouteTables. -/
import Derived.Test.YtlojeeakjgalpaaDoorNbr
import Derived.Test.YtlojeeakjgalpaaDoorOpn
import Derived.Test.YtlojeeakjgalpaaDoorLwL
namespace Rte
open Go Adr
theorem in_own {n b : Int} (h : right n b = true) : isIn n b n = true := by
  have hr := h
  unfold right at hr
  simp only [Bool.and_eq_true, decide_eq_true_eq] at hr
  unfold isIn
  simp only [Bool.and_eq_true, decide_eq_true_eq]
  exact ⟨⟨⟨h, hr.1.1.1.1⟩, hr.1.1.1.2⟩, trivial⟩
/-- A route's own first address finds a route. -/
theorem lk_first {L : List Ent} {x : Ent} (hx : x ∈ L) (hk : x.kind = 4) (h0 : 0 ≤ (pfx x).1) : 0 ≤ (lk L x.host (pfx x).1).1 := by
  have hr := (pre_fore (bs x.key) h0).1
  have hh : hit x.host (pfx x).1 x = true := by
    unfold hit
    have hi : isIn (pfx x).1 (pfx x).2 (pfx x).1 = true := in_own hr
    rw [hi]; simp [hk, h0]
  have := lk_max L x.host (pfx x).1 x hx hh
  have hb := hit_bits hh
  omega
theorem rules_mem {L : List Ent} {h : ByteArray} {R : List Nat} (hR : RulesOf L h R) (i : Nat) (hi : i < L.length) : decide (i ∈ R) = decide (0 < rule h L[i]) := by
  rw [decide_eq_decide, hR.1.mem_iff, mem_spots, keyAt_lt hi]
  simp [hi]
end Rte
namespace Go.Proofs.YtlojeeakjgalpaaDoor
open Go Go.RowKit Rte

theorem mem_take_succ {R : List Nat} {k i : Nat} (hk : k < R.length) : decide (i ∈ R.take (k + 1)) = (decide (i ∈ R.take k) || decide (R[k] = i)) := by
  rw [List.take_succ_eq_append_getElem hk, Bool.eq_iff_iff]
  simp only [decide_eq_true_eq, List.mem_append, List.mem_singleton, Bool.or_eq_true]
  constructor
  · rintro (h | h)
    · exact .inl h
    · exact .inr h.symm
  · rintro (h | h)
    · exact .inl h
    · exact .inr h.symm

set_option maxHeartbeats 4000000 in
set_option maxRecDepth 100000 in
theorem routeTables_any (A : Option Addr) (cap : Nat) (L : List Ent) (w : World) (hE : Env w) (hR : Rd w 4 A L.length (ents L)) (hcap : L.length ≤ cap) (hcm : cap ≤ maxLen) :
    Calls Tryd.prog 7 #[.slice A L.length cap] w fun e w' => e = .returned (.bool true) ∧ Below w.heap.size w w' := by
  have HF := Lib.hid (few_any A cap L w hR hcap hcm)
  have HCM := Lib.hid hcm
  unfold maxLen at hcm
  go_enter Tryd.func7, Tryd.ntmps7
  go_wp2_with fail
  refine HF.out.mono ?_
  rintro e w1 ⟨rfl, hb1⟩
  have hE1 := hE.below hb1
  have hR1 := hR.below hb1
  have HB1 := Lib.hid hb1
  have HFA : Hid (fewB L = true → L.length ≤ 60 ∧ ∀ e ∈ L, e.host.size ≤ 100 ∧ e.key.size ≤ 100 ∧ e.val.size ≤ 100) := fewB_all
  clear hE hR hb1 HF
  generalize fewB L = fb at *
  cases fb with
  | false =>
    go_wp2_with fail
    refine (awake15_any _ hE1).mono ?_
    rintro e w2 ⟨rfl, hb2⟩
    go_wp2_with fail
    go_ret
    exact ⟨rfl, below_step HB1.out hb2⟩
  | true =>
    have HK := Lib.hid (HFA.out rfl).2
    have hl60 := (HFA.out rfl).1
    have HE1 := Lib.hid hE1
    have HR1 := Lib.hid hR1
    clear HFA hE1 hR1
    go_wp2
    go_loopw [18] (fun vi wr => ∃ k : Nat, k ≤ L.length ∧ vi = .int .i64 k ∧ Hid (Below w1.heap.size w1 wr)) (fun vi _ => L.length - (intOf vi).toNat)
    case atStart => exact ⟨0, Nat.zero_le _, rfl, Below.refl _ _⟩
    case round =>
      obtain ⟨k, hk, rfl, HB⟩ := hrel
      by_cases hlt : k < L.length
      · obtain ⟨B, O, rfl, hab, hadd, x0, x1, x2, x3⟩ := (HR1.out.below HB.out).ent hlt
        have hsz := HK.out _ (List.getElem_mem hlt)
        have HP := Lib.hid (show ∀ W, _ from fun W => refPre_any L[k].key W (by omega))
        have HLK := Lib.hid (show ∀ ip W, Env W → Rd W 4 (some ⟨B, O, none⟩) L.length (ents L) → _ from fun ip W hW hr => lookup_any (some ⟨B, O, none⟩) cap L L[k].host ip W hW hr hcap HCM.out fun e he => by have := (HK.out e he).2.1; omega)
        have HRU := Lib.hid (show ∀ W, Env W → Rd W 4 (some ⟨B, O, none⟩) L.length (ents L) → _ from fun W hW hr => rules_any (some ⟨B, O, none⟩) cap L L[k].host W hW hr hcap HCM.out (by omega) fun e he => by have := (HK.out e he).2; omega)
        have HNB := Lib.hid (show ∀ W, _ from fun W => number_any L[k] L[k].host W (by omega) (by omega))
        have HFI : Hid (L[k].kind = 4 → 0 ≤ (pfx L[k]).1 → 0 ≤ (lk L L[k].host (pfx L[k]).1).1) := fun h4 h0 => lk_first (List.getElem_mem hlt) h4 h0
        have HRM : Hid (∀ R, RulesOf L L[k].host R → decide (k ∈ R) = decide (0 < rule L[k].host L[k])) := fun R hRO => rules_mem hRO k hlt
        generalize L[k] = x at *
        go_wp2_with fail
        refine (HP.out _).mono ?_
        rintro e w2 ⟨rfl, hb2⟩
        obtain ⟨g0, g1, g2, g3⟩ := box_cells x hb2
        have HB2 : Hid (Below w1.heap.size w1 w2) := HB.out.trans (((Below.refl _ _).alloc (Nat.le_refl _) _).trans (hb2.mono (by simp)) |>.mono HB.out.size)
        have hbl : wr.heap.size < w2.heap.size := Nat.lt_of_lt_of_le (by simp) hb2.size
        have HX : Hid (Adr.pre x.key.data.toList = pfx x) := rfl
        rw [HX.out]
        clear hb2 x0 x1 x2 x3 HB HP HX hadd
        generalize wr.heap.size = bx at g0 g1 g2 g3 hbl ⊢
        generalize (pfx x).1 = n at *
        generalize (pfx x).2 = m at *
        have hE2 := HE1.out.below HB2.out
        have hR2 := HR1.out.below HB2.out
        by_cases hc : x.kind = 4 ∧ 0 ≤ n
        · obtain ⟨hk4, hn0⟩ := hc
          have hok := HFI.out hk4 hn0
          have hk4b : (x.kind == 4) = true := by rw [beq_iff_eq]; exact hk4
          have HC := Lib.hid (HLK.out n w2 hE2 hR2)
          rw [decide_eq_true hok] at HC
          clear hok hk4
          generalize (lk L x.host n).2 = sv at *
          go_wp2_with fail
          refine HC.out.mono ?_
          rintro e w3 ⟨rfl, hb3⟩
          have hE3 := hE2.below hb3
          have hR3 := hR2.below hb3
          have f0 := (hb3.cell (p := ⟨bx, 0, none⟩) hbl).trans g0
          have f1 := (hb3.cell (p := ⟨bx, 1, none⟩) hbl).trans g1
          have f2 := (hb3.cell (p := ⟨bx, 2, none⟩) hbl).trans g2
          have f3 := (hb3.cell (p := ⟨bx, 3, none⟩) hbl).trans g3
          have hl3 : bx < w3.heap.size := Nat.lt_of_lt_of_le hbl hb3.size
          have HB3 : Hid (Below w1.heap.size w1 w3) := below_step HB2.out hb3
          clear hE2 hR2 hb3 g0 g1 g2 g3 hbl HB2 HC
          go_wp2_with fail
          refine (HRU.out _ hE3 hR3).mono ?_
          rintro e w4 ⟨A4, c4, R, rfl, n1, n2, hRd, hRO, hb4⟩
          have j0 := (hb4.cell (p := ⟨bx, 0, none⟩) hl3).trans f0
          have j1 := (hb4.cell (p := ⟨bx, 1, none⟩) hl3).trans f1
          have j2 := (hb4.cell (p := ⟨bx, 2, none⟩) hl3).trans f2
          have j3 := (hb4.cell (p := ⟨bx, 3, none⟩) hl3).trans f3
          have hl4 : bx < w4.heap.size := Nat.lt_of_lt_of_le hl3 hb4.size
          have HB4 : Hid (Below w1.heap.size w1 w4) := below_step HB3.out hb4
          have HRF := Lib.hid (HRM.out R hRO)
          have HRD := Lib.hid hRd
          unfold maxLen at n2
          clear hE3 hR3 hRd hRO hb4 f0 f1 f2 f3 HB3 HRU HRM hl3
          go_wp2
          go_loopw [9, 51] (fun vb vj wr => ∃ j : Nat, j ≤ R.length ∧ vj = .int .i64 j ∧ vb = .bool (decide (k ∈ R.take j)) ∧ wr = w4) (fun _ vj _ => R.length - (intOf vj).toNat)
          case atStart => exact ⟨0, Nat.zero_le _, rfl, by simp, rfl⟩
          case round =>
            obtain ⟨j, hj, rfl, rfl, rfl⟩ := hrel
            by_cases hjl : j < R.length
            · have hn : (nats R)[j]? = some (pl R[j]) := by rw [nats_get R j hjl]; simp [hjl]
              obtain ⟨ad, rfl, had, hcell⟩ := HRD.out.cell hn
              have HTS : Hid _ := mem_take_succ (R := R) (k := j) (i := k) hjl
              have hdk : ((R[j] : Int) == (k : Int)) = decide (R[j] = k) := by
                rw [Bool.eq_iff_iff, beq_iff_eq, decide_eq_true_eq]; omega
              generalize R[j] = rj at *
              generalize decide (k ∈ R.take j) = tj at *
              cases tj with
              | true =>
                have hv : Hid (decide (k ∈ R.take (j + 1)) = true) := by show _ = _; rw [HTS.out]; rfl
                clear HTS hdk hn
                go_wp2_with fail
                all_goals
                  go_roundw
                  case rel => exact ⟨j + 1, by omega, by go_num, by rw [hv.out], by first | trivial | rfl⟩
                  case measure => simp [intOf]; omega
              | false =>
                by_cases hjk : rj = k
                · have hv : Hid (decide (k ∈ R.take (j + 1)) = true) := by show _ = _; rw [HTS.out, decide_eq_true hjk]; rfl
                  rw [decide_eq_true hjk] at hdk
                  clear HTS hn hjk
                  go_wp2_with fail
                  all_goals
                    go_roundw
                    case rel => exact ⟨j + 1, by omega, by go_num, by rw [hv.out], by first | trivial | rfl⟩
                    case measure => simp [intOf]; omega
                · have hv : Hid (decide (k ∈ R.take (j + 1)) = false) := by show _ = _; rw [HTS.out, decide_eq_false hjk]; rfl
                  rw [decide_eq_false hjk] at hdk
                  clear HTS hn hjk
                  go_wp2_with fail
                  all_goals
                    go_roundw
                    case rel => exact ⟨j + 1, by omega, by go_num, by rw [hv.out], by first | trivial | rfl⟩
                    case measure => simp [intOf]; omega
            · obtain rfl : j = R.length := by omega
              rw [List.take_of_length_le (Nat.le_refl _), HRF.out]
              go_wp2_with fail
              refine (HNB.out _).mono ?_
              rintro e w5 ⟨rfl, hb5⟩
              have HB5 : Hid (Below w1.heap.size w1 w5) := below_step HB4.out hb5
              clear hb5 HB4 HNB HRF HRD HFI HLK
              generalize rule x.host x = rr at *
              by_cases hrr : 0 < rr
              · have hd : decide (0 < rr) = true := decide_eq_true hrr
                rw [hd]
                go_wp2_with fail
                all_goals
                  go_roundw
                  case rel => exact ⟨k + 1, by omega, by go_num, HB5⟩
                  case measure => simp [intOf]; omega
              · have hd : decide (0 < rr) = false := decide_eq_false hrr
                rw [hd]
                go_wp2_with fail
                all_goals
                  go_roundw
                  case rel => exact ⟨k + 1, by omega, by go_num, HB5⟩
                  case measure => simp [intOf]; omega
        · have hE3 := hE2
          have hR3 := hR2
          have f0 := g0
          have f1 := g1
          have f2 := g2
          have f3 := g3
          have hl3 := hbl
          have HB3 := HB2
          clear hE2 hR2 g0 g1 g2 g3 hbl HB2
          have hcc : (x.kind == 4) = false ∨ ((x.kind == 4) = true ∧ n < 0) := by
            by_cases h4 : x.kind = 4
            · exact .inr ⟨by rw [beq_iff_eq]; exact h4, by have := fun h0 => hc ⟨h4, h0⟩; omega⟩
            · exact .inl (by rw [beq_eq_false_iff_ne]; exact h4)
          clear hc
          rcases hcc with h4 | ⟨h4, hn0⟩
          · go_wp2_with fail
            refine (HRU.out _ hE3 hR3).mono ?_
            rintro e w4 ⟨A4, c4, R, rfl, n1, n2, hRd, hRO, hb4⟩
            have j0 := (hb4.cell (p := ⟨bx, 0, none⟩) hl3).trans f0
            have j1 := (hb4.cell (p := ⟨bx, 1, none⟩) hl3).trans f1
            have j2 := (hb4.cell (p := ⟨bx, 2, none⟩) hl3).trans f2
            have j3 := (hb4.cell (p := ⟨bx, 3, none⟩) hl3).trans f3
            have hl4 : bx < w4.heap.size := Nat.lt_of_lt_of_le hl3 hb4.size
            have HB4 : Hid (Below w1.heap.size w1 w4) := below_step HB3.out hb4
            have HRF := Lib.hid (HRM.out R hRO)
            have HRD := Lib.hid hRd
            unfold maxLen at n2
            clear hE3 hR3 hRd hRO hb4 f0 f1 f2 f3 HB3 HRU HRM hl3
            go_wp2
            go_loopw [9, 51] (fun vb vj wr => ∃ j : Nat, j ≤ R.length ∧ vj = .int .i64 j ∧ vb = .bool (decide (k ∈ R.take j)) ∧ wr = w4) (fun _ vj _ => R.length - (intOf vj).toNat)
            case atStart => exact ⟨0, Nat.zero_le _, rfl, by simp, rfl⟩
            case round =>
              obtain ⟨j, hj, rfl, rfl, rfl⟩ := hrel
              by_cases hjl : j < R.length
              · have hn : (nats R)[j]? = some (pl R[j]) := by rw [nats_get R j hjl]; simp [hjl]
                obtain ⟨ad, rfl, had, hcell⟩ := HRD.out.cell hn
                have HTS : Hid _ := mem_take_succ (R := R) (k := j) (i := k) hjl
                have hdk : ((R[j] : Int) == (k : Int)) = decide (R[j] = k) := by
                  rw [Bool.eq_iff_iff, beq_iff_eq, decide_eq_true_eq]; omega
                generalize R[j] = rj at *
                generalize decide (k ∈ R.take j) = tj at *
                cases tj with
                | true =>
                  have hv : Hid (decide (k ∈ R.take (j + 1)) = true) := by show _ = _; rw [HTS.out]; rfl
                  clear HTS hdk hn
                  go_wp2_with fail
                  all_goals
                    go_roundw
                    case rel => exact ⟨j + 1, by omega, by go_num, by rw [hv.out], by first | trivial | rfl⟩
                    case measure => simp [intOf]; omega
                | false =>
                  by_cases hjk : rj = k
                  · have hv : Hid (decide (k ∈ R.take (j + 1)) = true) := by show _ = _; rw [HTS.out, decide_eq_true hjk]; rfl
                    rw [decide_eq_true hjk] at hdk
                    clear HTS hn hjk
                    go_wp2_with fail
                    all_goals
                      go_roundw
                      case rel => exact ⟨j + 1, by omega, by go_num, by rw [hv.out], by first | trivial | rfl⟩
                      case measure => simp [intOf]; omega
                  · have hv : Hid (decide (k ∈ R.take (j + 1)) = false) := by show _ = _; rw [HTS.out, decide_eq_false hjk]; rfl
                    rw [decide_eq_false hjk] at hdk
                    clear HTS hn hjk
                    go_wp2_with fail
                    all_goals
                      go_roundw
                      case rel => exact ⟨j + 1, by omega, by go_num, by rw [hv.out], by first | trivial | rfl⟩
                      case measure => simp [intOf]; omega
              · obtain rfl : j = R.length := by omega
                rw [List.take_of_length_le (Nat.le_refl _), HRF.out]
                go_wp2_with fail
                refine (HNB.out _).mono ?_
                rintro e w5 ⟨rfl, hb5⟩
                have HB5 : Hid (Below w1.heap.size w1 w5) := below_step HB4.out hb5
                clear hb5 HB4 HNB HRF HRD HFI HLK
                generalize rule x.host x = rr at *
                by_cases hrr : 0 < rr
                · have hd : decide (0 < rr) = true := decide_eq_true hrr
                  rw [hd]
                  go_wp2_with fail
                  all_goals
                    go_roundw
                    case rel => exact ⟨k + 1, by omega, by go_num, HB5⟩
                    case measure => simp [intOf]; omega
                · have hd : decide (0 < rr) = false := decide_eq_false hrr
                  rw [hd]
                  go_wp2_with fail
                  all_goals
                    go_roundw
                    case rel => exact ⟨k + 1, by omega, by go_num, HB5⟩
                    case measure => simp [intOf]; omega
          · go_wp2_with fail
            refine (HRU.out _ hE3 hR3).mono ?_
            rintro e w4 ⟨A4, c4, R, rfl, n1, n2, hRd, hRO, hb4⟩
            have j0 := (hb4.cell (p := ⟨bx, 0, none⟩) hl3).trans f0
            have j1 := (hb4.cell (p := ⟨bx, 1, none⟩) hl3).trans f1
            have j2 := (hb4.cell (p := ⟨bx, 2, none⟩) hl3).trans f2
            have j3 := (hb4.cell (p := ⟨bx, 3, none⟩) hl3).trans f3
            have hl4 : bx < w4.heap.size := Nat.lt_of_lt_of_le hl3 hb4.size
            have HB4 : Hid (Below w1.heap.size w1 w4) := below_step HB3.out hb4
            have HRF := Lib.hid (HRM.out R hRO)
            have HRD := Lib.hid hRd
            unfold maxLen at n2
            clear hE3 hR3 hRd hRO hb4 f0 f1 f2 f3 HB3 HRU HRM hl3
            go_wp2
            go_loopw [9, 51] (fun vb vj wr => ∃ j : Nat, j ≤ R.length ∧ vj = .int .i64 j ∧ vb = .bool (decide (k ∈ R.take j)) ∧ wr = w4) (fun _ vj _ => R.length - (intOf vj).toNat)
            case atStart => exact ⟨0, Nat.zero_le _, rfl, by simp, rfl⟩
            case round =>
              obtain ⟨j, hj, rfl, rfl, rfl⟩ := hrel
              by_cases hjl : j < R.length
              · have hn : (nats R)[j]? = some (pl R[j]) := by rw [nats_get R j hjl]; simp [hjl]
                obtain ⟨ad, rfl, had, hcell⟩ := HRD.out.cell hn
                have HTS : Hid _ := mem_take_succ (R := R) (k := j) (i := k) hjl
                have hdk : ((R[j] : Int) == (k : Int)) = decide (R[j] = k) := by
                  rw [Bool.eq_iff_iff, beq_iff_eq, decide_eq_true_eq]; omega
                generalize R[j] = rj at *
                generalize decide (k ∈ R.take j) = tj at *
                cases tj with
                | true =>
                  have hv : Hid (decide (k ∈ R.take (j + 1)) = true) := by show _ = _; rw [HTS.out]; rfl
                  clear HTS hdk hn
                  go_wp2_with fail
                  all_goals
                    go_roundw
                    case rel => exact ⟨j + 1, by omega, by go_num, by rw [hv.out], by first | trivial | rfl⟩
                    case measure => simp [intOf]; omega
                | false =>
                  by_cases hjk : rj = k
                  · have hv : Hid (decide (k ∈ R.take (j + 1)) = true) := by show _ = _; rw [HTS.out, decide_eq_true hjk]; rfl
                    rw [decide_eq_true hjk] at hdk
                    clear HTS hn hjk
                    go_wp2_with fail
                    all_goals
                      go_roundw
                      case rel => exact ⟨j + 1, by omega, by go_num, by rw [hv.out], by first | trivial | rfl⟩
                      case measure => simp [intOf]; omega
                  · have hv : Hid (decide (k ∈ R.take (j + 1)) = false) := by show _ = _; rw [HTS.out, decide_eq_false hjk]; rfl
                    rw [decide_eq_false hjk] at hdk
                    clear HTS hn hjk
                    go_wp2_with fail
                    all_goals
                      go_roundw
                      case rel => exact ⟨j + 1, by omega, by go_num, by rw [hv.out], by first | trivial | rfl⟩
                      case measure => simp [intOf]; omega
              · obtain rfl : j = R.length := by omega
                rw [List.take_of_length_le (Nat.le_refl _), HRF.out]
                go_wp2_with fail
                refine (HNB.out _).mono ?_
                rintro e w5 ⟨rfl, hb5⟩
                have HB5 : Hid (Below w1.heap.size w1 w5) := below_step HB4.out hb5
                clear hb5 HB4 HNB HRF HRD HFI HLK
                generalize rule x.host x = rr at *
                by_cases hrr : 0 < rr
                · have hd : decide (0 < rr) = true := decide_eq_true hrr
                  rw [hd]
                  go_wp2_with fail
                  all_goals
                    go_roundw
                    case rel => exact ⟨k + 1, by omega, by go_num, HB5⟩
                    case measure => simp [intOf]; omega
                · have hd : decide (0 < rr) = false := decide_eq_false hrr
                  rw [hd]
                  go_wp2_with fail
                  all_goals
                    go_roundw
                    case rel => exact ⟨k + 1, by omega, by go_num, HB5⟩
                    case measure => simp [intOf]; omega
      · obtain rfl : k = L.length := by omega
        go_wp2_with fail
        refine (awake15_any _ (HE1.out.below HB.out)).mono ?_
        rintro e w5 ⟨rfl, hb5⟩
        have HF5 : Hid (Below w.heap.size w w5) := below_step HB1.out (below_step HB.out hb5)
        go_wp2_with fail
        go_ret
        exact ⟨rfl, HF5.out⟩
end Go.Proofs.YtlojeeakjgalpaaDoor
