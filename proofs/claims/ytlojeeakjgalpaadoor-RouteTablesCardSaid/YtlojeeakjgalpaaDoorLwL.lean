/- A walk: the law RouteLong. -/
import Derived.Test.YtlojeeakjgalpaaDoorAwf
import Derived.Test.YtlojeeakjgalpaaDoorOpn
import Derived.Test.YtlojeeakjgalpaaDoorTxtW
namespace Rte
open Go Adr
/-- The law's own search: the greatest length, and whether one of it bears the answer. -/
def lgStep (h : ByteArray) (ip : Int) (s : ByteArray) (b : Int × Bool) (e : Ent) : Int × Bool :=
  if hit h ip e = true then (if b.1 < (pfx e).2 then ((pfx e).2, decide (e.val = s)) else (b.1, b.2 || (decide ((pfx e).2 = b.1) && decide (e.val = s)))) else b
def lg (L : List Ent) (h : ByteArray) (ip : Int) (s : ByteArray) : Int × Bool := L.foldl (lgStep h ip s) (-1, false)
theorem lg_snoc (L : List Ent) (e : Ent) (h : ByteArray) (ip : Int) (s : ByteArray) : lg (L ++ [e]) h ip s = lgStep h ip s (lg L h ip s) e := by unfold lg; rw [List.foldl_append]; rfl
theorem lk_max (L : List Ent) (h : ByteArray) (ip : Int) : ∀ e ∈ L, hit h ip e = true → (pfx e).2 ≤ (lk L h ip).1 := by
  intro e he hh
  rcases lk_spec L h ip with ⟨h1, h2⟩ | ⟨x, hx, h1, h2, h3⟩
  · rw [h2 e he] at hh; cases hh
  · rw [h2]; exact h3 e he hh
theorem lg_spec (L : List Ent) (h : ByteArray) (ip : Int) (s : ByteArray) : lg L h ip s = ((lk L h ip).1, L.any fun e => hit h ip e && decide ((pfx e).2 = (lk L h ip).1) && decide (e.val = s)) := by
  induction L using snoc_ind with
  | h0 => rfl
  | h1 L x ih =>
    have hmx := lk_max L h ip
    rw [lg_snoc, ih, lk_snoc]
    unfold lgStep lkStep
    by_cases hx : hit h ip x = true
    · rw [if_pos hx]
      by_cases hlt : (lk L h ip).1 < (pfx x).2
      · rw [if_pos hlt, if_pos ⟨hx, hlt⟩, List.any_append]
        have hnone : (L.any fun e => hit h ip e && decide ((pfx e).2 = (pfx x).2) && decide (e.val = s)) = false := by
          rw [List.any_eq_false]
          intro e he hc
          simp only [Bool.and_eq_true, decide_eq_true_eq] at hc
          have := hmx e he hc.1.1
          omega
        rw [hnone]
        simp [hx]
      · rw [if_neg hlt, if_neg fun hc => hlt hc.2, List.any_append]
        simp [hx]
    · have hf : hit h ip x = false := by simpa using hx
      rw [if_neg hx, if_neg fun hc => hx hc.1, List.any_append]
      simp [hf]
/-- The law's last line. -/
theorem lg_ok (L : List Ent) (h : ByteArray) (ip : Int) :
    (lk L h ip).1 = (lg L h ip (lk L h ip).2).1 ∧ ((lk L h ip).1 < 0 → (lk L h ip).2 = ⟨#[]⟩) ∧ (0 ≤ (lk L h ip).1 → (lg L h ip (lk L h ip).2).2 = true) := by
  rw [lg_spec]
  refine ⟨rfl, fun hn => ?_, fun hp => ?_⟩
  · rcases lk_spec L h ip with ⟨h1, -⟩ | ⟨e, he, h1, h2, -⟩
    · rw [h1]
    · rw [h2] at hn
      have := hit_bits h1
      change (pfx e).2 < 0 at hn
      omega
  · rcases lk_spec L h ip with ⟨h1, -⟩ | ⟨e, he, h1, h2, -⟩
    · rw [h1] at hp; change (0 : Int) ≤ -1 at hp; omega
    · rw [List.any_eq_true]
      refine ⟨e, he, ?_⟩
      rw [h2]; simp [h1]
end Rte
namespace Go.Proofs.YtlojeeakjgalpaaDoor
open Go Go.RowKit Rte

set_option maxHeartbeats 4000000 in
set_option maxRecDepth 100000 in
theorem routeLong_any (A : Option Addr) (cap : Nat) (L : List Ent) (h : ByteArray) (ip : Int) (w : World) (hE : Env w) (hR : Rd w 4 A L.length (ents L)) (hcap : L.length ≤ cap) (hcm : cap ≤ maxLen) (hh : h.size ≤ maxLen) :
    Calls Tryd.prog 5 #[.slice A L.length cap, .string h, .int .i64 ip] w fun e w' => e = .returned (.bool true) ∧ Below w.heap.size w w' := by
  have HF := Lib.hid (few_any A cap L w hR hcap hcm)
  have HCM := Lib.hid hcm
  unfold maxLen at hcm hh
  go_enter Tryd.func5, Tryd.ntmps5
  go_wp2_with fail
  refine HF.out.mono ?_
  rintro e w1 ⟨rfl, hb1⟩
  have hE1 := hE.below hb1
  have hR1 := hR.below hb1
  have HB1 := Lib.hid hb1
  have HFA : Hid (fewB L = true → L.length ≤ 60 ∧ ∀ e ∈ L, e.host.size ≤ 100 ∧ e.key.size ≤ 100 ∧ e.val.size ≤ 100) := fewB_all
  clear hE hR hb1 HF
  generalize fewB L = fb at *
  cases fb with
  | false =>
    go_wp2_with fail
    refine (awake15_any _ hE1).mono ?_
    rintro e w2 ⟨rfl, hb2⟩
    go_wp2_with fail
    go_ret
    exact ⟨rfl, below_step HB1.out hb2⟩
  | true =>
    by_cases h100 : 100 < h.size
    · have h100z : (100 : Int) < (h.size : Int) := by omega
      go_wp2_with fail
      refine (awake15_any _ hE1).mono ?_
      rintro e w2 ⟨rfl, hb2⟩
      go_wp2_with fail
      go_ret
      exact ⟨rfl, below_step HB1.out hb2⟩
    · have h100z : ¬ (100 : Int) < (h.size : Int) := by omega
      have HK := Lib.hid (HFA.out rfl).2
      have hl60 := (HFA.out rfl).1
      have HL := Lib.hid (lookup_any A cap L h ip w1 hE1 hR1 hcap HCM.out fun e he => by have := (HK.out e he).2.1; omega)
      clear HFA
      go_wp2_with fail
      refine HL.out.mono ?_
      rintro e w2 ⟨rfl, hb2⟩
      have hE2 := hE1.below hb2
      have hR2 := hR1.below hb2
      have HB2 : Hid (Below w.heap.size w w2) := below_step HB1.out hb2
      have HLG := Lib.hid (lg_ok L h ip)
      clear hb2 hE1 hR1 HB1 HL
      generalize (lk L h ip).2 = s at *
      generalize (lk L h ip).1 = b at *
      have HE2 := Lib.hid hE2
      have HR2 := Lib.hid hR2
      clear hE2 hR2
      generalize hok : decide (0 ≤ b) = ok at *
      have HOK := Lib.hid hok
      clear hok
      go_wp2
      go_loopw [9, 10, 33] (fun vb vt vi wr => ∃ (k : Nat) (q : Int) (t : Bool), k ≤ L.length ∧ vi = .int .i64 k ∧ vb = .int .i64 q ∧ vt = .bool t ∧ Hid (lg (L.take k) h ip s = (q, t)) ∧ Hid (Below w2.heap.size w2 wr)) (fun _ _ vi _ => L.length - (intOf vi).toNat)
      case atStart => exact ⟨0, -1, false, Nat.zero_le _, rfl, rfl, rfl, rfl, Below.refl _ _⟩
      case round =>
        obtain ⟨k, q, t, hkl, rfl, rfl, rfl, HQ, HB⟩ := hrel
        by_cases hlt : k < L.length
        · obtain ⟨B, O, rfl, hab, hadd, x0, x1, x2, x3⟩ := (HR2.out.below HB.out).ent hlt
          have HP := Lib.hid (show ∀ W, _ from fun W => refPre_any L[k].key W (by have := (HK.out _ (List.getElem_mem hlt)).2.1; omega))
          have hst : Hid (lg (L.take (k + 1)) h ip s = lgStep h ip s (q, t) L[k]) := by
            show _ = _
            rw [List.take_succ_eq_append_getElem hlt, lg_snoc, HQ.out]
          generalize L[k] = x at *
          go_wp2_with fail
          refine (HP.out _).mono ?_
          rintro e w3 ⟨rfl, hb3⟩
          obtain ⟨g0, g1, g2, g3⟩ := box_cells x hb3
          have HB3 : Hid (Below w2.heap.size w2 w3) := HB.out.trans (((Below.refl _ _).alloc (Nat.le_refl _) _).trans (hb3.mono (by simp)) |>.mono HB.out.size)
          have hbl : wr.heap.size < w3.heap.size := Nat.lt_of_lt_of_le (by simp) hb3.size
          have HX : Hid (Adr.pre x.key.data.toList = pfx x) := rfl
          rw [HX.out]
          clear hb3 x0 x1 x2 x3 HB HP HQ
          generalize wr.heap.size = bx at g0 g1 g2 g3 hbl ⊢
          have HH : Hid (hit h ip x = (decide (x.host = h) && decide (x.kind = 4) && decide (0 ≤ (pfx x).1) && Adr.isIn (pfx x).1 (pfx x).2 ip)) := rfl
          have HS : Hid (lgStep h ip s (q, t) x = if hit h ip x = true then (if q < (pfx x).2 then ((pfx x).2, decide (x.val = s)) else (q, t || (decide ((pfx x).2 = q) && decide (x.val = s)))) else (q, t)) := rfl
          have HI := Lib.hid (show ∀ W, _ from fun W => refIn_any (pfx x).1 (pfx x).2 ip W)
          clear HX
          generalize (pfx x).1 = n at *
          generalize (pfx x).2 = m at *
          have hno : Hid (hit h ip x = false → lg (L.take (k + 1)) h ip s = (q, t)) := fun hf => by rw [hst.out, HS.out, if_neg (by rw [hf]; decide)]
          by_cases hhx : x.host = h
          · have hh2 : x.host.toList = h.toList := by rw [hhx]
            by_cases hk4 : x.kind = 4
            · by_cases hn0 : 0 ≤ n
              · go_wp2_with fail
                refine (HI.out _).mono ?_
                rintro e w4 ⟨rfl, hb4⟩
                rw [← hb4.cell (p := ⟨bx, 3, none⟩) hbl] at g3
                have HB4 : Hid (Below w2.heap.size w2 w4) := below_step HB3.out hb4
                clear hb4 HB3 g0 g1 g2 HI
                cases hin : Adr.isIn n m ip with
                | true =>
                  have hyes : Hid (lg (L.take (k + 1)) h ip s = if q < m then (m, decide (x.val = s)) else (q, t || (decide (m = q) && decide (x.val = s)))) := by
                    show _ = _
                    rw [hst.out, HS.out, HH.out, hin, if_pos]
                    simp [hhx, hk4, hn0]
                  clear hin HH HS hst hno
                  have fin : Hid (∀ t' : Bool, (if q < m then ((m, decide (x.val = s)) : Int × Bool) else (q, t || (decide (m = q) && decide (x.val = s)))) = (max q m, t') → lg (L.take (k + 1)) h ip s = (max q m, t')) := fun t' ht => hyes.out.trans ht
                  clear hyes
                  by_cases hv : x.val = s
                  · have hv2 : x.val.toList = s.toList := by rw [hv]
                    by_cases hqm : q < m
                    · have HR3 := Lib.hid (fin.out true (by rw [if_pos hqm, decide_eq_true hv, show max q m = m by omega]))
                      rw [show max q m = m by omega] at HR3
                      clear fin
                      go_wp2
                      all_goals
                        go_roundw
                        case rel => exact ⟨k + 1, m, true, by omega, by go_num, rfl, rfl, HR3, HB4⟩
                        case measure => simp [intOf]; omega
                    · by_cases hmq : m = q
                      · have HR3 := Lib.hid (fin.out true (by rw [if_neg hqm, decide_eq_true hv, decide_eq_true hmq, show max q m = q by omega]; simp))
                        rw [show max q m = q by omega] at HR3
                        clear fin
                        go_wp2
                        all_goals
                          go_roundw
                          case rel => exact ⟨k + 1, q, true, by omega, by go_num, by first | rfl | (rw [hmq]), by first | rfl | simp, HR3, HB4⟩
                          case measure => simp [intOf]; omega
                      · have HR3 := Lib.hid (fin.out t (by rw [if_neg hqm, decide_eq_false hmq, show max q m = q by omega]; simp))
                        rw [show max q m = q by omega] at HR3
                        have hmq2 : (m == q) = false := by simpa using hmq
                        clear fin
                        go_wp2
                        all_goals
                          go_roundw
                          case rel => exact ⟨k + 1, q, t, by omega, by go_num, rfl, by first | rfl | simp_all, HR3, HB4⟩
                          case measure => simp [intOf]; omega
                  · have hv2 : ¬ x.val.toList = s.toList := bytes_ne hv
                    have hv3 : (x.val.toList == s.toList) = false := by simpa using hv2
                    by_cases hqm : q < m
                    · have HR3 := Lib.hid (fin.out false (by rw [if_pos hqm, decide_eq_false hv, show max q m = m by omega]))
                      rw [show max q m = m by omega] at HR3
                      clear fin
                      go_wp2
                      all_goals
                        go_roundw
                        case rel => exact ⟨k + 1, m, false, by omega, by go_num, rfl, rfl, HR3, HB4⟩
                        case measure => simp [intOf]; omega
                    · have HR3 := Lib.hid (fin.out t (by rw [if_neg hqm, decide_eq_false hv, Bool.and_false, Bool.or_false, show max q m = q by omega]))
                      rw [show max q m = q by omega] at HR3
                      clear fin
                      go_wp2
                      all_goals
                        go_roundw
                        case rel => exact ⟨k + 1, q, t, by omega, by go_num, rfl, by first | rfl | simp_all, HR3, HB4⟩
                        case measure => simp [intOf]; omega
                | false =>
                  have HR3 := Lib.hid (hno.out (by rw [HH.out, hin, Bool.and_false]))
                  clear hin HH HS hst hno
                  go_wp2
                  go_roundw
                  case rel => exact ⟨k + 1, q, t, by omega, by go_num, rfl, rfl, HR3, HB4⟩
                  case measure => simp [intOf]; omega
              · have HR3 := Lib.hid (hno.out (by rw [HH.out, decide_eq_false hn0, Bool.and_false, Bool.false_and]))
                have hn0z : n < 0 := by omega
                clear HH HS hst hno HI
                go_wp2
                all_goals
                  go_roundw
                  case rel => exact ⟨k + 1, q, t, by omega, by go_num, rfl, rfl, HR3, HB3⟩
                  case measure => simp [intOf]; omega
            · have HR3 := Lib.hid (hno.out (by rw [HH.out, decide_eq_false hk4, Bool.and_false, Bool.false_and, Bool.false_and]))
              clear HH HS hst hno HI
              go_wp2
              all_goals
                go_roundw
                case rel => exact ⟨k + 1, q, t, by omega, by go_num, rfl, rfl, HR3, HB3⟩
                case measure => simp [intOf]; omega
          · have HR3 := Lib.hid (hno.out (by rw [HH.out, decide_eq_false hhx, Bool.false_and, Bool.false_and, Bool.false_and]))
            have hh2 : ¬ x.host.toList = h.toList := bytes_ne hhx
            clear HH HS hst hno HI
            go_wp2
            all_goals
              go_roundw
              case rel => exact ⟨k + 1, q, t, by omega, by go_num, rfl, rfl, HR3, HB3⟩
              case measure => simp [intOf]; omega
        · obtain rfl : k = L.length := by omega
          have hq := HQ.out
          rw [List.take_of_length_le (Nat.le_refl _)] at hq
          obtain ⟨l1, l2, l3⟩ := HLG.out
          rw [hq] at l1 l3
          change b = q at l1
          change 0 ≤ b → t = true at l3
          have hE5 := HE2.out.below HB.out
          have HB5 : Hid (Below w.heap.size w wr) := below_step HB2.out HB.out
          clear HQ HB HE2 HR2 HLG hq
          subst l1
          by_cases hb0 : 0 ≤ b
          · obtain rfl := l3 hb0
            have hk : ok = true := HOK.out.symm.trans (decide_eq_true hb0)
            subst hk
            clear l2 l3 HOK
            go_wp2_with fail
            all_goals
              refine (awake15_any _ hE5).mono ?_
              rintro e w6 ⟨rfl, hb6⟩
              go_wp2_with fail
              go_ret
              exact ⟨rfl, below_step HB5.out hb6⟩
          · obtain rfl := l2 (by omega)
            have hk : ok = false := HOK.out.symm.trans (decide_eq_false hb0)
            subst hk
            clear l2 l3 HOK
            go_wp2_with fail
            all_goals
              refine (awake15_any _ hE5).mono ?_
              rintro e w6 ⟨rfl, hb6⟩
              go_wp2_with fail
              go_ret
              exact ⟨rfl, below_step HB5.out hb6⟩
end Go.Proofs.YtlojeeakjgalpaaDoor
