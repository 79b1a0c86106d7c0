/- A walk: route.Lookup. -/
import Derived.Test.YtlojeeakjgalpaaDoorPlan
import Derived.WideShapes
import Derived.BigQuiet
import Derived.Deep.QuietTactic
namespace Go.Proofs.YtlojeeakjgalpaaDoor
open Go Go.RowKit Rte

theorem box_cells {w w2 : World} {T : TypeId} (e : Ent) (hb : Below (w.alloc (.cells #[.string e.host, .int .i64 e.kind, .string e.key, .string e.val] T)).heap.size (w.alloc (.cells #[.string e.host, .int .i64 e.kind, .string e.key, .string e.val] T)) w2) :
    w2.cell? ⟨w.heap.size, 0, none⟩ = some (.string e.host) ∧ w2.cell? ⟨w.heap.size, 1, none⟩ = some (.int .i64 e.kind) ∧ w2.cell? ⟨w.heap.size, 2, none⟩ = some (.string e.key) ∧ w2.cell? ⟨w.heap.size, 3, none⟩ = some (.string e.val) := by
  refine ⟨?_, ?_, ?_, ?_⟩ <;> (rw [hb.cell (by simp), World.cell?_alloc_at _ _ _ _ rfl]; rfl)

theorem bytes_ne {a b : ByteArray} (h : a ≠ b) : ¬ a.toList = b.toList := fun he => h (Go.WideShapes.bytes_inj (by rwa [Lib.toList_data, Lib.toList_data] at he))

set_option maxHeartbeats 2000000 in
set_option maxRecDepth 100000 in
theorem lookup_any (A : Option Addr) (cap : Nat) (L : List Ent) (h : ByteArray) (ip : Int) (w : World) (hE : Env w) (hR : Rd w 4 A L.length (ents L)) (hcap : L.length ≤ cap) (hc : cap ≤ maxLen) (hk : ∀ e ∈ L, e.key.size ≤ 100000000) :
    Calls Tryd.prog 14 #[.slice A L.length cap, .string h, .int .i64 ip] w fun e w' => e = .returned (.tuple #[.string (lk L h ip).2, .bool (decide (0 ≤ (lk L h ip).1))]) ∧ Below w.heap.size w w' := by
  unfold maxLen at hc
  have HK := Lib.hid hk
  clear hk
  go_enter Tryd.func14, Tryd.ntmps14
  go_wp2
  go_loopw [8, 9, 17] (fun vb vo vi wr => ∃ (k : Nat) (b : Int) (o : ByteArray), k ≤ L.length ∧ vi = .int .i64 k ∧ vb = .int .i64 b ∧ vo = .string o ∧ Hid (lk (L.take k) h ip = (b, o)) ∧ Hid (Below w.heap.size w wr)) (fun _ _ vi _ => L.length - (intOf vi).toNat)
  case atStart => exact ⟨0, -1, _, Nat.zero_le _, rfl, rfl, rfl, rfl, Below.refl _ _⟩
  case round =>
    obtain ⟨k, b, o, hkl, rfl, rfl, rfl, HL, HB⟩ := hrel
    by_cases hlt : k < L.length
    · obtain ⟨B, O, rfl, hab, hadd, h0, h1, h2, h3⟩ := (hR.below HB.out).ent hlt
      have HP := Lib.hid (show ∀ W, Env W → _ from fun W hW => pre_any L[k].key W hW (HK.out _ (List.getElem_mem hlt)))
      have hst : Hid (lk (L.take (k + 1)) h ip = lkStep h ip (b, o) L[k]) := by
        show _ = _
        rw [List.take_succ_eq_append_getElem hlt, lk_snoc, HL.out]
      have hE1 := hE.below HB.out
      generalize L[k] = x at *
      go_wp2_with fail
      refine (HP.out _ (hE1.below ((Below.refl _ _).alloc (Nat.le_refl _) _))).mono ?_
      rintro e w2 ⟨rfl, hb2⟩
      obtain ⟨g0, g1, g2, g3⟩ := box_cells x hb2
      have HB2 : Hid (Below w.heap.size w w2) := HB.out.trans (((Below.refl _ _).alloc (Nat.le_refl _) _).trans (hb2.mono (by simp)) |>.mono HB.out.size)
      clear hb2 h0 h1 h2 h3 HB hE1 HP HL
      have HX : Hid (Adr.pre x.key.data.toList = pfx x) := rfl
      unfold preRet
      rw [HX.out]
      generalize wr.heap.size = bx at g0 g1 g2 g3 ⊢
      by_cases hok : 0 ≤ (pfx x).1
      · rw [show max (pfx x).1 0 = (pfx x).1 by omega, show decide (0 ≤ (pfx x).1) = true by simpa using hok]
        have HH : Hid (hit h ip x = (decide (x.host = h) && decide (x.kind = 4) && decide (0 ≤ (pfx x).1) && Adr.isIn (pfx x).1 (pfx x).2 ip)) := rfl
        have HS : Hid (lkStep h ip (b, o) x = if hit h ip x = true ∧ b < (pfx x).2 then ((pfx x).2, x.val) else (b, o)) := rfl
        have hin := in_any (pfx x).1 (pfx x).2 ip
        clear HX
        generalize (pfx x).1 = n at *
        generalize (pfx x).2 = m at *
        have HI : Hid _ := hin
        clear hin
        by_cases hh : x.host = h
        · have hh2 : x.host.toList = h.toList := by rw [hh]
          by_cases hk4 : x.kind = 4
          · by_cases hbm : b < m
            · go_wp2_with fail
              refine (HI.out w2).mono ?_
              rintro e w3 ⟨rfl, rfl⟩
              cases hin : Adr.isIn n m ip with
              | true =>
                have HR : Hid (lk (L.take (k + 1)) h ip = (m, x.val)) := by
                  show _ = _
                  rw [hst.out, HS.out, HH.out, hin, if_pos]
                  simp only [hh, hk4, hok, decide_true, Bool.and_self, true_and]; exact hbm
                clear hin HH HS hst
                go_wp2_with fail
                go_quiet (fail)
                go_wp2
                go_roundw
                case rel => exact ⟨k + 1, m, x.val, by omega, by go_num, rfl, rfl, HR, below_drewN HB2.out _⟩
                case measure => simp [intOf]; omega
              | false =>
                have HR : Hid (lk (L.take (k + 1)) h ip = (b, o)) := by
                  show _ = _
                  rw [hst.out, HS.out, HH.out, hin, Bool.and_false, if_neg]
                  intro hc; cases hc.1
                clear hin HH HS hst
                go_wp2
                go_roundw
                case rel => exact ⟨k + 1, b, o, by omega, by go_num, rfl, rfl, HR, HB2⟩
                case measure => simp [intOf]; omega
            · have HR : Hid (lk (L.take (k + 1)) h ip = (b, o)) := by
                show _ = _
                rw [hst.out, HS.out, if_neg fun hc => hbm hc.2]
              clear HH HS hst
              go_wp2
              go_roundw
              case rel => exact ⟨k + 1, b, o, by omega, by go_num, rfl, rfl, HR, HB2⟩
              case measure => simp [intOf]; omega
          · have HR : Hid (lk (L.take (k + 1)) h ip = (b, o)) := by
              show _ = _
              rw [hst.out, HS.out, HH.out, if_neg]
              intro hc
              simp only [Bool.and_eq_true, decide_eq_true_eq] at hc
              exact hk4 hc.1.1.1.2
            clear HH HS hst
            go_wp2
            go_roundw
            case rel => exact ⟨k + 1, b, o, by omega, by go_num, rfl, rfl, HR, HB2⟩
            case measure => simp [intOf]; omega
        · have hh2 : ¬ x.host.toList = h.toList := bytes_ne hh
          have HR : Hid (lk (L.take (k + 1)) h ip = (b, o)) := by
            show _ = _
            rw [hst.out, HS.out, HH.out, if_neg]
            intro hc
            simp only [Bool.and_eq_true, decide_eq_true_eq] at hc
            exact hh hc.1.1.1.1
          clear HH HS hst
          go_wp2
          go_roundw
          case rel => exact ⟨k + 1, b, o, by omega, by go_num, rfl, rfl, HR, HB2⟩
          case measure => simp [intOf]; omega
      · have hf : decide (0 ≤ (pfx x).1) = false := decide_eq_false hok
        have HR : Hid (lk (L.take (k + 1)) h ip = (b, o)) := by
          show _ = _
          rw [hst.out]
          unfold lkStep hit
          rw [hf, Bool.and_false, Bool.false_and, if_neg]
          intro hc; cases hc.1
        rw [hf]
        generalize max (pfx x).1 0 = n at *
        generalize (pfx x).2 = m at *
        clear hst hf HX
        go_wp2
        all_goals
          go_roundw
          case rel => exact ⟨k + 1, b, o, by omega, by go_num, rfl, rfl, HR, HB2⟩
          case measure => simp [intOf]; omega
    · obtain rfl : k = L.length := by omega
      have HF : Hid (lk L h ip = (b, o)) := by
        have := HL.out
        rwa [List.take_of_length_le (Nat.le_refl _)] at this
      go_wp2
      refine bodyPost_ret (results_tmp2 rfl _ _ _) rfl ?_
      rw [HF.out]
      exact ⟨rfl, HB.out⟩
end Go.Proofs.YtlojeeakjgalpaaDoor
