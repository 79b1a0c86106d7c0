/- A walk: route.Permit. -/
import Derived.Test.YtlojeeakjgalpaaDoorRls
namespace Rte
open Go Go.Sort
def bothAt (L : List Ent) (fr dt : Int) (i : Nat) : Bool := match L[i]? with | some e => both e fr dt | none => false
def actAt (L : List Ent) (i : Nat) : Bool := match L[i]? with | some e => acts e | none => true
def permR (L : List Ent) (fr dt : Int) (R : List Nat) : Bool := match R.find? (bothAt L fr dt) with | some i => actAt L i | none => true
theorem bothAt_lt {L : List Ent} {fr dt : Int} {i : Nat} (hi : i < L.length) : bothAt L fr dt i = both L[i] fr dt := by unfold bothAt; rw [List.getElem?_eq_getElem hi]
theorem actAt_lt {L : List Ent} {i : Nat} (hi : i < L.length) : actAt L i = acts L[i] := by unfold actAt; rw [List.getElem?_eq_getElem hi]
theorem find_at {p : Nat → Bool} : ∀ (R : List Nat) (k : Nat) (hk : k < R.length), (∀ j (hj : j < k), p R[j] = false) → p R[k] = true → R.find? p = some R[k]
  | x :: R, 0, hk, _, h1 => by simp only [List.getElem_cons_zero] at h1 ⊢; rw [List.find?_cons, h1]
  | x :: R, k + 1, hk, h0, h1 => by
    have hx := h0 0 (by omega)
    simp only [List.getElem_cons_zero] at hx
    rw [List.find?_cons, hx]
    simp only [List.getElem_cons_succ] at h1 ⊢
    exact find_at R k (by simpa using hk) (fun j hj => by have := h0 (j + 1) (by omega); simpa using this) h1
theorem find_none {p : Nat → Bool} (R : List Nat) (h0 : ∀ j (hj : j < R.length), p R[j] = false) : R.find? p = none := by
  rw [List.find?_eq_none]
  intro x hx
  obtain ⟨j, hj, rfl⟩ := List.getElem_of_mem hx
  simp [h0 j hj]
theorem rule_words {h : ByteArray} {x : Ent} (hr : isRule h x = true) : ∃ a b c, words x = [a, b, c] := by
  by_cases h3 : (words x).length = 3
  · exact Go.Proofs.YtlojeeakjgalpaaDoor.three_of h3
  · rw [Go.Proofs.YtlojeeakjgalpaaDoor.isRule_not3 h3] at hr; cases hr
theorem both_three {x : Ent} {a b c : List UInt8} (hw : words x = [a, b, c]) (fr dt : Int) : both x fr dt = (takes b fr && takes c dt) := by unfold both; rw [hw]; rfl
theorem acts_three {x : Ent} {a b c : List UInt8} (hw : words x = [a, b, c]) : acts x = decide (a = bs sPermit) := by unfold acts; rw [hw]; rfl
end Rte
namespace Go.Proofs.YtlojeeakjgalpaaDoor
open Go Go.RowKit Go.Sort Rte

def PermitEnd (w : World) (L : List Ent) (h : ByteArray) (fr dt : Int) (e : Ending) (w' : World) : Prop :=
  ∃ R, RulesOf L h R ∧ e = .returned (.bool (permR L fr dt R)) ∧ Below w.heap.size w w'

set_option maxHeartbeats 2000000 in
set_option maxRecDepth 100000 in
theorem permit_any (A : Option Addr) (cap : Nat) (L : List Ent) (h : ByteArray) (fr dt : Int) (w : World) (hE : Env w) (hR : Rd w 4 A L.length (ents L)) (hcap : L.length ≤ cap) (hc : cap ≤ maxLen) (hL : L.length ≤ 100000000) (hs : ∀ e ∈ L, e.key.size ≤ 100000000 ∧ e.val.size ≤ 100000000) :
    Calls Tryd.prog 15 #[.slice A L.length cap, .string h, .int .i64 fr, .int .i64 dt] w (PermitEnd w L h fr dt) := by
  have HX := Lib.hid (rules_any A cap L h w hE hR hcap hc hL hs)
  have HS := Lib.hid hs
  clear hs
  go_enter Tryd.func15, Tryd.ntmps15
  go_wp2_with fail
  refine HX.out.mono ?_
  rintro e w1 ⟨A1, c1, R, rfl, h1, h2, hRd, hRO, hb⟩
  unfold maxLen at hc h2
  have HRO := Lib.hid hRO
  have HE := Lib.hid hE
  have HR := Lib.hid hR
  clear HX hRO hE hR
  go_wp2
  go_loopw [16] (fun vi wr => ∃ k : Nat, k ≤ R.length ∧ vi = .int .i64 k ∧ Hid (∀ j (hj : j < R.length), j < k → bothAt L fr dt R[j] = false) ∧ Hid (Below w1.heap.size w1 wr)) (fun vi _ => R.length - (intOf vi).toNat)
  case atStart => exact ⟨0, Nat.zero_le _, rfl, (show ∀ j (hj : j < R.length), j < 0 → bothAt L fr dt R[j] = false from fun j _ h => absurd h (by omega)), Below.refl _ _⟩
  case round =>
    obtain ⟨k, hk, rfl, HN, HB⟩ := hrel
    by_cases hlt : k < R.length
    · have hn : (nats R)[k]? = some (pl R[k]) := by rw [nats_get R k hlt]; simp [hlt]
      obtain ⟨ad, hA1, had, hcell⟩ := (hRd.below HB.out).cell hn
      obtain ⟨hi, hpos⟩ := mem_spots.1 (HRO.out.1.mem_iff.1 (List.getElem_mem hlt))
      rw [keyAt_lt hi, rule_pos] at hpos
      obtain ⟨a, b, c, hw3⟩ := rule_words hpos
      have hBw : Below w.heap.size w wr := below_step hb HB.out
      obtain ⟨B, O, rfl, hab, hadd, x0, x1, x2, x3⟩ := (HR.out.below hBw).ent hi
      have hv := (HS.out _ (List.getElem_mem hi)).2
      have hS := split_any L[R[k]].val 32 wr (HE.out.below hBw) hv
      have hb3 := both_three hw3 fr dt
      have ha3 := acts_three hw3
      have hbo := bothAt_lt (fr := fr) (dt := dt) hi
      have hac := actAt_lt hi
      have hps := Adr.parts_short 32 L[R[k]].val.data.toList
      have hwp : Adr.parts 32 L[R[k]].val.data.toList = [a, b, c] := hw3
      unfold PartsEnd at hS
      rw [hwp] at hS hps
      rw [size_data] at hps
      rw [hb3] at hbo
      rw [ha3] at hac
      have hgo : Hid (bothAt L fr dt R[k] = false → ∀ j (hj : j < R.length), j < k + 1 → bothAt L fr dt R[j] = false) := fun hf j hj hjk => by
        by_cases e : j = k
        · subst e; exact hf
        · exact HN.out j hj (by omega)
      have hfin : Hid (bothAt L fr dt R[k] = true → permR L fr dt R = actAt L R[k]) := fun ht => by
        unfold permR; rw [find_at R k hlt (fun j hj => HN.out j (by omega) hj) ht]
      have HBO := Lib.hid hbo
      have HAC := Lib.hid hac
      have HSP := Lib.hid hS
      have HPS := Lib.hid hps
      have HBW := Lib.hid hBw
      clear hbo hac hS hps hwp hw3 hb3 ha3 hpos hBw hn HN
      generalize L[R[k]] = x at *
      generalize hrk : R[k] = r at *
      clear hrk
      subst hA1
      go_wp2_with fail
      refine HSP.out.mono ?_
      rintro e w3 ⟨A3, c3, rfl, q1, q2, hR3, hb3⟩
      have hR3' : Rd w3 1 A3 3 (strs [a, b, c]) := hR3
      obtain ⟨B3, O3, rfl, hB3, y0, y1, y2⟩ := hR3'.three
      have hcap3 : 3 ≤ c3 := q1
      have hsb : b.length ≤ 100000000 := Nat.le_trans (HPS.out b (by simp)) hv
      have hsc : c.length ≤ 100000000 := Nat.le_trans (HPS.out c (by simp)) hv
      obtain ⟨s0, hs0⟩ : ∃ s0, (⟨a.toArray⟩ : ByteArray) = s0 := ⟨_, rfl⟩
      obtain ⟨s1, hs1⟩ : ∃ s1, (⟨b.toArray⟩ : ByteArray) = s1 := ⟨_, rfl⟩
      obtain ⟨s2, hs2⟩ : ∃ s2, (⟨c.toArray⟩ : ByteArray) = s2 := ⟨_, rfl⟩
      have ea : a = bs s0 := by rw [← hs0]
      have eb : b = bs s1 := by rw [← hs1]
      have ec : c = bs s2 := by rw [← hs2]
      have hE3 : Env w3 := HE.out.below (below_step HBW.out hb3)
      have H1 := Lib.hid (takes_any s1 fr w3 hE3 (by rw [← hs1, size_mk]; exact hsb))
      have H2 := Lib.hid (show ∀ W, Env W → _ from fun W hW => takes_any s2 dt W hW (by rw [← hs2, size_mk]; exact hsc))
      rw [hs0] at y0
      rw [hs1] at y1
      rw [hs2] at y2
      have HBO2 : Hid (bothAt L fr dt r = (takes (bs s1) fr && takes (bs s2) dt)) := by show _ = _; rw [HBO.out, eb, ec]
      have HAC2 : Hid (actAt L r = decide (bs s0 = bs sPermit)) := by show _ = _; rw [HAC.out, ea]
      have HP0 : Hid _ := eq_permit s0
      have HB3 : Hid (Below w1.heap.size w1 w3) := below_step HB.out hb3
      clear hR3 hR3' q1 q2 hb3 hs0 hs1 hs2 ea eb ec hsb hsc HBO HAC HPS HSP HB hcell hadd x0 x1 x2 x3 hab had hv
      go_wp2_with fail
      refine H1.out.mono ?_
      rintro e w4 ⟨rfl, hb4⟩
      have hE4 : Env w4 := hE3.below hb4
      have y0' : w4.cell? ⟨B3, O3, none⟩ = some (.string s0) := (hb4.cell (p := ⟨B3, O3, none⟩) hB3).trans y0
      have y2' : w4.cell? ⟨B3, O3 + 2, none⟩ = some (.string s2) := (hb4.cell (p := ⟨B3, O3 + 2, none⟩) hB3).trans y2
      have hB4 : B3 < w4.heap.size := Nat.lt_of_lt_of_le hB3 hb4.size
      have HB4 : Hid (Below w1.heap.size w1 w4) := below_step HB3.out hb4
      clear hb4 y0 y1 y2 hE3 hB3 HB3 H1
      generalize takes (bs s1) fr = t1 at *
      cases t1 with
      | false =>
        have HN2 := Lib.hid (hgo.out (by rw [HBO2.out]; rfl))
        clear HBO2 hgo hfin
        go_wp2
        go_roundw
        case rel => exact ⟨k + 1, by omega, by go_num, HN2, HB4⟩
        case measure => simp [intOf]; omega
      | true =>
        go_wp2_with fail
        refine (H2.out _ hE4).mono ?_
        rintro e w5 ⟨rfl, hb5⟩
        have y0'' : w5.cell? ⟨B3, O3, none⟩ = some (.string s0) := (hb5.cell (p := ⟨B3, O3, none⟩) hB4).trans y0'
        have HB5 : Hid (Below w1.heap.size w1 w5) := below_step HB4.out hb5
        clear hb5 y0' y2' hE4 HB4 H2
        generalize takes (bs s2) dt = t2 at *
        cases t2 with
        | false =>
          have HN2 := Lib.hid (hgo.out (by rw [HBO2.out]; rfl))
          clear HBO2 hgo hfin
          go_wp2
          go_roundw
          case rel => exact ⟨k + 1, by omega, by go_num, HN2, HB5⟩
          case measure => simp [intOf]; omega
        | true =>
          have HF : Hid (permR L fr dt R = (s0.toList == [112, 101, 114, 109, 105, 116])) := by
            show _ = _
            rw [hfin.out (by rw [HBO2.out]; rfl), HAC2.out, HP0.out]
          clear HBO2 hgo hfin HAC2 HP0
          go_wp2
          go_ret
          exact ⟨R, HRO.out, ret_bool HF.out.symm, below_step hb HB5.out⟩
    · have HF : Hid (permR L fr dt R = true) := by
        show _ = _
        unfold permR; rw [find_none R fun j hj => HN.out j hj (by omega)]
      go_wp2
      go_ret
      exact ⟨R, HRO.out, ret_bool HF.out.symm, below_step hb HB.out⟩
end Go.Proofs.YtlojeeakjgalpaaDoor
