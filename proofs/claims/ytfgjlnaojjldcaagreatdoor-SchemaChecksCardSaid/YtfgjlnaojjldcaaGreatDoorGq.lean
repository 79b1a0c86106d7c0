/- Walks: the reference's With, has, there, outside. Walks: the reference's twice, meant. A walk: the reference's Check. -/
import Derived.Test.YtfgjlnaojjldcaaGreatDoorGp
import Derived.Test.YtfgjlnaojjldcaaGreatDoorGo
namespace Go.Proofs.YtfgjlnaojjldcaaGreatDoor
open Go Go.RowKit Go.Sort Sch Adr Mtr Tre

set_option maxHeartbeats 2000000 in
theorem with_any (pb pc : Nat) (P : List ByteArray) (s : ByteArray) (w : World) (hP : Pv w (.slice (some ⟨pb, 0, none⟩) P.length pc) P) (hl : P.length ≤ 1000) :
    Calls Tryz.prog 43 #[.slice (some ⟨pb, 0, none⟩) P.length pc, .string s] w fun e w' => (∃ v, e = .returned v ∧ Pv w' v (P ++ [s])) ∧ Below w.heap.size w w' := by
  obtain ⟨i0, hi, hz0, hz1, hz2⟩ := info_parts info_string
  have HR := Lib.hid hP.rd.1
  clear hP
  go_enter Tryz.func43, Tryz.ntmps43
  go_wp2_with (at_builtin; first
    | (refine app_src rfl _ _ 34 rfl w w 9 i0 _ 1 16 Tryz.underlying34 hi hz0 hz1 hz2 rfl (by decide) (by decide) (World.ownsRow_nil _ _ _ _) (Below.refl _ _) rfl (some ⟨pb, 0, none⟩) P.length pc (sv P) rfl HR.out (fun h => by cases h) (sv_one P) (by omega) ?_; intro v1 w1 hown1 hb1)
    | (refine app_new rfl _ _ 34 rfl w w1 9 i0 _ 1 16 Tryz.underlying34 hi hz0 hz1 hz2 rfl (by decide) (by decide) hown1 hb1 rfl 1 1 [.string s] rfl rfl (by simp; rfl) (by omega) ?_; intro v2 w2 hown2 hb2))
  go_ret
  refine ⟨⟨v2, rfl, ?_⟩, hb2⟩
  have hl2 : (P ++ [s]).length = P.length + 1 := by simp
  rw [List.nil_append, show sv P ++ [Value.string s] = sv (P ++ [s]) by rw [sv_app]; rfl, Nat.zero_add, ← hl2] at hown2
  obtain ⟨A, c, rfl, h1, h2, h3, -, h4⟩ := own_rd_nil hown2
  obtain ⟨b, rfl, hp⟩ := path_pv h3 h4 (by rw [hl2]; omega) h1 h2
  exact hp

/-- A test from a place on. -/
theorem any_drop {f : Nat → Bool} {l : List Nat} {j : Nat} (h : j < l.length) : (l.drop j).any f = (f l[j] || (l.drop (j + 1)).any f) := by
  rw [List.drop_eq_getElem_cons h, List.any_cons]
set_option maxHeartbeats 2000000 in
set_option maxRecDepth 100000 in
theorem has_any (A : Option Addr) (cap : Nat) (L : List Line) (i : Nat) (s : ByteArray) (w : World) (hR : Rd w 3 A L.length (lines L)) (hcap : L.length ≤ cap) (hc : cap ≤ maxLen) (hr : rightB L = true) (hi : i < L.length) :
    Calls Tryz.prog 42 #[.slice A L.length cap, .int .i64 i, .string s] w fun e w' => e = .returned (.bool (kidHas L i s)) ∧ Below w.heap.size w w' := by
  have h200 := right_len hr
  have HK := refKids_lines A cap L i w hR hcap hc (by omega)
  rw [refKids_eq hr hi] at HK
  have HKK := Lib.hid HK
  have hkl : ∀ k ∈ kidsB L i, k < L.length := fun k hk => by have := mem_kidsTo.1 hk; have h2 := endB_le L i hi; omega
  have hkn : (kidsB L i).length ≤ 200 := by
    have h1 := kidsTo_len L (depthAt L i + 1) (i + 1) (endB L i)
    have h2 := endB_le L i hi
    unfold kidsB; omega
  have HX : Hid (kidHas L i s = ((kidsB L i).drop 0).any (kidIs L s)) := rfl
  have HKL := Lib.hid hkl
  have HR := Lib.hid hR
  have HKI : Hid (∀ k, (h : k < L.length) → kidIs L s k = (L[k].word.toList == s.toList)) := fun k h => by unfold kidIs; rw [wordAt_lt h, eq_bytes]
  unfold maxLen at hc
  unfold KidsEnd at HKK
  clear hR HK hkl hr
  generalize kidsB L i = K at *
  generalize kidIs L s = f at *
  go_enter Tryz.func42, Tryz.ntmps42
  go_wp2_with fail
  refine HKK.out.mono ?_
  rintro e w1 ⟨Ak, ck, rfl, hk1, hk2, hrk, hb1⟩
  have HB1 := Lib.hid hb1
  have HRk := Lib.hid hrk
  clear HKK hb1 hrk
  go_wp2
  go_loopw [8] (fun vi wr => ∃ k : Nat, k ≤ K.length ∧ vi = .int .i64 k ∧ Hid (kidHas L i s = (K.drop k).any f) ∧ Hid (Below w1.heap.size w1 wr)) (fun vi _ => K.length - (intOf vi).toNat)
  case atStart => exact ⟨0, Nat.zero_le _, rfl, HX, Below.refl _ _⟩
  case round =>
    clear HX
    obtain ⟨k, hk, rfl, HQ, HB⟩ := hrel
    by_cases hlt : k < K.length
    · obtain ⟨B, O, rfl, hab, hadd, y0⟩ := (HRk.out.below HB.out).intAt hlt
      have hkl := HKL.out _ (List.getElem_mem hlt)
      have hst : Hid (kidHas L i s = (f K[k] || (K.drop (k + 1)).any f)) := by show _ = _; rw [HQ.out, any_drop hlt]
      generalize K[k] = q at *
      obtain ⟨B2, O2, rfl, hab2, hadd2, x0, x1, x2⟩ := (HR.out.below (below_step HB1.out HB.out)).line hkl
      have HF := Lib.hid (HKI.out q hkl)
      have hqi : (q : Int) < (L.length : Int) := by omega
      have hq0 : (0 : Int) ≤ (q : Int) := by omega
      generalize L[q].word = u at *
      clear HQ HKI x0 x2
      cases hu : (u.toList == s.toList) with
      | true =>
        have HKT : Hid (kidHas L i s = true) := by show _ = _; rw [hst.out, HF.out, hu]; rfl
        have hu2 : u.toList = s.toList := by simpa using hu
        clear hst HF
        go_wp2_with fail
        go_ret
        exact ⟨ret_bool HKT.out.symm, below_step HB1.out HB.out⟩
      | false =>
        have HKT : Hid (kidHas L i s = (K.drop (k + 1)).any f) := by show _ = _; rw [hst.out, HF.out, hu]; rfl
        have hu2 : ¬ u.toList = s.toList := by simpa using hu
        clear hst HF
        go_wp2_with fail
        go_roundw
        case rel => exact ⟨k + 1, by omega, by go_num, HKT, HB⟩
        case measure => simp [intOf]; omega
    · obtain rfl : k = K.length := by omega
      have HKT : Hid (kidHas L i s = false) := by show _ = _; rw [HQ.out, List.drop_length]; rfl
      clear HQ
      go_wp2_with fail
      go_ret
      exact ⟨ret_bool HKT.out.symm, below_step HB1.out HB.out⟩

theorem find_there {L : List Line} (hr : rightB L = true) (P : List ByteArray) : decide (0 ≤ refFind L P) = (findB L P).isSome ∧ ∀ n, findB L P = some n → refFind L P = (n : Int) := by
  have := refFind_eq hr P
  cases hf : findB L P with
  | none => rw [hf] at this; rw [this]; exact ⟨rfl, fun n h => by cases h⟩
  | some n => rw [hf] at this; rw [this]; exact ⟨by simp, fun m h => by injection h with h; rw [h]⟩
set_option maxHeartbeats 1000000 in
theorem refThere_any (A : Option Addr) (cap : Nat) (L : List Line) (a b : ByteArray) (w : World) (hR : Rd w 3 A L.length (lines L)) (hcap : L.length ≤ cap) (hc : cap ≤ maxLen) (hr : rightB L = true) :
    Calls Tryz.prog 78 #[.slice A L.length cap, .string a, .string b] w fun e w' => e = .returned (.bool (isThere L a b)) ∧ Below w.heap.size w w' := by
  have h200 := right_len hr
  obtain ⟨w0, hw0⟩ : ∃ w0, w.alloc (.cells #[.string a, .string b] 9) = w0 := ⟨_, rfl⟩
  have hb0 : Below w.heap.size w w0 := by rw [← hw0]; exact (Below.refl _ _).alloc (Nat.le_refl _) _
  have hlit : Rd w0 1 (some ⟨w.heap.size, 0, none⟩) 2 (sv [a, b]) := by rw [← hw0]; exact rd_lit w [a, b] _
  have HC := Lib.hid (show Calls Tryz.prog 26 #[.slice A L.length cap, .slice (some ⟨w.heap.size, 0, none⟩) 2 2] w0 fun e w' => e = .returned (.int .i64 (refFind L [a, b])) ∧ Below w0.heap.size w0 w' from refFind_lines A cap L (some ⟨w.heap.size, 0, none⟩) 2 [a, b] w0 (hR.below hb0) hcap hc (by omega) hlit (by unfold maxLen; simp))
  have HX : Hid (decide (0 ≤ refFind L [a, b]) = isThere L a b) := (find_there hr [a, b]).1
  have HB := Lib.hid hb0
  clear hR hb0 hlit
  generalize refFind L [a, b] = z at *
  go_enter Tryz.func78, Tryz.ntmps78
  go_wp2_with fail
  refine HC.out.mono ?_
  rintro e w2 ⟨rfl, hb2⟩
  go_wp2_with fail
  go_ret
  exact ⟨ret_bool HX.out, below_step HB.out hb2⟩

set_option maxHeartbeats 2000000 in
set_option maxRecDepth 100000 in
theorem refOut_any (A : Option Addr) (cap : Nat) (L : List Line) (s vni : ByteArray) (w : World) (hR : Rd w 3 A L.length (lines L)) (hcap : L.length ≤ cap) (hc : cap ≤ maxLen) (hr : rightB L = true) (hs : s.size ≤ 100000000) :
    Calls Tryz.prog 79 #[.slice A L.length cap, .string s, .string vni] w fun e w' => e = .returned (.bool (refOutB L s vni)) ∧ Below w.heap.size w w' := by
  have h200 := right_len hr
  obtain ⟨w0, hw0⟩ : ∃ w0, w.alloc (.cells #[.string wVnis, .string vni, .string wSubnet] 9) = w0 := ⟨_, rfl⟩
  have hb0 : Below w.heap.size w w0 := by rw [← hw0]; exact (Below.refl _ _).alloc (Nat.le_refl _) _
  have hlit : Rd w0 1 (some ⟨w.heap.size, 0, none⟩) 3 (sv [wVnis, vni, wSubnet]) := by rw [← hw0]; exact rd_lit w [wVnis, vni, wSubnet] _
  have HC := Lib.hid (show Calls Tryz.prog 26 #[.slice A L.length cap, .slice (some ⟨w.heap.size, 0, none⟩) 3 3] w0 fun e w' => e = .returned (.int .i64 (refFind L [wVnis, vni, wSubnet])) ∧ Below w0.heap.size w0 w' from refFind_lines A cap L (some ⟨w.heap.size, 0, none⟩) 3 [wVnis, vni, wSubnet] w0 (hR.below hb0) hcap hc (by omega) hlit (by unfold maxLen; simp))
  have HF := find_there hr [wVnis, vni, wSubnet]
  have HB := Lib.hid hb0
  have HR := Lib.hid (hR.below hb0)
  have HW0 := hw0
  unfold wVnis wSubnet at HW0
  clear hw0
  cases hf : findB L [wVnis, vni, wSubnet] with
  | none =>
    have HX : Hid (refOutB L s vni = false) := by show _ = _; unfold refOutB; rw [hf]
    have hz : refFind L [wVnis, vni, wSubnet] < 0 := by have := HF.1; rw [hf] at this; simpa using this
    generalize refFind L [wVnis, vni, wSubnet] = z at *
    clear hR hb0 hlit hf HR HF
    go_enter Tryz.func79, Tryz.ntmps79
    go_wp2_with fail
    refine HC.out.mono ?_
    rintro e w2 ⟨rfl, hb2⟩
    go_wp2_with fail
    go_ret
    exact ⟨ret_bool HX.out.symm, below_step HB.out hb2⟩
  | some n =>
    have hn := findB_lt hf
    have HX : Hid (refOutB L s vni = match kidsB L n with | [] => false | k :: _ => decide (0 ≤ (pre (wordAt L k).data.toList).1) && !(isIn (pre (wordAt L k).data.toList).1 (pre (wordAt L k).data.toList).2 (ip s.data.toList))) := by
      show _ = _; unfold refOutB; rw [hf]
      show (match kidsB L n with | [] => false | k :: _ => _) = (match kidsB L n with | [] => false | k :: _ => _)
      cases kidsB L n <;> rfl
    have hz := HF.2 n hf
    rw [hz] at HC
    have HK := Lib.hid (fun W hb => by
      have := refKids_lines A cap L n W (HR.out.below hb) hcap hc (by omega)
      rw [refKids_eq hr hn] at this; exact this)
    have HI := Lib.hid (fun W => refIp_any s W hs)
    have HKL : Hid (∀ k ∈ kidsB L n, k < L.length) := fun k hk => by
      have := mem_kidsTo.1 hk
      have h2 := endB_le L n hn
      omega
    have hws := Lib.hid (fun j (hj : j < L.length) => word_size hr hj)
    clear hR hb0 hlit hf HF hz
    go_enter Tryz.func79, Tryz.ntmps79
    go_wp2_with fail
    refine HC.out.mono ?_
    rintro e w2 ⟨rfl, hb2⟩
    have HC3 := HK.out w2 hb2
    have HB2 := Lib.hid hb2
    clear HC hb2 HK
    go_wp2_with fail
    refine HC3.mono ?_
    clear HC3
    unfold KidsEnd
    rintro e w3 ⟨A3, c3, rfl, hk1, hk2, hrd, hb3⟩
    have HB3 := Lib.hid (below_step HB2.out hb3)
    unfold maxLen at hk2
    cases hks : kidsB L n with
    | nil =>
      rw [hks] at HX
      clear HB2 hb3 hrd hk1 hk2 HKL HI hws
      go_wp2_with fail
      go_ret
      exact ⟨ret_bool HX.out.symm, below_step HB.out HB3.out⟩
    | cons k ks =>
      rw [hks] at hrd HX hk1
      have hkl : k < L.length := HKL.out k (by rw [hks]; simp)
      obtain ⟨B4, O4, rfl, -, -, k0⟩ := hrd.intAt (i := 0) (by simp)
      simp only [Nat.add_zero, List.getElem_cons_zero] at k0
      obtain ⟨B, O, rfl, hab, hadd, x0, x1, x2⟩ := (HR.out.below HB3.out).line hkl
      have HPr := Lib.hid (fun W => refPre_any L[k].word W (by have := hws.out k hkl; rw [wordAt_lt hkl] at this; omega))
      have HX2 : Hid (refOutB L s vni = (decide (0 ≤ (pre L[k].word.data.toList).1) && !(isIn (pre L[k].word.data.toList).1 (pre L[k].word.data.toList).2 (ip s.data.toList)))) := by
        show _ = _
        rw [HX.out, ← wordAt_lt hkl]
      generalize L[k].word = sw at *
      generalize pre sw.data.toList = pr at *
      have hnl : (k :: ks).length = ks.length + 1 := rfl
      have hki : (k : Int) < (L.length : Int) := by omega
      clear HX HB2 hb3 hrd hk1 HKL hws x0 x2 hks
      have HIn := Lib.hid (fun W => refIn_any pr.1 pr.2 (ip s.data.toList) W)
      generalize pr.1 = p1 at *
      generalize pr.2 = p2 at *
      generalize ip s.data.toList = z at *
      by_cases hp0 : 0 ≤ p1
      · have HX3 : Hid (refOutB L s vni = !(isIn p1 p2 z)) := by show _ = _; rw [HX2.out, decide_eq_true hp0]; rfl
        have hd : decide (0 ≤ p1) = true := decide_eq_true hp0
        clear HX2
        generalize isIn p1 p2 z = ib at *
        go_wp2_with fail
        refine (HPr.out w3).mono ?_
        rintro e w4 ⟨rfl, hb4⟩
        have HB4 := Lib.hid (below_step HB3.out hb4)
        clear HPr hb4
        go_wp2_with fail
        refine (HI.out w4).mono ?_
        rintro e w5 ⟨rfl, hb5⟩
        have HB5 := Lib.hid (below_step HB4.out hb5)
        clear HI hb5
        go_wp2_with fail
        refine (HIn.out w5).mono ?_
        rintro e w6 ⟨rfl, hb6⟩
        go_wp2_with fail
        go_ret
        exact ⟨ret_bool HX3.out.symm, below_step HB.out (below_step HB5.out hb6)⟩
      · have HX3 : Hid (refOutB L s vni = false) := by show _ = _; rw [HX2.out, decide_eq_false hp0]; rfl
        have hd : decide (0 ≤ p1) = false := decide_eq_false hp0
        clear HX2 HIn HI
        go_wp2_with fail
        refine (HPr.out w3).mono ?_
        rintro e w4 ⟨rfl, hb4⟩
        have HB4 := Lib.hid (below_step HB3.out hb4)
        clear HPr hb4
        go_wp2_with fail
        go_ret
        exact ⟨ret_bool HX3.out.symm, below_step HB.out HB4.out⟩
end Go.Proofs.YtfgjlnaojjldcaaGreatDoor

namespace Go.Proofs.YtfgjlnaojjldcaaGreatDoor
open Go Go.RowKit Go.Sort Sch Adr Mtr Tre

theorem len_four {P : List ByteArray} (h : P.length = 4) : ∃ a b c d, P = [a, b, c, d] := by
  rcases P with _ | ⟨a, _ | ⟨b, _ | ⟨c, _ | ⟨d, _ | ⟨e, l⟩⟩⟩⟩⟩
  all_goals first | exact ⟨_, _, _, _, rfl⟩ | (simp at h)
theorem str_same {A : Option Addr} {w : World} {P : List ByteArray} (h : Rd w 1 A P.length (sv P)) (h0 : 0 < P.length) : ∃ B O, A = some ⟨B, O, none⟩ ∧ ∀ i, (hi : i < P.length) → w.cell? ⟨B, O + i, none⟩ = some (.string P[i]) := by
  obtain ⟨B, O, e, -, -, -⟩ := h.strAt h0
  refine ⟨B, O, e, fun i hi => ?_⟩
  obtain ⟨B', O', e', -, -, z⟩ := h.strAt hi
  rw [e] at e'
  injection e' with e'
  injection e' with ea eb
  subst ea eb
  exact z
set_option maxHeartbeats 4000000 in
set_option maxRecDepth 100000 in
theorem refTwice_any (A : Option Addr) (cap : Nat) (L : List Line) (i : Nat) (s : ByteArray) (w : World) (hR : Rd w 3 A L.length (lines L)) (hcap : L.length ≤ cap) (hc : cap ≤ maxLen) (hr : rightB L = true) (hi : i ≤ L.length) :
    Calls Tryz.prog 77 #[.slice A L.length cap, .int .i64 i, .string s] w fun e w' => e = .returned (.bool (refTwB L i s)) ∧ Below w.heap.size w w' := by
  have h200 := right_len hr
  have HPa := Lib.hid (fun (k : Nat) (hk : k < L.length) W (hb : Below w.heap.size w W) => refPath_lines A cap L k W (hR.below hb) hcap hc (by omega) hk)
  have HSh := Lib.hid (fun (k : Nat) (hk : k < L.length) => path_short hr hk)
  have HX : Hid (refTwB L i s = refTwFrom L s 0 (i - 0)) := rfl
  have HNm := Lib.hid (fun (b : ByteArray) W (hb : b.size ≤ 100000000) => refName_any b W hb)
  unfold maxLen at hc
  clear hR hr
  go_enter Tryz.func77, Tryz.ntmps77
  go_wp2
  go_loopw [7] (fun vi wr => ∃ k : Nat, k ≤ i ∧ vi = .int .i64 k ∧ Hid (refTwB L i s = refTwFrom L s k (i - k)) ∧ Hid (Below w.heap.size w wr)) (fun vi _ => i - (intOf vi).toNat)
  case atStart => exact ⟨0, Nat.zero_le _, rfl, HX, Below.refl _ _⟩
  case round =>
    clear HX
    obtain ⟨k, hk, rfl, HQ, HB⟩ := hrel
    by_cases hlt : k < i
    · have hkl : k < L.length := by omega
      have hst : Hid (refTwB L i s = (rtest s (pathB L k) || refTwFrom L s (k + 1) (i - (k + 1)))) := by
        show _ = _
        rw [HQ.out, show i - k = (i - (k + 1)) + 1 by omega]; rfl
      have HPk := HPa.out k hkl wr HB.out
      have HSk := HSh.out k hkl
      unfold StrsEnd at HPk
      generalize pathB L k = Q at *
      clear HQ
      by_cases h4 : Q.length = 4
      · obtain ⟨a, b, c, d, rfl⟩ := len_four h4
        have hbs : b.size ≤ 100000000 := HSk b (by simp)
        have HT : Hid (rtest s [a, b, c, d] = (decide (a = wHosts) && (nameB b.data.toList && (decide (c = wIp) && decide (d = s))))) := rfl
        have HNb := Lib.hid (fun W => HNm.out b W hbs)
        have hl4 : ([a, b, c, d] : List ByteArray).length = 4 := rfl
        have HSE : Hid (∀ (A3 : Option Addr) w', Rd w' 1 A3 4 (sv [a, b, c, d]) → ∃ B2 O2, A3 = some ⟨B2, O2, none⟩ ∧ w'.cell? ⟨B2, O2, none⟩ = some (.string a) ∧ w'.cell? ⟨B2, O2 + 1, none⟩ = some (.string b) ∧ w'.cell? ⟨B2, O2 + 2, none⟩ = some (.string c) ∧ w'.cell? ⟨B2, O2 + 3, none⟩ = some (.string d)) := fun A3 w' h => by
          obtain ⟨B2, O2, e, hz⟩ := str_same (P := [a, b, c, d]) h (by simp)
          exact ⟨B2, O2, e, hz 0 (by simp), hz 1 (by simp), hz 2 (by simp), hz 3 (by simp)⟩
        rw [hl4] at HPk
        generalize nameB b.data.toList = nb at *
        clear HNm h4 hl4 HSk hbs
        by_cases e0 : a = wHosts
        · skip
          have q0 : (a.toList == [104, 111, 115, 116, 115]) = true := (type_eq a _).trans (decide_eq_true e0)
          have p0 : a.toList = [104, 111, 115, 116, 115] := by simpa using q0
          cases nb with
          | false =>
            have HK : Hid (refTwB L i s = refTwFrom L s (k + 1) (i - (k + 1))) := by show _ = _; rw [hst.out, HT.out, decide_eq_true e0]; rfl
            clear e0 hst HT
            go_wp2_with fail
            refine HPk.mono ?_
            clear HPk
            rintro e w2 ⟨A3, c3, rfl, hk1, hk2, hrd, -, hb2⟩
            obtain ⟨B2, O2, rfl, z0, z1, z2, z3⟩ := HSE.out A3 w2 hrd
            have HB2 := Lib.hid (below_step HB.out hb2)
            have HZ2 := Lib.hid z2
            have HZ3 := Lib.hid z3
            clear hrd hb2 HB HSE z2 z3
            go_wp2_with fail
            refine (HNb.out w2).mono ?_
            rintro e w3 ⟨rfl, hb3⟩
            have HB3 := Lib.hid (below_step HB2.out hb3)
            have z2 := (hb3.cell (p := ⟨B2, O2 + 2, none⟩) (Lib.lt_of_cell HZ2.out)).trans HZ2.out
            have z3 := (hb3.cell (p := ⟨B2, O2 + 3, none⟩) (Lib.lt_of_cell HZ3.out)).trans HZ3.out
            clear HZ2 HZ3 hb3 HNb z0 z1 HB2
            go_wp2_with fail
            go_roundw
            case rel => exact ⟨k + 1, by omega, by go_num, HK, HB3⟩
            case measure => simp [intOf]; omega
          | true =>
            by_cases e2 : c = wIp
            · skip
              have q2 : (c.toList == [105, 112]) = true := (type_eq c _).trans (decide_eq_true e2)
              have p2 : c.toList = [105, 112] := by simpa using q2
              by_cases e3 : d = s
              · skip
                have q3 : (d.toList == s.toList) = true := (eq_bytes d s).trans (decide_eq_true e3)
                have p3 : d.toList = s.toList := by simpa using q3
                have HK : Hid (refTwB L i s = true) := by show _ = _; rw [hst.out, HT.out, decide_eq_true e0, decide_eq_true e2, decide_eq_true e3]; rfl
                clear e0 e2 e3 hst HT
                go_wp2_with fail
                refine HPk.mono ?_
                clear HPk
                rintro e w2 ⟨A3, c3, rfl, hk1, hk2, hrd, -, hb2⟩
                obtain ⟨B2, O2, rfl, z0, z1, z2, z3⟩ := HSE.out A3 w2 hrd
                have HB2 := Lib.hid (below_step HB.out hb2)
                have HZ2 := Lib.hid z2
                have HZ3 := Lib.hid z3
                clear hrd hb2 HB HSE z2 z3
                go_wp2_with fail
                refine (HNb.out w2).mono ?_
                rintro e w3 ⟨rfl, hb3⟩
                have HB3 := Lib.hid (below_step HB2.out hb3)
                have z2 := (hb3.cell (p := ⟨B2, O2 + 2, none⟩) (Lib.lt_of_cell HZ2.out)).trans HZ2.out
                have z3 := (hb3.cell (p := ⟨B2, O2 + 3, none⟩) (Lib.lt_of_cell HZ3.out)).trans HZ3.out
                clear HZ2 HZ3 hb3 HNb z0 z1 HB2
                go_wp2_with fail
                go_ret
                exact ⟨ret_bool HK.out.symm, HB3.out⟩
              · skip
                have q3 : (d.toList == s.toList) = false := (eq_bytes d s).trans (decide_eq_false e3)
                have p3 : ¬ d.toList = s.toList := by simpa using q3
                have HK : Hid (refTwB L i s = refTwFrom L s (k + 1) (i - (k + 1))) := by show _ = _; rw [hst.out, HT.out, decide_eq_true e0, decide_eq_true e2, decide_eq_false e3]; rfl
                clear e0 e2 e3 hst HT
                go_wp2_with fail
                refine HPk.mono ?_
                clear HPk
                rintro e w2 ⟨A3, c3, rfl, hk1, hk2, hrd, -, hb2⟩
                obtain ⟨B2, O2, rfl, z0, z1, z2, z3⟩ := HSE.out A3 w2 hrd
                have HB2 := Lib.hid (below_step HB.out hb2)
                have HZ2 := Lib.hid z2
                have HZ3 := Lib.hid z3
                clear hrd hb2 HB HSE z2 z3
                go_wp2_with fail
                refine (HNb.out w2).mono ?_
                rintro e w3 ⟨rfl, hb3⟩
                have HB3 := Lib.hid (below_step HB2.out hb3)
                have z2 := (hb3.cell (p := ⟨B2, O2 + 2, none⟩) (Lib.lt_of_cell HZ2.out)).trans HZ2.out
                have z3 := (hb3.cell (p := ⟨B2, O2 + 3, none⟩) (Lib.lt_of_cell HZ3.out)).trans HZ3.out
                clear HZ2 HZ3 hb3 HNb z0 z1 HB2
                go_wp2_with fail
                go_roundw
                case rel => exact ⟨k + 1, by omega, by go_num, HK, HB3⟩
                case measure => simp [intOf]; omega
            · skip
              have q2 : (c.toList == [105, 112]) = false := (type_eq c _).trans (decide_eq_false e2)
              have p2 : ¬ c.toList = [105, 112] := by simpa using q2
              have HK : Hid (refTwB L i s = refTwFrom L s (k + 1) (i - (k + 1))) := by show _ = _; rw [hst.out, HT.out, decide_eq_true e0, decide_eq_false e2]; rfl
              clear e0 e2 hst HT
              go_wp2_with fail
              refine HPk.mono ?_
              clear HPk
              rintro e w2 ⟨A3, c3, rfl, hk1, hk2, hrd, -, hb2⟩
              obtain ⟨B2, O2, rfl, z0, z1, z2, z3⟩ := HSE.out A3 w2 hrd
              have HB2 := Lib.hid (below_step HB.out hb2)
              have HZ2 := Lib.hid z2
              have HZ3 := Lib.hid z3
              clear hrd hb2 HB HSE z2 z3
              go_wp2_with fail
              refine (HNb.out w2).mono ?_
              rintro e w3 ⟨rfl, hb3⟩
              have HB3 := Lib.hid (below_step HB2.out hb3)
              have z2 := (hb3.cell (p := ⟨B2, O2 + 2, none⟩) (Lib.lt_of_cell HZ2.out)).trans HZ2.out
              have z3 := (hb3.cell (p := ⟨B2, O2 + 3, none⟩) (Lib.lt_of_cell HZ3.out)).trans HZ3.out
              clear HZ2 HZ3 hb3 HNb z0 z1 HB2
              go_wp2_with fail
              go_roundw
              case rel => exact ⟨k + 1, by omega, by go_num, HK, HB3⟩
              case measure => simp [intOf]; omega
        · skip
          have q0 : (a.toList == [104, 111, 115, 116, 115]) = false := (type_eq a _).trans (decide_eq_false e0)
          have p0 : ¬ a.toList = [104, 111, 115, 116, 115] := by simpa using q0
          have HK : Hid (refTwB L i s = refTwFrom L s (k + 1) (i - (k + 1))) := by show _ = _; rw [hst.out, HT.out, decide_eq_false e0]; rfl
          clear e0 hst HT
          go_wp2_with fail
          refine HPk.mono ?_
          clear HPk
          rintro e w2 ⟨A3, c3, rfl, hk1, hk2, hrd, -, hb2⟩
          obtain ⟨B2, O2, rfl, z0, z1, z2, z3⟩ := HSE.out A3 w2 hrd
          have HB2 := Lib.hid (below_step HB.out hb2)
          clear hrd hb2 HB HSE
          go_wp2_with fail
          go_roundw
          case rel => exact ⟨k + 1, by omega, by go_num, HK, HB2⟩
          case measure => simp [intOf]; omega
      · have HK : Hid (refTwB L i s = refTwFrom L s (k + 1) (i - (k + 1))) := by
          show _ = _
          rw [hst.out]
          unfold rtest
          rw [decide_eq_false h4]; rfl
        have q4 : ((Q.length : Int) == 4) = false := by simp; omega
        have p4 : ¬ (Q.length : Int) = 4 := by omega
        clear hst HNm HSk h4
        go_wp2_with fail
        refine HPk.mono ?_
        clear HPk
        rintro e w2 ⟨A3, c3, rfl, hk1, hk2, hrd, -, hb2⟩
        have HB2 := Lib.hid (below_step HB.out hb2)
        clear hrd hb2 HB
        go_wp2_with fail
        go_roundw
        case rel => exact ⟨k + 1, by omega, by go_num, HK, HB2⟩
        case measure => simp [intOf]; omega
    · obtain rfl : k = i := by omega
      have HK : Hid (refTwB L k s = false) := by show _ = _; rw [HQ.out, Nat.sub_self]; rfl
      clear HQ
      go_wp2_with fail
      go_ret
      exact ⟨ret_bool HK.out.symm, HB.out⟩

set_option maxHeartbeats 8000000 in
set_option maxRecDepth 100000 in
theorem refMeant_any (A : Option Addr) (cap : Nat) (L : List Line) (i : Nat) (A2 : Option Addr) (c2 : Nat) (a b c d : ByteArray) (w : World) (hR : Rd w 3 A L.length (lines L)) (hcap : L.length ≤ cap) (hc : cap ≤ maxLen) (hr : rightB L = true) (hi : i ≤ L.length) (hP : Rd w 1 A2 4 (sv [a, b, c, d])) (hps : Shw [a, b, c, d]) :
    Calls Tryz.prog 44 #[.slice A L.length cap, .int .i64 i, .slice A2 4 c2] w fun e w' => e = .returned (.bool (refMeantB L i [a, b, c, d])) ∧ Below w.heap.size w w' := by
  obtain ⟨B, O, rfl, hz⟩ := str_same (P := [a, b, c, d]) hP (by simp)
  have z0 : w.cell? ⟨B, O, none⟩ = some (.string a) := hz 0 (by simp)
  have z1 : w.cell? ⟨B, O + 1, none⟩ = some (.string b) := hz 1 (by simp)
  have z2 : w.cell? ⟨B, O + 2, none⟩ = some (.string c) := hz 2 (by simp)
  have z3 : w.cell? ⟨B, O + 3, none⟩ = some (.string d) := hz 3 (by simp)
  have ha : a.size ≤ 100000000 := hps a (by simp)
  have hb : b.size ≤ 100000000 := hps b (by simp)
  have hcs : c.size ≤ 100000000 := hps c (by simp)
  have HTw := Lib.hid (fun W (hb : Below w.heap.size w W) => refTwice_any A cap L i d W (hR.below hb) hcap hc hr hi)
  have HTh := Lib.hid (fun x W (hb : Below w.heap.size w W) => refThere_any A cap L x d W (hR.below hb) hcap hc hr)
  have HOu := Lib.hid (fun W (hw : Below w.heap.size w W) => refOut_any A cap L b d W (hR.below hw) hcap hc hr hb)
  obtain ⟨S, hS⟩ : ∃ S, a ++ ⟨#[32]⟩ ++ c = S := ⟨_, rfl⟩
  have HT := Lib.hid (fun x y hx hy => cat_test hS x y hx hy)
  have hs1 : (a ++ ⟨#[32]⟩ : ByteArray).size = a.size + 1 := by rw [ByteArray.size_append]; rfl
  have HX : Hid (refMeantB L i [a, b, c, d] = if a = wHosts ∧ c = wIp then refTwB L i d else if a = wBind ∧ c = wHost ∨ a = wRoutes ∧ c = wVia then !(isThere L wHosts d) else if a = wHosts ∧ c = wVnis then !(isThere L wVnis d) else if a = wBind ∧ c = wVni then !(isThere L wVnis d) || refOutB L b d else false) := rfl
  unfold maxLen at hc
  clear hR hr hP hps hz
  by_cases e0 : a = wHosts ∧ c = wIp
  · skip
    have q0 : (S.toList == [104, 111, 115, 116, 115, 32, 105, 112]) = true := (HT.out [104, 111, 115, 116, 115] [105, 112] (by decide) (by decide)).trans (decide_eq_true e0)
    have p0 : S.toList = [104, 111, 115, 116, 115, 32, 105, 112] := by simpa using q0
    have HK : Hid (refMeantB L i [a, b, c, d] = refTwB L i d) := by show _ = _; rw [HX.out, if_pos e0]
    clear HT HTh HOu HX e0
    go_enter Tryz.func44, Tryz.ntmps44
    go_wp2_with fail
    go_quiet (fail)
    have HBq := Lib.hid (below_drewN (Below.refl w.heap.size w) nq)
    go_wp2_with fail
    refine (HTw.out _ HBq.out).mono ?_
    rintro e w2 ⟨rfl, hb2⟩
    go_wp2_with fail
    go_ret
    exact ⟨ret_bool HK.out.symm, below_step HBq.out hb2⟩
  by_cases e1 : a = wBind ∧ c = wHost
  · skip
    have q0 : (S.toList == [104, 111, 115, 116, 115, 32, 105, 112]) = false := (HT.out [104, 111, 115, 116, 115] [105, 112] (by decide) (by decide)).trans (decide_eq_false e0)
    have p0 : ¬ S.toList = [104, 111, 115, 116, 115, 32, 105, 112] := by simpa using q0
    have q1 : (S.toList == [98, 105, 110, 100, 105, 110, 103, 115, 32, 104, 111, 115, 116]) = true := (HT.out [98, 105, 110, 100, 105, 110, 103, 115] [104, 111, 115, 116] (by decide) (by decide)).trans (decide_eq_true e1)
    have p1 : S.toList = [98, 105, 110, 100, 105, 110, 103, 115, 32, 104, 111, 115, 116] := by simpa using q1
    have HK : Hid (refMeantB L i [a, b, c, d] = !(isThere L wHosts d)) := by show _ = _; rw [HX.out, if_neg e0, if_pos (.inl e1)]
    have HTx := Lib.hid (fun W (hb : Below w.heap.size w W) => HTh.out wHosts W hb)
    generalize isThere L wHosts d = tb at *
    unfold wHosts at HTx
    clear HT HTh HOu HTw HX e0 e1
    go_enter Tryz.func44, Tryz.ntmps44
    go_wp2_with fail
    go_quiet (fail)
    have HBq := Lib.hid (below_drewN (Below.refl w.heap.size w) nq)
    go_wp2_with fail
    refine (HTx.out _ HBq.out).mono ?_
    rintro e w2 ⟨rfl, hb2⟩
    go_wp2_with fail
    go_ret
    exact ⟨ret_bool HK.out.symm, below_step HBq.out hb2⟩
  by_cases e2 : a = wRoutes ∧ c = wVia
  · skip
    have q0 : (S.toList == [104, 111, 115, 116, 115, 32, 105, 112]) = false := (HT.out [104, 111, 115, 116, 115] [105, 112] (by decide) (by decide)).trans (decide_eq_false e0)
    have p0 : ¬ S.toList = [104, 111, 115, 116, 115, 32, 105, 112] := by simpa using q0
    have q1 : (S.toList == [98, 105, 110, 100, 105, 110, 103, 115, 32, 104, 111, 115, 116]) = false := (HT.out [98, 105, 110, 100, 105, 110, 103, 115] [104, 111, 115, 116] (by decide) (by decide)).trans (decide_eq_false e1)
    have p1 : ¬ S.toList = [98, 105, 110, 100, 105, 110, 103, 115, 32, 104, 111, 115, 116] := by simpa using q1
    have q2 : (S.toList == [114, 111, 117, 116, 101, 115, 32, 118, 105, 97]) = true := (HT.out [114, 111, 117, 116, 101, 115] [118, 105, 97] (by decide) (by decide)).trans (decide_eq_true e2)
    have p2 : S.toList = [114, 111, 117, 116, 101, 115, 32, 118, 105, 97] := by simpa using q2
    have HK : Hid (refMeantB L i [a, b, c, d] = !(isThere L wHosts d)) := by show _ = _; rw [HX.out, if_neg e0, if_pos (.inr e2)]
    have HTx := Lib.hid (fun W (hb : Below w.heap.size w W) => HTh.out wHosts W hb)
    generalize isThere L wHosts d = tb at *
    unfold wHosts at HTx
    clear HT HTh HOu HTw HX e0 e1 e2
    go_enter Tryz.func44, Tryz.ntmps44
    go_wp2_with fail
    go_quiet (fail)
    have HBq := Lib.hid (below_drewN (Below.refl w.heap.size w) nq)
    go_wp2_with fail
    refine (HTx.out _ HBq.out).mono ?_
    rintro e w2 ⟨rfl, hb2⟩
    go_wp2_with fail
    go_ret
    exact ⟨ret_bool HK.out.symm, below_step HBq.out hb2⟩
  by_cases e3 : a = wHosts ∧ c = wVnis
  · skip
    have q0 : (S.toList == [104, 111, 115, 116, 115, 32, 105, 112]) = false := (HT.out [104, 111, 115, 116, 115] [105, 112] (by decide) (by decide)).trans (decide_eq_false e0)
    have p0 : ¬ S.toList = [104, 111, 115, 116, 115, 32, 105, 112] := by simpa using q0
    have q1 : (S.toList == [98, 105, 110, 100, 105, 110, 103, 115, 32, 104, 111, 115, 116]) = false := (HT.out [98, 105, 110, 100, 105, 110, 103, 115] [104, 111, 115, 116] (by decide) (by decide)).trans (decide_eq_false e1)
    have p1 : ¬ S.toList = [98, 105, 110, 100, 105, 110, 103, 115, 32, 104, 111, 115, 116] := by simpa using q1
    have q2 : (S.toList == [114, 111, 117, 116, 101, 115, 32, 118, 105, 97]) = false := (HT.out [114, 111, 117, 116, 101, 115] [118, 105, 97] (by decide) (by decide)).trans (decide_eq_false e2)
    have p2 : ¬ S.toList = [114, 111, 117, 116, 101, 115, 32, 118, 105, 97] := by simpa using q2
    have q3 : (S.toList == [104, 111, 115, 116, 115, 32, 118, 110, 105, 115]) = true := (HT.out [104, 111, 115, 116, 115] [118, 110, 105, 115] (by decide) (by decide)).trans (decide_eq_true e3)
    have p3 : S.toList = [104, 111, 115, 116, 115, 32, 118, 110, 105, 115] := by simpa using q3
    have HK : Hid (refMeantB L i [a, b, c, d] = !(isThere L wVnis d)) := by show _ = _; rw [HX.out, if_neg e0, if_neg (not_or.2 ⟨e1, e2⟩), if_pos e3]
    have HTx := Lib.hid (fun W (hb : Below w.heap.size w W) => HTh.out wVnis W hb)
    generalize isThere L wVnis d = tb at *
    unfold wVnis at HTx
    clear HT HTh HOu HTw HX e0 e1 e2 e3
    go_enter Tryz.func44, Tryz.ntmps44
    go_wp2_with fail
    go_quiet (fail)
    have HBq := Lib.hid (below_drewN (Below.refl w.heap.size w) nq)
    go_wp2_with fail
    refine (HTx.out _ HBq.out).mono ?_
    rintro e w2 ⟨rfl, hb2⟩
    go_wp2_with fail
    go_ret
    exact ⟨ret_bool HK.out.symm, below_step HBq.out hb2⟩
  by_cases e4 : a = wBind ∧ c = wVni
  · skip
    have q0 : (S.toList == [104, 111, 115, 116, 115, 32, 105, 112]) = false := (HT.out [104, 111, 115, 116, 115] [105, 112] (by decide) (by decide)).trans (decide_eq_false e0)
    have p0 : ¬ S.toList = [104, 111, 115, 116, 115, 32, 105, 112] := by simpa using q0
    have q1 : (S.toList == [98, 105, 110, 100, 105, 110, 103, 115, 32, 104, 111, 115, 116]) = false := (HT.out [98, 105, 110, 100, 105, 110, 103, 115] [104, 111, 115, 116] (by decide) (by decide)).trans (decide_eq_false e1)
    have p1 : ¬ S.toList = [98, 105, 110, 100, 105, 110, 103, 115, 32, 104, 111, 115, 116] := by simpa using q1
    have q2 : (S.toList == [114, 111, 117, 116, 101, 115, 32, 118, 105, 97]) = false := (HT.out [114, 111, 117, 116, 101, 115] [118, 105, 97] (by decide) (by decide)).trans (decide_eq_false e2)
    have p2 : ¬ S.toList = [114, 111, 117, 116, 101, 115, 32, 118, 105, 97] := by simpa using q2
    have q3 : (S.toList == [104, 111, 115, 116, 115, 32, 118, 110, 105, 115]) = false := (HT.out [104, 111, 115, 116, 115] [118, 110, 105, 115] (by decide) (by decide)).trans (decide_eq_false e3)
    have p3 : ¬ S.toList = [104, 111, 115, 116, 115, 32, 118, 110, 105, 115] := by simpa using q3
    have q4 : (S.toList == [98, 105, 110, 100, 105, 110, 103, 115, 32, 118, 110, 105]) = true := (HT.out [98, 105, 110, 100, 105, 110, 103, 115] [118, 110, 105] (by decide) (by decide)).trans (decide_eq_true e4)
    have p4 : S.toList = [98, 105, 110, 100, 105, 110, 103, 115, 32, 118, 110, 105] := by simpa using q4
    have HK : Hid (refMeantB L i [a, b, c, d] = (!(isThere L wVnis d) || refOutB L b d)) := by show _ = _; rw [HX.out, if_neg e0, if_neg (not_or.2 ⟨e1, e2⟩), if_neg e3, if_pos e4]
    clear HT HTw HX e0 e1 e2 e3 e4
    go_enter Tryz.func44, Tryz.ntmps44
    go_wp2_with fail
    go_quiet (fail)
    have HBq := Lib.hid (below_drewN (Below.refl w.heap.size w) nq)
    have hth : ∀ m os, Calls Tryz.prog 78 #[.slice A L.length cap, .string wVnis, .string d] (grow (redrawn (w.drewN nq) m) os) fun e w' => e = .returned (.bool (isThere L wVnis d)) ∧ ∃ p : Regrown, w' = grow (redrawn (w.drewN nq) p.d) p.os := fun m os => Calls.regrown_of (HTh.out wVnis _ (below_step HBq.out (below_regrown _ m os)))
    have hou : ∀ m os, Calls Tryz.prog 79 #[.slice A L.length cap, .string b, .string d] (grow (redrawn (w.drewN nq) m) os) fun e w' => e = .returned (.bool (refOutB L b d)) ∧ ∃ p : Regrown, w' = grow (redrawn (w.drewN nq) p.d) p.os := fun m os => Calls.regrown_of (HOu.out _ (below_step HBq.out (below_regrown _ m os)))
    have Z3 := fun m os => cell_regrown (w := w.drewN nq) (show (w.drewN nq).cell? ⟨B, O + 3, none⟩ = _ from z3) m os
    have Z1 := fun m os => cell_regrown (w := w.drewN nq) (show (w.drewN nq).cell? ⟨B, O + 1, none⟩ = _ from z1) m os
    unfold wVnis at hth
    have HK2 : Hid (refMeantB L i [a, b, c, d] = (!(isThere L ⟨#[118, 110, 105, 115]⟩ d) || refOutB L b d)) := HK.out
    clear z3 z1 z0 z2 HTh HOu HK
    generalize isThere L ⟨#[118, 110, 105, 115]⟩ d = tb at *
    generalize refOutB L b d = ob at *
    generalize w.drewN nq = wq at *
    go_wp2_with fail
    cases tb with
    | true =>
      have HK3 : Hid (refMeantB L i [a, b, c, d] = ob) := by show _ = _; rw [HK2.out]; rfl
      clear HK2
      refine wp_region_quiet_below (by kernel_rfl) (by kernel_rfl) ?_
      repeat (go_big_quiet_step ((first | (go_at_call 78; exact hth _ _) | (go_at_call 79; exact hou _ _))))
      refine wpQuiet_nil ?_
      intro _ hw'
      obtain ⟨⟨dq, osq⟩, hw''⟩ := hw'
      subst hw''
      go_wp2_with fail
      go_ret
      exact ⟨ret_bool HK3.out.symm, below_step HBq.out (below_regrown wq dq osq)⟩
    | false =>
      have HK3 : Hid (refMeantB L i [a, b, c, d] = true) := by show _ = _; rw [HK2.out]; rfl
      clear HK2 hou
      refine wp_region_quiet_below (by kernel_rfl) (by kernel_rfl) ?_
      repeat (go_big_quiet_step ((first | (go_at_call 78; exact hth _ _))))
      refine wpQuiet_nil ?_
      intro _ hw'
      obtain ⟨⟨dq, osq⟩, hw''⟩ := hw'
      subst hw''
      go_wp2_with fail
      go_ret
      exact ⟨ret_bool HK3.out.symm, below_step HBq.out (below_regrown wq dq osq)⟩
  have HK : Hid (refMeantB L i [a, b, c, d] = false) := by show _ = _; rw [HX.out, if_neg e0, if_neg (not_or.2 ⟨e1, e2⟩), if_neg e3, if_neg e4]
  have q0 : (S.toList == [104, 111, 115, 116, 115, 32, 105, 112]) = false := (HT.out [104, 111, 115, 116, 115] [105, 112] (by decide) (by decide)).trans (decide_eq_false e0)
  have p0 : ¬ S.toList = [104, 111, 115, 116, 115, 32, 105, 112] := by simpa using q0
  have q1 : (S.toList == [98, 105, 110, 100, 105, 110, 103, 115, 32, 104, 111, 115, 116]) = false := (HT.out [98, 105, 110, 100, 105, 110, 103, 115] [104, 111, 115, 116] (by decide) (by decide)).trans (decide_eq_false e1)
  have p1 : ¬ S.toList = [98, 105, 110, 100, 105, 110, 103, 115, 32, 104, 111, 115, 116] := by simpa using q1
  have q2 : (S.toList == [114, 111, 117, 116, 101, 115, 32, 118, 105, 97]) = false := (HT.out [114, 111, 117, 116, 101, 115] [118, 105, 97] (by decide) (by decide)).trans (decide_eq_false e2)
  have p2 : ¬ S.toList = [114, 111, 117, 116, 101, 115, 32, 118, 105, 97] := by simpa using q2
  have q3 : (S.toList == [104, 111, 115, 116, 115, 32, 118, 110, 105, 115]) = false := (HT.out [104, 111, 115, 116, 115] [118, 110, 105, 115] (by decide) (by decide)).trans (decide_eq_false e3)
  have p3 : ¬ S.toList = [104, 111, 115, 116, 115, 32, 118, 110, 105, 115] := by simpa using q3
  have q4 : (S.toList == [98, 105, 110, 100, 105, 110, 103, 115, 32, 118, 110, 105]) = false := (HT.out [98, 105, 110, 100, 105, 110, 103, 115] [118, 110, 105] (by decide) (by decide)).trans (decide_eq_false e4)
  have p4 : ¬ S.toList = [98, 105, 110, 100, 105, 110, 103, 115, 32, 118, 110, 105] := by simpa using q4
  clear HT HTh HOu HTw HX e0 e1 e2 e3 e4
  go_enter Tryz.func44, Tryz.ntmps44
  go_wp2_with fail
  go_quiet (fail)
  have HBq := Lib.hid (below_drewN (Below.refl w.heap.size w) nq)
  go_wp2_with fail
  go_ret
  exact ⟨ret_bool HK.out.symm, HBq.out⟩
end Go.Proofs.YtfgjlnaojjldcaaGreatDoor

namespace Go.Proofs.YtfgjlnaojjldcaaGreatDoor
open Go Go.RowKit Go.Sort Sch Adr Mtr Tre

/-- An append of one element that the call has just laid; paths stay. -/
theorem app_keep {P : Program} {ops : Array Oper} {rest : List Oper} {o : Oper} {a : Act} {Q : Exit → Act → World → Prop} (hgd : o.guard = none) (s x : Operand) (t : TypeId)
    (ho : o.op = .call { callee := .builtin .append, args := #[s, x], argTypes := #[t, t] })
    (w0 wr : World) (e : TypeId) (i : TypeInfo) (z : Value) (k bytes : Nat) (ht : P.underlying t = some (.slice e)) (hi : P.info? e = some i) (hz : i.zero = some z)
    (hsize : i.size = k) (hby : i.bytes = bytes) (hzs : z.cells.size = k) (hsz : 0 < k) (hb64 : bytes ≤ 64)
    {v : Value} {xs : List Item} (hown : Pl wr w0.heap.size e k v xs) (hb : Below w0.heap.size w0 wr) (hs : a.eval s = v)
    (u : Value) (y : Item) (hy : y.2.length + 1 = k) (hy1 : ∀ c ∈ y.2, c.oneCell' = true) (hu : Pv wr u y.1) (hx : a.eval x = .slice (some ⟨wr.heap.size, 0, none⟩) 1 1) (hN : xs.length + 1 ≤ 1000000000)
    (h : ∀ v' w', Pl w' w0.heap.size e k v' (xs ++ [y]) → Below w0.heap.size w0 w' → (∀ u P, Pv wr u P → Pv w' u P) → wpList P ops Q rest (a.put o.dst v') w') :
    wpList P ops Q (o :: rest) a (wr.alloc (.cells (u :: y.2).toArray e)) := by
  have hbytes : (xs.length + 1) * bytes ≤ 140737488355328 := Nat.le_trans (Nat.mul_le_mul hN hb64) (by decide)
  have hba : Below wr.heap.size wr (wr.alloc (.cells (u :: y.2).toArray e)) := (Below.refl _ _).alloc (Nat.le_refl _) _
  have hP := hown.below hba
  have hP2 := hP
  obtain ⟨-, -, vs, h3, h4⟩ := hP
  refine wpList_append_own _ hgd s x t ho w0.heap.size e i z k bytes ht hi hz hsize hby hzs hsz v xs.length (icells vs xs) hs h4 ⟨wr.heap.size, 0, none⟩ 1 1 (u :: y.2) hx (by simp; omega) ?_ ?_ (by unfold maxLen; omega) hbytes (Nat.le_trans hb.size (by simp)) ?_
  · intro j c hc
    rw [add_plain, Nat.zero_add, World.cell?_alloc_at _ _ _ _ rfl]
    simpa using hc
  · intro c hc
    rcases List.mem_cons.1 hc with rfl | hc
    · exact hu.one
    · exact hy1 c hc
  · intro v' w' hown' hg hnil
    refine h v' w' ?_ ((hb.alloc hb.size _).grown hg (Nat.le_trans hb.size (by simp)) fun q hq => (h4.lt q hq).1) fun u P hp => (hp.below hba).kept hg (own_apart hP2 hsz (hp.below hba))
    refine ⟨fun c hc => ?_, fun e => by simp at e, vs ++ [u], ?_, ?_⟩
    · rcases List.mem_append.1 hc with hc | hc
      · exact hown.1 c hc
      · rw [List.mem_singleton.1 hc]; exact hy
    · have e1 : Pvs w' vs xs := ⟨h3.1, fun i hi hv => (h3.2 i hi hv).kept hg (own_apart hP2 hsz (h3.2 i hi hv))⟩
      exact e1.append (Pvs.single ((hu.below hba).kept hg (own_apart hP2 hsz (hu.below hba))))
    · rw [icells_append h3.1, icells_one, List.length_append]
      exact hown'
theorem needs2_len (a : ByteArray) : (needs2 a).length ≤ 3 := by
  unfold needs2
  repeat' split
  all_goals simp
theorem one_ref (L : List Line) (i : Nat) (a b c : ByteArray) : refLineF L i [a, b, c] = if (thirdB a c).2.1 = true then (if (kidsB L i).length = 0 then [([a, b, c], 1)] else if 1 < (kidsB L i).length then [([a, b, c], 4)] else []) else [] := by
  unfold refLineF refOneF refMissF refMeantF
  rw [if_neg (show ¬ [a, b, c].length = 2 by simp), if_neg (show ¬ ([a, b, c].length = 4 ∧ _) by simp), List.append_nil, List.append_nil]
  by_cases h : (thirdB a c).2.1 = true
  · rw [if_pos (show [a, b, c].length = 3 ∧ (thirdB ([a, b, c].getD 0 noB) ([a, b, c].getD 2 noB)).2.1 = true from ⟨rfl, h⟩), if_pos h]
  · rw [if_neg (show ¬ ([a, b, c].length = 3 ∧ (thirdB ([a, b, c].getD 0 noB) ([a, b, c].getD 2 noB)).2.1 = true) from fun x => h x.2), if_neg h]
theorem two_ref (L : List Line) (i : Nat) (a b : ByteArray) : refLineF L i [a, b] = missF L i [a, b] (needs2 a) := by
  unfold refLineF refOneF refMissF refMeantF
  rw [if_pos (show [a, b].length = 2 by simp), if_neg (show ¬ ([a, b].length = 3 ∧ _) by simp), if_neg (show ¬ ([a, b].length = 4 ∧ _) by simp), List.append_nil, List.nil_append]; rfl
theorem four_ref (L : List Line) (i : Nat) (a b c d : ByteArray) : refLineF L i [a, b, c, d] = if refMeantB L i [a, b, c, d] = true then [([a, b, c, d], 7)] else [] := by
  unfold refLineF refOneF refMissF refMeantF
  rw [if_neg (show ¬ ([a, b, c, d].length = 3 ∧ _) by simp), if_neg (show ¬ [a, b, c, d].length = 2 by simp), List.nil_append, List.nil_append]
  by_cases h : refMeantB L i [a, b, c, d] = true
  · rw [if_pos ⟨rfl, h⟩, if_pos h]
  · rw [if_neg (fun x => h x.2), if_neg h]
theorem other_ref (L : List Line) (i : Nat) {P : List ByteArray} (h2 : P.length ≠ 2) (h3 : P.length ≠ 3) (h4 : P.length ≠ 4) : refLineF L i P = [] := by
  unfold refLineF refOneF refMissF refMeantF
  rw [if_neg (fun x => h3 x.1), if_neg h2, if_neg (fun x => h4 x.1)]; rfl
theorem len_three {P : List ByteArray} (h : P.length = 3) : ∃ a b c, P = [a, b, c] := by
  rcases P with _ | ⟨a, _ | ⟨b, _ | ⟨c, _ | ⟨d, l⟩⟩⟩⟩
  all_goals first | exact ⟨_, _, _, rfl⟩ | (simp at h)
theorem two_words {P : List ByteArray} (h : P.length = 2) : ∃ a b, P = [a, b] := by
  rcases P with _ | ⟨a, _ | ⟨b, _ | ⟨c, l⟩⟩⟩
  all_goals first | exact ⟨_, _, rfl⟩ | (simp at h)

set_option maxHeartbeats 16000000 in
set_option maxRecDepth 100000 in
theorem refCheck_any (A : Option Addr) (cap : Nat) (L : List Line) (w : World) (hR : Rd w 3 A L.length (lines L)) (hcap : L.length ≤ cap) (hc : cap ≤ maxLen) (hr : rightB L = true) :
    Calls Tryz.prog 16 #[.slice A L.length cap] w fun e w' => (∃ v, e = .returned v ∧ Pl w' w.heap.size 66 2 v ((checkB L).map fitem)) ∧ Below w.heap.size w w' := by
  obtain ⟨i0, hii, hz0, hz1, hz2⟩ := info_parts info_rfault
  have h200 := right_len hr
  have HPa : Hid (∀ (k : Nat), k < L.length → ∀ W, Below w.heap.size w W → Calls Tryz.prog 25 #[.slice A L.length cap, .int .i64 k] W (StrsEnd W (pa L k))) := fun k hk W hb => by
    have := refPath_lines A cap L k W (hR.below hb) hcap hc (by omega) hk
    rw [path_pa (right_parts hr).2.1 hk] at this; exact this
  have HKn := Lib.hid (fun A2 c2 P W => known_any A2 c2 P W)
  have HEn := Lib.hid (fun (k : Nat) (hk : k < L.length) W (hb : Below w.heap.size w W) => refEnd_lines A cap L k W (hR.below hb) hcap hc hk)
  have HKi : Hid (∀ (k : Nat), k < L.length → ∀ W, Below w.heap.size w W → Calls Tryz.prog 41 #[.slice A L.length cap, .int .i64 k] W (KidsEnd W (kidsB L k))) := fun k hk W hb => by
    have := refKids_lines A cap L k W (hR.below hb) hcap hc (by omega)
    rw [refKids_eq hr hk] at this; exact this
  have HHa := Lib.hid (fun (k : Nat) (hk : k < L.length) s W (hb : Below w.heap.size w W) => has_any A cap L k s W (hR.below hb) hcap hc hr hk)
  have HMe := Lib.hid (fun (k : Nat) (hk : k < L.length) A2 c2 a b c d W (hb : Below w.heap.size w W) => refMeant_any A cap L k A2 c2 a b c d W (hR.below hb) hcap hc hr (by omega))
  have HSh := Lib.hid (fun (k : Nat) (hk : k < L.length) => pa_short hr hk)
  have HA0 : Hid (0 < L.length → aliveP (pa L 0) = true) := fun h => alive_zero hr h
  have HKs : Hid (∀ k, k < L.length → aliveP (pa L k) = true → knownB (pa L k) = 0 → checkTo L (k + 1) = checkTo L k ++ refLineF L k (pa L k) ∧ (k + 1 < L.length → aliveP (pa L (k + 1)) = true)) := fun k hk ha h => by
    obtain ⟨h1, h2⟩ := ref_known hr hk ha h
    exact ⟨h1, fun h3 => alive_step hr h3 ha h2⟩
  have HSk : Hid (∀ k, k < L.length → aliveP (pa L k) = true → knownB (pa L k) ≠ 0 → checkTo L (endB L k) = checkTo L k ++ [(pa L k, knownB (pa L k))] ∧ (endB L k < L.length → aliveP (pa L (endB L k)) = true)) := fun k hk ha h =>
    ⟨ref_skip hr hk ha h, fun h2 => alive_end hr hk h2 ha⟩
  have HEb := Lib.hid (fun (k : Nat) (hk : k < L.length) => endB_le L k hk)
  have HCL := Lib.hid (check_len L)
  have HAll := Lib.hid (check_all (L := L))
  clear hR hr
  go_enter Tryz.func16, Tryz.ntmps16
  go_wp2_with fail
  go_loopw [3, 4] (fun v vi wr => ∃ k : Nat, k ≤ L.length ∧ vi = .int .i64 k ∧ Hid (k < L.length → aliveP (pa L k) = true) ∧ Hid (Pl wr w.heap.size 66 2 v ((checkTo L k).map fitem)) ∧ Hid (Below w.heap.size w wr)) (fun _ vi _ => L.length - (intOf vi).toNat)
  case atStart => exact ⟨0, Nat.zero_le _, rfl, HA0, Pl.nil _ _ _ _, Below.refl _ _⟩
  case round =>
    clear HA0
    obtain ⟨k, hk, rfl, HA, HP, HB⟩ := hrel
    by_cases hlt : k < L.length
    · have ha := HA.out hlt
      have HPk := HPa.out k hlt wr HB.out
      have HKS := Lib.hid (HKs.out k hlt ha)
      have HSS := Lib.hid (HSk.out k hlt ha)
      have hsh := HSh.out k hlt
      have HEk := Lib.hid (HEn.out k hlt)
      have HKk := Lib.hid (HKi.out k hlt)
      have HHk := Lib.hid (HHa.out k hlt)
      have HMk := Lib.hid (HMe.out k hlt)
      have HEB := HEb.out k hlt
      have hcl := HCL.out k
      generalize pa L k = P at *
      have HSP := Lib.hid hsh.2.2
      obtain ⟨hp16, hp0, -⟩ := hsh
      have HLN : Hid (((checkTo L k).map fitem).length ≤ 7200) := by show _ ≤ _; rw [List.length_map]; omega
      have HRF : Hid (refLineF L k P = refLineF L k P) := rfl
      unfold StrsEnd at HPk
      clear HA ha
      go_wp2_with fail
      refine HPk.mono ?_
      rintro e w3 ⟨A3, c3, rfl, hc31, hc32, hrd, ⟨-, hz⟩, hb3⟩
      obtain ⟨pb, rfl, hpv⟩ := path_pv hrd hz hp0 hc31 hc32
      have HPv := Lib.hid hpv
      have HB3 := Lib.hid (below_step HB.out hb3)
      have HP3 := Lib.hid (HP.out.below hb3)
      have HK3 := Lib.hid (HKn.out (some ⟨pb, 0, none⟩) c3 P w3 hrd hp0 (by omega) HSP.out)
      clear HPk HP HB hpv hrd hz hb3
      go_wp2_with fail
      refine HK3.out.mono ?_
      clear HK3
      rintro e w4 ⟨rfl, hb4⟩
      have HB4 := Lib.hid (below_step HB3.out hb4)
      have HP4 := Lib.hid (HP3.out.below hb4)
      have HPv4 := Lib.hid (HPv.out.below hb4)
      clear HB3 HP3 HPv hb4
      by_cases hkb : knownB P = 0
      · have hS := HKS.out hkb
        rw [hkb]
        have HST := Lib.hid hS.1
        have HAL := Lib.hid hS.2
        clear HKS HSS hS HEk hkb
        by_cases h3 : P.length = 3
        · obtain ⟨a, b, c, rfl⟩ := len_three h3
          have hl3 : ([a, b, c] : List ByteArray).length = 3 := rfl
          obtain ⟨B, O, e0, hz⟩ := str_same (P := [a, b, c]) HPv4.out.rd.1 (by simp)
          injection e0 with e0
          injection e0 with ea eb
          subst ea eb
          have z0 : w4.cell? ⟨pb, 0, none⟩ = some (.string a) := hz 0 (by simp)
          have z2 : w4.cell? ⟨pb, 2, none⟩ = some (.string c) := hz 2 (by simp)
          have Z0 := fun m os => cell_regrown z0 m os
          have Z2 := fun m os => cell_regrown z2 m os
          have has : a.size ≤ 100000000 := HSP.out a (by simp)
          have hcs : c.size ≤ 100000000 := HSP.out c (by simp)
          have hth : ∀ m os, Calls Tryz.prog 40 #[.string a, .string c] (grow (redrawn w4 m) os) fun e w' => e = .returned (thirdRet (thirdB a c)) ∧ ∃ p : Regrown, w' = grow (redrawn w4 p.d) p.os := fun m os => Calls.regrown_of (third_any a c _ has hcs)
          unfold thirdRet at hth
          have HRL := Lib.hid (one_ref L k a b c)
          generalize (thirdB a c).1 = kd at *
          generalize (thirdB a c).2.1 = t1 at *
          generalize (thirdB a c).2.2 = t2 at *
          generalize refLineF L k [a, b, c] = rl at *
          unfold KidsEnd at HKk
          clear HMk HHk hz z0 z2 has hcs
          rw [hl3]
          go_wp2_with fail
          refine wp_region_quiet_below (by kernel_rfl) (by kernel_rfl) ?_
          repeat (go_big_quiet_step ((go_at_call 40; exact hth _ _)))
          refine wpQuiet_nil ?_
          intro _ hw'
          obtain ⟨⟨dq, osq⟩, hw''⟩ := hw'
          subst hw''
          have HB5 := Lib.hid (below_step HB4.out (below_regrown w4 dq osq))
          have HP5 := Lib.hid (HP4.out.below (below_regrown w4 dq osq))
          have HPv5 := Lib.hid (HPv4.out.below (below_regrown w4 dq osq))
          clear hth Z0 Z2 HB4 HP4 HPv4
          generalize grow (redrawn w4 dq) osq = w5 at *
          go_wp2_with fail
          refine (HKk.out w5 HB5.out).mono ?_
          rintro e w6 ⟨A6, c6, rfl, hk61, hk62, -, hb6⟩
          have HB6 := Lib.hid (below_step HB5.out hb6)
          have HP6 := Lib.hid (HP5.out.below hb6)
          have HPv6 : Hid (Pv w6 (.slice (some ⟨pb, 0, none⟩) 3 c3) [a, b, c]) := HPv5.out.below hb6
          clear HB5 HP5 HPv5 hb6 HKk
          generalize (kidsB L k).length = n at *
          cases t1 with
          | false =>
            have hrl : rl = [] := HRL.out
            subst hrl
            have HP7 : Hid (Pl w6 w.heap.size 66 2 u3 ((checkTo L (k + 1)).map fitem)) := by show Pl _ _ _ _ _ _; rw [HST.out, List.append_nil]; exact HP6.out
            clear HRL HST HP6
            go_wp2_with fail
            go_roundw
            case rel => exact ⟨k + 1, by omega, by go_num, HAL, HP7, HB6⟩
            case measure => simp [intOf]; omega
          | true =>
            have hrl : rl = if n = 0 then [([a, b, c], 1)] else if 1 < n then [([a, b, c], 4)] else [] := HRL.out
            rcases Nat.lt_trichotomy n 1 with h1 | h1 | h1
            · obtain rfl : n = 0 := by omega
              rw [if_pos rfl] at hrl
              subst hrl
              clear HRL
              go_wp2_with (at_builtin; refine app_item rfl _ _ 30 rfl w w6 66 i0 _ 2 32 Tryz.underlying30 hii hz0 hz1 hz2 rfl (by decide) (by decide) HP6.out HB6.out rfl (.slice (some ⟨pb, 0, none⟩) 3 c3) (fitem ([a, b, c], 1)) rfl (fitem_cells _) HPv6.out rfl (by have := HLN.out; omega) ?_; intro v' w' hown' hb')
              have HP7 : Hid (Pl w' w.heap.size 66 2 v' ((checkTo L (k + 1)).map fitem)) := by show Pl _ _ _ _ _ _; rw [HST.out, List.map_append]; exact hown'
              have HB7 := Lib.hid hb'
              clear hown' hb' HP6 HB6 HST
              go_roundw
              case rel => exact ⟨k + 1, by omega, by go_num, HAL, HP7, HB7⟩
              case measure => simp [intOf]; omega
            · subst h1
              have hrl2 : rl = [] := hrl
              subst hrl2
              have HP7 : Hid (Pl w6 w.heap.size 66 2 u3 ((checkTo L (k + 1)).map fitem)) := by show Pl _ _ _ _ _ _; rw [HST.out, List.append_nil]; exact HP6.out
              clear HRL HST HP6 hrl
              go_wp2_with fail
              go_roundw
              case rel => exact ⟨k + 1, by omega, by go_num, HAL, HP7, HB6⟩
              case measure => simp [intOf]; omega
            · rw [if_neg (by omega), if_pos h1] at hrl
              subst hrl
              have n0 : ¬ ((n : Int) = 0) := by omega
              have n1 : ((n : Int) == 0) = false := by simp; omega
              have n2 : (1 : Int) < (n : Int) := by omega
              clear HRL
              go_wp2_with (at_builtin; refine app_item rfl _ _ 30 rfl w w6 66 i0 _ 2 32 Tryz.underlying30 hii hz0 hz1 hz2 rfl (by decide) (by decide) HP6.out HB6.out rfl (.slice (some ⟨pb, 0, none⟩) 3 c3) (fitem ([a, b, c], 4)) rfl (fitem_cells _) HPv6.out rfl (by have := HLN.out; omega) ?_; intro v' w' hown' hb')
              have HP7 : Hid (Pl w' w.heap.size 66 2 v' ((checkTo L (k + 1)).map fitem)) := by show Pl _ _ _ _ _ _; rw [HST.out, List.map_append]; exact hown'
              have HB7 := Lib.hid hb'
              clear hown' hb' HP6 HB6 HST
              go_roundw
              case rel => exact ⟨k + 1, by omega, by go_num, HAL, HP7, HB7⟩
              case measure => simp [intOf]; omega
        · have n3 : ¬ (P.length : Int) = 3 := by omega
          have m3 : ((P.length : Int) == 3) = false := by simp; omega
          by_cases h4 : P.length = 4
          · obtain ⟨a, b, c, d, rfl⟩ := len_four h4
            have hl4 : ([a, b, c, d] : List ByteArray).length = 4 := rfl
            have HRL := Lib.hid (four_ref L k a b c d)
            have HM := Lib.hid (HMk.out (some ⟨pb, 0, none⟩) c3 a b c d w4 HB4.out HPv4.out.rd.1 HSP.out)
            have HPv5 : Hid (Pv w4 (.slice (some ⟨pb, 0, none⟩) 4 c3) [a, b, c, d]) := HPv4.out
            generalize refLineF L k [a, b, c, d] = rl at *
            generalize refMeantB L k [a, b, c, d] = mb at *
            clear HMk HHk HKk n3 m3 HPv4
            rw [hl4]
            cases mb with
            | true =>
              have hrl : rl = [([a, b, c, d], 7)] := HRL.out
              subst hrl
              clear HRL
              go_wp2_with fail
              refine HM.out.mono ?_
              rintro e w5 ⟨rfl, hb5⟩
              have HB5 := Lib.hid (below_step HB4.out hb5)
              have HP5 := Lib.hid (HP4.out.below hb5)
              have HPv6 := Lib.hid (HPv5.out.below hb5)
              clear HM HB4 HP4 HPv5 hb5
              go_wp2_with (at_builtin; refine app_item rfl _ _ 30 rfl w w5 66 i0 _ 2 32 Tryz.underlying30 hii hz0 hz1 hz2 rfl (by decide) (by decide) HP5.out HB5.out rfl (.slice (some ⟨pb, 0, none⟩) 4 c3) (fitem ([a, b, c, d], 7)) rfl (fitem_cells _) HPv6.out rfl (by have := HLN.out; omega) ?_; intro v' w' hown' hb')
              have HP7 : Hid (Pl w' w.heap.size 66 2 v' ((checkTo L (k + 1)).map fitem)) := by show Pl _ _ _ _ _ _; rw [HST.out, List.map_append]; exact hown'
              have HB7 := Lib.hid hb'
              clear hown' hb' HP5 HB5 HST
              go_roundw
              case rel => exact ⟨k + 1, by omega, by go_num, HAL, HP7, HB7⟩
              case measure => simp [intOf]; omega
            | false =>
              have hrl : rl = [] := HRL.out
              subst hrl
              clear HRL
              go_wp2_with fail
              refine HM.out.mono ?_
              rintro e w5 ⟨rfl, hb5⟩
              have HB5 := Lib.hid (below_step HB4.out hb5)
              have HP7 : Hid (Pl w5 w.heap.size 66 2 u3 ((checkTo L (k + 1)).map fitem)) := by show Pl _ _ _ _ _ _; rw [HST.out, List.append_nil]; exact HP4.out.below hb5
              clear HM HB4 HP4 HPv5 hb5 HST
              go_wp2_with fail
              go_roundw
              case rel => exact ⟨k + 1, by omega, by go_num, HAL, HP7, HB5⟩
              case measure => simp [intOf]; omega
          · have n4 : ¬ (P.length : Int) = 4 := by omega
            have m4 : ((P.length : Int) == 4) = false := by simp; omega
            by_cases h2 : P.length = 2
            · obtain ⟨a, b, rfl⟩ := two_words h2
              have hl2 : ([a, b] : List ByteArray).length = 2 := rfl
              have HRL := Lib.hid (two_ref L k a b)
              obtain ⟨B, O, e0, hz⟩ := str_same (P := [a, b]) HPv4.out.rd.1 (by simp)
              injection e0 with e0
              injection e0 with ea eb
              subst ea eb
              have z0 : w4.cell? ⟨pb, 0, none⟩ = some (.string a) := hz 0 (by simp)
              have HNe := Lib.hid (refNeeds_any a w4)
              have hnl := needs2_len a
              have HPv5 : Hid (Pv w4 (.slice (some ⟨pb, 0, none⟩) 2 c3) [a, b]) := HPv4.out
              have HWi := Lib.hid (fun s W (hP : Pv W (.slice (some ⟨pb, 0, none⟩) 2 c3) [a, b]) => with_any pb c3 [a, b] s W hP (by simp))
              generalize needs2 a = NW at *
              unfold StrsEnd at HNe
              clear HMk HKk n3 m3 n4 m4 HPv4 hz
              rw [hl2]
              go_wp2_with fail
              refine HNe.out.mono ?_
              rintro e w5 ⟨An, cn, rfl, hn1, hn2, hrn, ⟨-, hzn⟩, hb5⟩
              have HB5 := Lib.hid (below_step HB4.out hb5)
              have HP5 := Lib.hid (HP4.out.below hb5)
              have HPv6 := Lib.hid (HPv5.out.below hb5)
              have HNV : Hid (0 < NW.length → ∃ nb, An = some ⟨nb, 0, none⟩ ∧ Pv w5 (.slice (some ⟨nb, 0, none⟩) NW.length cn) NW) := fun h => path_pv hrn hzn h hn1 hn2
              have HRL2 : Hid (refLineF L k [a, b] = missF L k [a, b] NW) := HRL.out
              clear HNe HB4 HP4 HPv5 hb5 z0 hrn hzn HRL
              go_wp2_with fail
              go_loopw [3, 12] (fun v vj wr => ∃ j : Nat, j ≤ NW.length ∧ vj = .int .i64 j ∧ Hid (Pl wr w.heap.size 66 2 v ((checkTo L k ++ missF L k [a, b] (NW.take j)).map fitem)) ∧ Hid (Below w.heap.size w wr) ∧ Hid (Pv wr (.slice (some ⟨pb, 0, none⟩) 2 c3) [a, b]) ∧ Hid (0 < NW.length → ∃ nb, An = some ⟨nb, 0, none⟩ ∧ Pv wr (.slice (some ⟨nb, 0, none⟩) NW.length cn) NW)) (fun _ vj _ => NW.length - (intOf vj).toNat)
              case atStart => exact ⟨0, Nat.zero_le _, rfl, by show Pl _ _ _ _ _ _; simpa [missF] using HP5.out, HB5, HPv6, HNV⟩
              case round =>
                clear HP5 HB5 HPv6 HNV
                obtain ⟨j, hj, rfl, HPj, HBj, HPvj, HNj⟩ := hrel
                by_cases hjl : j < NW.length
                · obtain ⟨nb, rfl, hnv⟩ := HNj.out (by omega)
                  obtain ⟨B, O, e0, -, -, x0⟩ := hnv.rd.1.strAt hjl
                  injection e0 with e0
                  injection e0 with ea eb
                  subst ea eb
                  rw [Nat.zero_add] at x0
                  have hst : Hid (missF L k [a, b] (NW.take (j + 1)) = missF L k [a, b] (NW.take j) ++ (if kidHas L k NW[j] then [] else [([a, b] ++ [NW[j]], 1)])) := by
                    show _ = _
                    rw [List.take_succ_eq_append_getElem hjl, missF_snoc]
                  have hml : (missF L k [a, b] (NW.take j)).length ≤ j := by
                    have := missF_len L k [a, b] (NW.take j)
                    rw [List.length_take] at this; omega
                  have HHj := Lib.hid (fun W hb => HHk.out NW[j] W hb)
                  have HWj := Lib.hid (fun W hP => HWi.out NW[j] W hP)
                  have HML : Hid (((checkTo L k ++ missF L k [a, b] (NW.take j)).map fitem).length + 1 ≤ 1000000000) := by
                    have := HLN.out
                    show _ ≤ _
                    rw [List.length_map] at this ⊢
                    rw [List.length_append]; omega
                  generalize missF L k [a, b] (NW.take j) = M at *
                  generalize NW[j] = s at *
                  generalize kidHas L k s = kh at *
                  have HX0 := Lib.hid x0
                  have HNV := Lib.hid hnv
                  clear HNj hnv hml
                  go_wp2_with fail
                  refine (HHj.out wr HBj.out).mono ?_
                  rintro e w6 ⟨rfl, hb6⟩
                  have HB6 := Lib.hid (below_step HBj.out hb6)
                  have HP6 := Lib.hid (HPj.out.below hb6)
                  have HPv7 := Lib.hid (HPvj.out.below hb6)
                  have HNV6 := Lib.hid (HNV.out.below hb6)
                  have x6 := (hb6.cell (p := ⟨nb, j, none⟩) (Lib.lt_of_cell HX0.out)).trans HX0.out
                  clear HHj HBj HPj HPvj HNV hb6 x0 HX0
                  cases kh with
                  | true =>
                    have HSM : Hid (missF L k [a, b] (NW.take (j + 1)) = M) := by show _ = _; rw [hst.out]; simp
                    clear hst HWj x6
                    go_wp2_with fail
                    go_roundw
                    case rel => exact ⟨j + 1, by omega, by go_num, by show Pl _ _ _ _ _ _; rw [HSM.out]; exact HP6.out, HB6, HPv7, fun _ => ⟨nb, rfl, HNV6.out⟩⟩
                    case measure => simp [intOf]; omega
                  | false =>
                    have HSM : Hid (missF L k [a, b] (NW.take (j + 1)) = M ++ [([a, b] ++ [s], 1)]) := by show _ = _; rw [hst.out]; simp
                    clear hst
                    go_wp2_with fail
                    refine (HWj.out w6 HPv7.out).mono ?_
                    rintro e w7 ⟨⟨v7, rfl, hv7⟩, hb7⟩
                    have HB7 := Lib.hid (below_step HB6.out hb7)
                    have HP7 := Lib.hid (HP6.out.below hb7)
                    have HPv8 := Lib.hid (HPv7.out.below hb7)
                    have HNV7 := Lib.hid (HNV6.out.below hb7)
                    obtain ⟨b7, c7, rfl, -, -, -, -, hv7, -⟩ := hv7.slice
                    have HV7 : Hid (Pv w7 (.slice (some ⟨b7, 0, none⟩) 3 c7) ([a, b] ++ [s])) := hv7
                    have hl7 : ([a, b] ++ [s] : List ByteArray).length = 3 := rfl
                    rw [hl7]
                    clear HWj HB6 HP6 HPv7 HNV6 hv7 hb7 x6 hl7
                    go_wp2_with (at_builtin; refine app_keep rfl _ _ 30 rfl w w7 66 i0 _ 2 32 Tryz.underlying30 hii hz0 hz1 hz2 rfl (by decide) (by decide) HP7.out HB7.out rfl (.slice (some ⟨b7, 0, none⟩) 3 c7) (fitem ([a, b] ++ [s], 1)) rfl (fitem_cells _) HV7.out rfl HML.out ?_; intro v' w' hown' hb' hkp')
                    have HP8 : Hid (Pl w' w.heap.size 66 2 v' ((checkTo L k ++ missF L k [a, b] (NW.take (j + 1))).map fitem)) := by
                      show Pl _ _ _ _ _ _
                      rw [HSM.out, ← List.append_assoc, List.map_append]; exact hown'
                    have HB8 := Lib.hid hb'
                    have HPv9 := Lib.hid (hkp' _ _ HPv8.out)
                    have HNV8 := Lib.hid (hkp' _ _ HNV7.out)
                    clear hown' hb' hkp' HP7 HB7 HPv8 HNV7 HV7 HSM
                    go_roundw
                    case rel => exact ⟨j + 1, by omega, by go_num, HP8, HB8, HPv9, fun _ => ⟨nb, rfl, HNV8.out⟩⟩
                    case measure => simp [intOf]; omega
                · obtain rfl : j = NW.length := by omega
                  have hPj := HPj.out
                  rw [List.take_length, ← HRL2.out, ← HST.out] at hPj
                  have HPF := Lib.hid hPj
                  clear HPj hPj HNj HPvj HST HRL2
                  go_wp2_with fail
                  go_roundw
                  case rel => exact ⟨k + 1, by omega, by go_num, HAL, HPF, HBj⟩
                  case measure => simp [intOf]; omega
            · have n2 : ¬ (P.length : Int) = 2 := by omega
              have m2 : ((P.length : Int) == 2) = false := by simp; omega
              have hrl := other_ref L k h2 h3 h4
              have HP7 : Hid (Pl w4 w.heap.size 66 2 u3 ((checkTo L (k + 1)).map fitem)) := by show Pl _ _ _ _ _ _; rw [HST.out, hrl, List.append_nil]; exact HP4.out
              clear HST HP4 hrl h2 h3 h4 HMk HHk HKk
              go_wp2_with fail
              go_roundw
              case rel => exact ⟨k + 1, by omega, by go_num, HAL, HP7, HB4⟩
              case measure => simp [intOf]; omega
      · have hS := HSS.out hkb
        have HST := Lib.hid hS.1
        have HAL := Lib.hid hS.2
        have hkb2 : (knownB P == 0) = false := by simpa using hkb
        generalize knownB P = u at *
        clear HKS HSS hS HMk HHk HKk
        go_wp2_with (at_builtin; refine app_item rfl _ _ 30 rfl w w4 66 i0 _ 2 32 Tryz.underlying30 hii hz0 hz1 hz2 rfl (by decide) (by decide) HP4.out HB4.out rfl (.slice (some ⟨pb, 0, none⟩) P.length c3) (fitem (P, u)) rfl (fitem_cells _) HPv4.out rfl (by have := HLN.out; omega) ?_; intro v' w' hown' hb')
        have HB6 := Lib.hid hb'
        have HP6 := Lib.hid hown'
        clear hown' hb' HP4 HB4 HPv4
        refine (HEk.out _ HB6.out).mono ?_
        rintro e w7 ⟨rfl, hb7⟩
        have HB7 := Lib.hid (below_step HB6.out hb7)
        have HP7 : Hid (Pl w7 w.heap.size 66 2 v' ((checkTo L (endB L k)).map fitem)) := by
          show Pl _ _ _ _ _ _
          rw [HST.out, List.map_append]; exact HP6.out.below hb7
        generalize endB L k = q at *
        clear HP6 HB6 hb7 HST HEk
        go_wp2_with fail
        go_roundw
        case rel => exact ⟨q, by omega, by go_num, HAL, HP7, HB7⟩
        case measure => simp [intOf]; omega
    · obtain rfl : k = L.length := by omega
      have HPF := HP.out
      rw [HAll.out] at HPF
      have HPG := Lib.hid HPF
      clear HP HPF HA
      go_wp2_with fail
      go_ret
      exact ⟨⟨_, rfl, HPG.out⟩, HB.out⟩
end Go.Proofs.YtfgjlnaojjldcaaGreatDoor
