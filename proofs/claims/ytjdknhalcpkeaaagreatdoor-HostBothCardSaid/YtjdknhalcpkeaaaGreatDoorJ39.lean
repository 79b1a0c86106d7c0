/- Walks: the reference's With, has, there, outside. -/
import Derived.Test.YtjdknhalcpkeaaaGreatDoorJ24
import Derived.Test.YtjdknhalcpkeaaaGreatDoorJ23
namespace Go.Proofs.YtjdknhalcpkeaaaGreatDoor
open Go Go.RowKit Go.Sort Sch Adr Mtr Tre
set_option maxHeartbeats 2000000 in
theorem with_any (pb pc : Nat) (P : List ByteArray) (s : ByteArray) (w : World) (hP : Pv w (.slice (some ⟨pb, 0, none⟩) P.length pc) P) (hl : P.length ≤ 1000) :
 Calls Tryz.prog 71 #[.slice (some ⟨pb, 0, none⟩) P.length pc, .string s] w fun e w' => (∃ v, e = .returned v ∧ Pv w' v (P ++ [s])) ∧ Below w.heap.size w w' := by
 obtain ⟨i0, hi, hz0, hz1, hz2⟩ := info_parts info_string
 have HR := Lib.hid hP.rd.1
 clear hP
 go_enter Tryz.func71, Tryz.ntmps71
 go_wp2_with (at_builtin; first
  | (refine app_src rfl _ _ 42 rfl w w 9 i0 _ 1 16 Tryz.underlying42 hi hz0 hz1 hz2 rfl (by decide) (by decide) (World.ownsRow_nil _ _ _ _) (Below.refl _ _) rfl (some ⟨pb, 0, none⟩) P.length pc (sv P) rfl HR.out (fun h => by cases h) (sv_one P) (by omega) ?_; intro v1 w1 hown1 hb1)
  | (refine app_new rfl _ _ 42 rfl w w1 9 i0 _ 1 16 Tryz.underlying42 hi hz0 hz1 hz2 rfl (by decide) (by decide) hown1 hb1 rfl 1 1 [.string s] rfl rfl (by simp; rfl) (by omega) ?_; intro v2 w2 hown2 hb2))
 go_ret
 refine ⟨⟨v2, rfl, ?_⟩, hb2⟩
 have hl2 : (P ++ [s]).length = P.length + 1 := by simp
 rw [List.nil_append, show sv P ++ [Value.string s] = sv (P ++ [s]) by rw [sv_app]; rfl, Nat.zero_add, ← hl2] at hown2
 obtain ⟨A, c, rfl, h1, h2, h3, -, h4⟩ := own_rd_nil hown2
 obtain ⟨b, rfl, hp⟩ := path_pv h3 h4 (by rw [hl2]; omega) h1 h2
 exact hp
theorem any_drop {f : Nat → Bool} {l : List Nat} {j : Nat} (h : j < l.length) : (l.drop j).any f = (f l[j] || (l.drop (j + 1)).any f) := by
 rw [List.drop_eq_getElem_cons h, List.any_cons]
set_option maxHeartbeats 2000000 in
set_option maxRecDepth 100000 in
theorem has_any (A : Option Addr) (cap : Nat) (L : List Line) (i : Nat) (s : ByteArray) (w : World) (hR : Rd w 3 A L.length (lines L)) (hcap : L.length ≤ cap) (hc : cap ≤ maxLen) (hr : rightB L = true) (hi : i < L.length) :
 Calls Tryz.prog 70 #[.slice A L.length cap, .int .i64 i, .string s] w fun e w' => e = .returned (.bool (kidHas L i s)) ∧ Below w.heap.size w w' := by
 have h200 := right_len hr
 have HK := refKids_lines A cap L i w hR hcap hc (by omega)
 rw [refKids_eq hr hi] at HK
 have HKK := Lib.hid HK
 have hkl : ∀ k ∈ kidsB L i, k < L.length := fun k hk => by have := mem_kidsTo.1 hk; have h2 := endB_le L i hi; omega
 have hkn : (kidsB L i).length ≤ 200 := by
  have h1 := kidsTo_len L (depthAt L i + 1) (i + 1) (endB L i)
  have h2 := endB_le L i hi
  unfold kidsB; omega
 have HX : Hid (kidHas L i s = ((kidsB L i).drop 0).any (kidIs L s)) := rfl
 have HKL := Lib.hid hkl
 have HR := Lib.hid hR
 have HKI : Hid (∀ k, (h : k < L.length) → kidIs L s k = (L[k].word.toList == s.toList)) := fun k h => by unfold kidIs; rw [wordAt_lt h, eq_bytes]
 unfold maxLen at hc
 unfold KidsEnd at HKK
 clear hR HK hkl hr
 generalize kidsB L i = K at *
 generalize kidIs L s = f at *
 go_enter Tryz.func70, Tryz.ntmps70
 go_wp2_with fail
 refine HKK.out.mono ?_
 rintro e w1 ⟨Ak, ck, rfl, hk1, hk2, hrk, hb1⟩
 have HB1 := Lib.hid hb1
 have HRk := Lib.hid hrk
 clear HKK hb1 hrk
 go_wp2
 go_loopw [8] (fun vi wr => ∃ k : Nat, k ≤ K.length ∧ vi = .int .i64 k ∧ Hid (kidHas L i s = (K.drop k).any f) ∧ Hid (Below w1.heap.size w1 wr)) (fun vi _ => K.length - (intOf vi).toNat)
 case atStart => exact ⟨0, Nat.zero_le _, rfl, HX, Below.refl _ _⟩
 case round =>
  clear HX
  obtain ⟨k, hk, rfl, HQ, HB⟩ := hrel
  by_cases hlt : k < K.length
  · obtain ⟨B, O, rfl, hab, hadd, y0⟩ := (HRk.out.below HB.out).intAt hlt
    have hkl := HKL.out _ (List.getElem_mem hlt)
    have hst : Hid (kidHas L i s = (f K[k] || (K.drop (k + 1)).any f)) := by show _ = _; rw [HQ.out, any_drop hlt]
    generalize K[k] = q at *
    obtain ⟨B2, O2, rfl, hab2, hadd2, x0, x1, x2⟩ := (HR.out.below (below_step HB1.out HB.out)).line hkl
    have HF := Lib.hid (HKI.out q hkl)
    have hqi : (q : Int) < (L.length : Int) := by omega
    have hq0 : (0 : Int) ≤ (q : Int) := by omega
    generalize L[q].word = u at *
    clear HQ HKI x0 x2
    cases hu : (u.toList == s.toList) with
    | true =>
      have HKT : Hid (kidHas L i s = true) := by show _ = _; rw [hst.out, HF.out, hu]; rfl
      have hu2 : u.toList = s.toList := by simpa using hu
      clear hst HF
      go_wp2_with fail
      go_ret
      exact ⟨ret_bool HKT.out.symm, below_step HB1.out HB.out⟩
    | false =>
      have HKT : Hid (kidHas L i s = (K.drop (k + 1)).any f) := by show _ = _; rw [hst.out, HF.out, hu]; rfl
      have hu2 : ¬ u.toList = s.toList := by simpa using hu
      clear hst HF
      go_wp2_with fail
      go_roundw
      case rel => exact ⟨k + 1, by omega, by go_num, HKT, HB⟩
      case measure => simp [intOf]; omega
  · obtain rfl : k = K.length := by omega
    have HKT : Hid (kidHas L i s = false) := by show _ = _; rw [HQ.out, List.drop_length]; rfl
    clear HQ
    go_wp2_with fail
    go_ret
    exact ⟨ret_bool HKT.out.symm, below_step HB1.out HB.out⟩
theorem find_there {L : List Line} (hr : rightB L = true) (P : List ByteArray) : decide (0 ≤ refFind L P) = (findB L P).isSome ∧ ∀ n, findB L P = some n → refFind L P = (n : Int) := by
 have := refFind_eq hr P
 cases hf : findB L P with
 | none => rw [hf] at this; rw [this]; exact ⟨rfl, fun n h => by cases h⟩
 | some n => rw [hf] at this; rw [this]; exact ⟨by simp, fun m h => by injection h with h; rw [h]⟩
set_option maxHeartbeats 1000000 in
theorem refThere_any (A : Option Addr) (cap : Nat) (L : List Line) (a b : ByteArray) (w : World) (hR : Rd w 3 A L.length (lines L)) (hcap : L.length ≤ cap) (hc : cap ≤ maxLen) (hr : rightB L = true) :
 Calls Tryz.prog 110 #[.slice A L.length cap, .string a, .string b] w fun e w' => e = .returned (.bool (isThere L a b)) ∧ Below w.heap.size w w' := by
 have h200 := right_len hr
 obtain ⟨w0, hw0⟩ : ∃ w0, w.alloc (.cells #[.string a, .string b] 9) = w0 := ⟨_, rfl⟩
 have hb0 : Below w.heap.size w w0 := by rw [← hw0]; exact (Below.refl _ _).alloc (Nat.le_refl _) _
 have hlit : Rd w0 1 (some ⟨w.heap.size, 0, none⟩) 2 (sv [a, b]) := by rw [← hw0]; exact rd_lit w [a, b] _
 have HC := Lib.hid (show Calls Tryz.prog 23 #[.slice A L.length cap, .slice (some ⟨w.heap.size, 0, none⟩) 2 2] w0 fun e w' => e = .returned (.int .i64 (refFind L [a, b])) ∧ Below w0.heap.size w0 w' from refFind_lines A cap L (some ⟨w.heap.size, 0, none⟩) 2 [a, b] w0 (hR.below hb0) hcap hc (by omega) hlit (by unfold maxLen; simp))
 have HX : Hid (decide (0 ≤ refFind L [a, b]) = isThere L a b) := (find_there hr [a, b]).1
 have HB := Lib.hid hb0
 clear hR hb0 hlit
 generalize refFind L [a, b] = z at *
 go_enter Tryz.func110, Tryz.ntmps110
 go_wp2_with fail
 refine HC.out.mono ?_
 rintro e w2 ⟨rfl, hb2⟩
 go_wp2_with fail
 go_ret
 exact ⟨ret_bool HX.out, below_step HB.out hb2⟩
set_option maxHeartbeats 2000000 in
set_option maxRecDepth 100000 in
theorem refOut_any (A : Option Addr) (cap : Nat) (L : List Line) (s vni : ByteArray) (w : World) (hR : Rd w 3 A L.length (lines L)) (hcap : L.length ≤ cap) (hc : cap ≤ maxLen) (hr : rightB L = true) (hs : s.size ≤ 100000000) :
 Calls Tryz.prog 111 #[.slice A L.length cap, .string s, .string vni] w fun e w' => e = .returned (.bool (refOutB L s vni)) ∧ Below w.heap.size w w' := by
 have h200 := right_len hr
 obtain ⟨w0, hw0⟩ : ∃ w0, w.alloc (.cells #[.string wVnis, .string vni, .string wSubnet] 9) = w0 := ⟨_, rfl⟩
 have hb0 : Below w.heap.size w w0 := by rw [← hw0]; exact (Below.refl _ _).alloc (Nat.le_refl _) _
 have hlit : Rd w0 1 (some ⟨w.heap.size, 0, none⟩) 3 (sv [wVnis, vni, wSubnet]) := by rw [← hw0]; exact rd_lit w [wVnis, vni, wSubnet] _
 have HC := Lib.hid (show Calls Tryz.prog 23 #[.slice A L.length cap, .slice (some ⟨w.heap.size, 0, none⟩) 3 3] w0 fun e w' => e = .returned (.int .i64 (refFind L [wVnis, vni, wSubnet])) ∧ Below w0.heap.size w0 w' from refFind_lines A cap L (some ⟨w.heap.size, 0, none⟩) 3 [wVnis, vni, wSubnet] w0 (hR.below hb0) hcap hc (by omega) hlit (by unfold maxLen; simp))
 have HF := find_there hr [wVnis, vni, wSubnet]
 have HB := Lib.hid hb0
 have HR := Lib.hid (hR.below hb0)
 have HW0 := hw0
 unfold wVnis wSubnet at HW0
 clear hw0
 cases hf : findB L [wVnis, vni, wSubnet] with
 | none =>
   have HX : Hid (refOutB L s vni = false) := by show _ = _; unfold refOutB; rw [hf]
   have hz : refFind L [wVnis, vni, wSubnet] < 0 := by have := HF.1; rw [hf] at this; simpa using this
   generalize refFind L [wVnis, vni, wSubnet] = z at *
   clear hR hb0 hlit hf HR HF
   go_enter Tryz.func111, Tryz.ntmps111
   go_wp2_with fail
   refine HC.out.mono ?_
   rintro e w2 ⟨rfl, hb2⟩
   go_wp2_with fail
   go_ret
   exact ⟨ret_bool HX.out.symm, below_step HB.out hb2⟩
 | some n =>
   have hn := findB_lt hf
   have HX : Hid (refOutB L s vni = match kidsB L n with | [] => false | k :: _ => decide (0 ≤ (pre (wordAt L k).data.toList).1) && !(isIn (pre (wordAt L k).data.toList).1 (pre (wordAt L k).data.toList).2 (ip s.data.toList))) := by
    show _ = _; unfold refOutB; rw [hf]
    show (match kidsB L n with | [] => false | k :: _ => _) = (match kidsB L n with | [] => false | k :: _ => _)
    cases kidsB L n <;> rfl
   have hz := HF.2 n hf
   rw [hz] at HC
   have HK := Lib.hid (fun W hb => by
    have := refKids_lines A cap L n W (HR.out.below hb) hcap hc (by omega)
    rw [refKids_eq hr hn] at this; exact this)
   have HI := Lib.hid (fun W => refIp_any s W hs)
   have HKL : Hid (∀ k ∈ kidsB L n, k < L.length) := fun k hk => by
    have := mem_kidsTo.1 hk
    have h2 := endB_le L n hn
    omega
   have hws := Lib.hid (fun j (hj : j < L.length) => word_size hr hj)
   clear hR hb0 hlit hf HF hz
   go_enter Tryz.func111, Tryz.ntmps111
   go_wp2_with fail
   refine HC.out.mono ?_
   rintro e w2 ⟨rfl, hb2⟩
   have HC3 := HK.out w2 hb2
   have HB2 := Lib.hid hb2
   clear HC hb2 HK
   go_wp2_with fail
   refine HC3.mono ?_
   clear HC3
   unfold KidsEnd
   rintro e w3 ⟨A3, c3, rfl, hk1, hk2, hrd, hb3⟩
   have HB3 := Lib.hid (below_step HB2.out hb3)
   unfold maxLen at hk2
   cases hks : kidsB L n with
   | nil =>
     rw [hks] at HX
     clear HB2 hb3 hrd hk1 hk2 HKL HI hws
     go_wp2_with fail
     go_ret
     exact ⟨ret_bool HX.out.symm, below_step HB.out HB3.out⟩
   | cons k ks =>
     rw [hks] at hrd HX hk1
     have hkl : k < L.length := HKL.out k (by rw [hks]; simp)
     obtain ⟨B4, O4, rfl, -, -, k0⟩ := hrd.intAt (i := 0) (by simp)
     simp only [Nat.add_zero, List.getElem_cons_zero] at k0
     obtain ⟨B, O, rfl, hab, hadd, x0, x1, x2⟩ := (HR.out.below HB3.out).line hkl
     have HPr := Lib.hid (fun W => refPre_any L[k].word W (by have := hws.out k hkl; rw [wordAt_lt hkl] at this; omega))
     have HX2 : Hid (refOutB L s vni = (decide (0 ≤ (pre L[k].word.data.toList).1) && !(isIn (pre L[k].word.data.toList).1 (pre L[k].word.data.toList).2 (ip s.data.toList)))) := by
      show _ = _
      rw [HX.out, ← wordAt_lt hkl]
     generalize L[k].word = sw at *
     generalize pre sw.data.toList = pr at *
     have hnl : (k :: ks).length = ks.length + 1 := rfl
     have hki : (k : Int) < (L.length : Int) := by omega
     clear HX HB2 hb3 hrd hk1 HKL hws x0 x2 hks
     have HIn := Lib.hid (fun W => refIn_any pr.1 pr.2 (ip s.data.toList) W)
     generalize pr.1 = p1 at *
     generalize pr.2 = p2 at *
     generalize ip s.data.toList = z at *
     by_cases hp0 : 0 ≤ p1
     · have HX3 : Hid (refOutB L s vni = !(isIn p1 p2 z)) := by show _ = _; rw [HX2.out, decide_eq_true hp0]; rfl
       have hd : decide (0 ≤ p1) = true := decide_eq_true hp0
       clear HX2
       generalize isIn p1 p2 z = ib at *
       go_wp2_with fail
       refine (HPr.out w3).mono ?_
       rintro e w4 ⟨rfl, hb4⟩
       have HB4 := Lib.hid (below_step HB3.out hb4)
       clear HPr hb4
       go_wp2_with fail
       refine (HI.out w4).mono ?_
       rintro e w5 ⟨rfl, hb5⟩
       have HB5 := Lib.hid (below_step HB4.out hb5)
       clear HI hb5
       go_wp2_with fail
       refine (HIn.out w5).mono ?_
       rintro e w6 ⟨rfl, hb6⟩
       go_wp2_with fail
       go_ret
       exact ⟨ret_bool HX3.out.symm, below_step HB.out (below_step HB5.out hb6)⟩
     · have HX3 : Hid (refOutB L s vni = false) := by show _ = _; rw [HX2.out, decide_eq_false hp0]; rfl
       have hd : decide (0 ≤ p1) = false := decide_eq_false hp0
       clear HX2 HIn HI
       go_wp2_with fail
       refine (HPr.out w3).mono ?_
       rintro e w4 ⟨rfl, hb4⟩
       have HB4 := Lib.hid (below_step HB3.out hb4)
       clear HPr hb4
       go_wp2_with fail
       go_ret
       exact ⟨ret_bool HX3.out.symm, below_step HB.out HB4.out⟩
end Go.Proofs.YtjdknhalcpkeaaaGreatDoor
