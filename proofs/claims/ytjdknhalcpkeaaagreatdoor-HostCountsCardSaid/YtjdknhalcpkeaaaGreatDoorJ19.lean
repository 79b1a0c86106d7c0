/- Walks: schema.there, outside, twice, meant. -/
import Derived.Test.YtjdknhalcpkeaaaGreatDoorJ18
import Derived.Test.YtjdknhalcpkeaaaGreatDoorJ08
import Derived.Test.YtjdknhalcpkeaaaGreatDoorJ10
namespace Sch
open Go Go.Lib Adr Mtr Tre
def isThere (L : List Line) (a b : ByteArray) : Bool := (findB L [a, b]).isSome
def outsideB (L : List Line) (s vni : ByteArray) : Bool :=
 match findB L [wVnis, vni, wSubnet] with
 | none => false
 | some n => match kidsB L n with
   | [] => false
   | k :: _ => decide (0 ≤ (pre (wordAt L k).data.toList).1) && !(isIn (pre (wordAt L k).data.toList).1 (pre (wordAt L k).data.toList).2 (max (ip s.data.toList) 0))
def twiceFrom (L : List Line) (s : ByteArray) (k : Nat) : Nat → Bool
 | 0 => false
 | n + 1 => matchB [wHosts, tName, wIp, s] (pathB L k) || twiceFrom L s (k + 1) n
def twiceB (L : List Line) (i : Nat) (s : ByteArray) : Bool := twiceFrom L s 0 i
theorem ups_words (L : List Line) : ∀ k, k ≤ L.length → ∀ s ∈ ups L k, ∃ j, j < L.length ∧ s = wordAt L j
 | 0, _, s, h => by rw [ups_zero] at h; cases h
 | k + 1, hk, s, h => by
   have hu := underB_lt L k
   rw [ups_succ] at h
   rcases List.mem_cons.1 h with rfl | h
   · exact ⟨k, by omega, rfl⟩
   · exact ups_words L (underB L k + 1).toNat (by omega) s h
theorem path_words {L : List Line} {i : Nat} (hi : i < L.length) : ∀ s ∈ pathB L i, ∃ j, j < L.length ∧ s = wordAt L j := by
 intro s h
 unfold pathB at h
 exact ups_words L (i + 1) (by omega) s (by simpa using h)
def m1 : List UInt8 := [104, 111, 115, 116, 115, 32, 36, 110, 97, 109, 101, 32, 105, 112, 32, 36, 105, 112]
def m2 : List UInt8 := [98, 105, 110, 100, 105, 110, 103, 115, 32, 36, 105, 112, 32, 104, 111, 115, 116, 32, 36, 110, 97, 109, 101]
def m3 : List UInt8 := [114, 111, 117, 116, 101, 115, 32, 36, 112, 114, 101, 102, 105, 120, 32, 118, 105, 97, 32, 36, 110, 97, 109, 101]
def m4 : List UInt8 := [104, 111, 115, 116, 115, 32, 36, 110, 97, 109, 101, 32, 118, 110, 105, 115, 32, 36, 118, 110, 105]
def m5 : List UInt8 := [98, 105, 110, 100, 105, 110, 103, 115, 32, 36, 105, 112, 32, 118, 110, 105, 32, 36, 118, 110, 105]
def glueB (p : List ByteArray) : List UInt8 := glue 32 (p.map (·.data.toList))
def meantB (L : List Line) (i : Nat) (p P : List ByteArray) : Bool :=
 if glueB p = m1 then twiceB L i (P.getD 3 ⟨#[]⟩)
 else if glueB p = m2 ∨ glueB p = m3 then !(isThere L wHosts (P.getD 3 ⟨#[]⟩))
 else if glueB p = m4 then !(isThere L wVnis (P.getD 3 ⟨#[]⟩))
 else if glueB p = m5 then !(isThere L wVnis (P.getD 3 ⟨#[]⟩)) || outsideB L (P.getD 1 ⟨#[]⟩) (P.getD 3 ⟨#[]⟩)
 else false
theorem meant_four : ∀ r ∈ rulesB, (glueB r.path = m1 ∨ glueB r.path = m2 ∨ glueB r.path = m3 ∨ glueB r.path = m4 ∨ glueB r.path = m5) → r.path.length = 4 := by decide +kernel
theorem glue_size : ∀ r ∈ rulesB, (glueB r.path).length ≤ 100 := by decide +kernel
end Sch
namespace Go.Proofs.YtjdknhalcpkeaaaGreatDoor
open Go Go.RowKit Go.Sort Sch Adr Mtr Tre
theorem word_size {L : List Line} (hr : rightB L = true) {j : Nat} (hj : j < L.length) : (wordAt L j).size ≤ 40 := by
 rw [wordAt_lt hj]
 have := right_sound hr _ (List.getElem_mem hj)
 unfold soundB at this
 simp only [Bool.and_eq_true, decide_eq_true_eq] at this
 omega
theorem path_short {L : List Line} (hr : rightB L = true) {i : Nat} (hi : i < L.length) : Shw (pathB L i) := fun s hs => by
 obtain ⟨j, hj, rfl⟩ := path_words hi s hs
 have := word_size hr hj
 omega
theorem rd_lit (w : World) (P : List ByteArray) (T : TypeId) : Rd (w.alloc (.cells (sv P).toArray T)) 1 (some ⟨w.heap.size, 0, none⟩) P.length (sv P) :=
 ⟨by rw [sv_len]; simp, fun _ => ⟨_, rfl, by simp, fun j u hu => by
  rw [add_plain, Nat.zero_add, World.cell?_alloc_at _ _ _ _ rfl]; simpa using hu⟩⟩
set_option maxHeartbeats 1000000 in
theorem there2_any (A : Option Addr) (cap : Nat) (L : List Line) (a b : ByteArray) (w : World) (hR : Rd w 3 A L.length (lines L)) (hcap : L.length ≤ cap) (hc : cap ≤ maxLen) (hr : rightB L = true) :
 Calls Tryz.prog 141 #[.slice A L.length cap, .string a, .string b] w fun e w' => e = .returned (.bool (isThere L a b)) ∧ Below w.heap.size w w' := by
 obtain ⟨w0, hw0⟩ : ∃ w0, w.alloc (.cells #[.string a, .string b] 9) = w0 := ⟨_, rfl⟩
 have hb0 : Below w.heap.size w w0 := by rw [← hw0]; exact (Below.refl _ _).alloc (Nat.le_refl _) _
 have hlit : Rd w0 1 (some ⟨w.heap.size, 0, none⟩) 2 (sv [a, b]) := by rw [← hw0]; exact rd_lit w [a, b] _
 have HC := Lib.hid (find_lines A cap L (some ⟨w.heap.size, 0, none⟩) 2 [a, b] w0 (hR.below hb0) hcap hc hr hlit (Nat.le_refl 2) (by unfold maxLen; decide))
 have HX : Hid (isThere L a b = (findB L [a, b]).isSome) := rfl
 have HB := Lib.hid hb0
 have HC2 : Hid (Calls Tryz.prog 46 #[.slice A L.length cap, .slice (some ⟨w.heap.size, 0, none⟩) 2 2] w0 fun e w' => e = .returned (.tuple #[.int .i64 (foundI (findB L [a, b])), .bool (findB L [a, b]).isSome]) ∧ Below w0.heap.size w0 w') := HC.out
 clear hR hb0 hlit HC
 generalize foundI (findB L [a, b]) = z at *
 generalize (findB L [a, b]).isSome = t at *
 go_enter Tryz.func141, Tryz.ntmps141
 go_wp2_with fail
 refine HC2.out.mono ?_
 rintro e w2 ⟨rfl, hb2⟩
 go_wp2
 go_ret
 exact ⟨ret_bool HX.out.symm, below_step HB.out hb2⟩
set_option maxHeartbeats 2000000 in
set_option maxRecDepth 100000 in
theorem outside_any (A : Option Addr) (cap : Nat) (L : List Line) (s vni : ByteArray) (w : World) (hE : Env w) (hR : Rd w 3 A L.length (lines L)) (hcap : L.length ≤ cap) (hc : cap ≤ maxLen) (hr : rightB L = true) (hs : s.size ≤ 100000000) :
 Calls Tryz.prog 142 #[.slice A L.length cap, .string s, .string vni] w fun e w' => e = .returned (.bool (outsideB L s vni)) ∧ Below w.heap.size w w' := by
 obtain ⟨w0, hw0⟩ : ∃ w0, w.alloc (.cells #[.string wVnis, .string vni, .string wSubnet] 9) = w0 := ⟨_, rfl⟩
 have hb0 : Below w.heap.size w w0 := by rw [← hw0]; exact (Below.refl _ _).alloc (Nat.le_refl _) _
 have hlit : Rd w0 1 (some ⟨w.heap.size, 0, none⟩) 3 (sv [wVnis, vni, wSubnet]) := by rw [← hw0]; exact rd_lit w [wVnis, vni, wSubnet] _
 have HC := find_lines A cap L (some ⟨w.heap.size, 0, none⟩) 3 [wVnis, vni, wSubnet] w0 (hR.below hb0) hcap hc hr hlit (Nat.le_refl 3) (by unfold maxLen; decide)
 have h200 := right_len hr
 have HB := Lib.hid hb0
 have HE := Lib.hid (hE.below hb0)
 have HR := Lib.hid (hR.below hb0)
 have HW0 := hw0
 unfold wVnis wSubnet at HW0
 clear hw0
 cases hf : findB L [wVnis, vni, wSubnet] with
 | none =>
   have HX : Hid (outsideB L s vni = false) := by show _ = _; unfold outsideB; rw [hf]
   rw [hf] at HC
   have HC2 : Hid (Calls Tryz.prog 46 #[.slice A L.length cap, .slice (some ⟨w.heap.size, 0, none⟩) 3 3] w0 fun e w' => e = .returned (.tuple #[.int .i64 0, .bool false]) ∧ Below w0.heap.size w0 w') := HC
   clear hR hb0 hlit HC hE hf HE HR
   go_enter Tryz.func142, Tryz.ntmps142
   go_wp2_with fail
   refine HC2.out.mono ?_
   rintro e w2 ⟨rfl, hb2⟩
   go_wp2
   go_ret
   exact ⟨ret_bool HX.out.symm, below_step HB.out hb2⟩
 | some n =>
   have hn := findB_lt hf
   have HX : Hid (outsideB L s vni = match kidsB L n with | [] => false | k :: _ => decide (0 ≤ (pre (wordAt L k).data.toList).1) && !(isIn (pre (wordAt L k).data.toList).1 (pre (wordAt L k).data.toList).2 (max (ip s.data.toList) 0))) := by
    show _ = _; unfold outsideB; rw [hf]
   rw [hf] at HC
   have HC2 : Hid (Calls Tryz.prog 46 #[.slice A L.length cap, .slice (some ⟨w.heap.size, 0, none⟩) 3 3] w0 fun e w' => e = .returned (.tuple #[.int .i64 n, .bool true]) ∧ Below w0.heap.size w0 w') := HC
   have HK := Lib.hid (fun W hb => kids_line A cap L n W (HR.out.below hb) hcap hc hr hn)
   have HI := Lib.hid (fun W hb => ip_any s W (HE.out.below hb) hs)
   have HKL : Hid (∀ k ∈ kidsB L n, k < L.length) := fun k hk => by
    have := mem_kidsTo.1 hk
    have h2 := endB_le L n hn
    omega
   have hws := Lib.hid (fun j (hj : j < L.length) => word_size hr hj)
   clear hR hb0 hlit HC hE hf
   go_enter Tryz.func142, Tryz.ntmps142
   go_wp2_with fail
   refine HC2.out.mono ?_
   rintro e w2 ⟨rfl, hb2⟩
   have HC3 := HK.out w2 hb2
   have HB2 := Lib.hid hb2
   clear HC2 hb2 HK
   go_wp2_with fail
   refine HC3.mono ?_
   clear HC3
   unfold KidsEnd
   rintro e w3 ⟨A3, c3, rfl, hk1, hk2, hrd, hb3⟩
   have HB3 := Lib.hid (below_step HB2.out hb3)
   unfold maxLen at hk2
   cases hks : kidsB L n with
   | nil =>
     rw [hks] at HX
     clear HB2 hb3 hrd hk1 hk2 HKL HI hws
     go_wp2
     go_ret
     exact ⟨ret_bool HX.out.symm, below_step HB.out HB3.out⟩
   | cons k ks =>
     rw [hks] at hrd HX hk1
     have hkl : k < L.length := HKL.out k (by rw [hks]; simp)
     obtain ⟨B4, O4, rfl, -, -, k0⟩ := hrd.intAt (i := 0) (by simp)
     simp only [Nat.add_zero, List.getElem_cons_zero] at k0
     obtain ⟨B, O, rfl, hab, hadd, x0, x1, x2⟩ := (HR.out.below HB3.out).line hkl
     have HPr := Lib.hid (fun W hb => pre_any L[k].word W (HE.out.below hb) (by have := hws.out k hkl; rw [wordAt_lt hkl] at this; omega))
     have HX2 : Hid (outsideB L s vni = (decide (0 ≤ (pre L[k].word.data.toList).1) && !(isIn (pre L[k].word.data.toList).1 (pre L[k].word.data.toList).2 (max (ip s.data.toList) 0)))) := by
      show _ = _
      rw [HX.out, ← wordAt_lt hkl]
     generalize L[k].word = sw at *
     generalize pre sw.data.toList = pr at *
     have hnl : (k :: ks).length = ks.length + 1 := rfl
     clear HX HB2 hb3 hrd hk1 HKL hws x0 x2 hks
     have hpr : Hid (preRet pr = .tuple #[.int .i64 (max pr.1 0), .int .i64 pr.2, .bool (decide (0 ≤ pr.1))]) := rfl
     have hir : Hid (okRet (ip s.data.toList) = .tuple #[.int .i64 (max (ip s.data.toList) 0), .bool (decide (0 ≤ ip s.data.toList))]) := rfl
     have HIn := Lib.hid (fun W => in_any pr.1 pr.2 (max (ip s.data.toList) 0) W)
     by_cases hp0 : 0 ≤ pr.1
     · have HX3 : Hid (outsideB L s vni = !(isIn pr.1 pr.2 (max (ip s.data.toList) 0))) := by show _ = _; rw [HX2.out, decide_eq_true hp0]; rfl
       have hd : Hid (decide (0 ≤ pr.1) = true) := decide_eq_true hp0
       have hm : Hid (max pr.1 0 = pr.1) := by show _ = _; omega
       clear HX2 hp0
       generalize max (ip s.data.toList) 0 = z at *
       generalize decide (0 ≤ ip s.data.toList) = zb at *
       generalize isIn pr.1 pr.2 z = ib at *
       go_wp2_with fail
       refine (HPr.out w3 HB3.out).mono ?_
       rw [hpr.out, hd.out, hm.out]
       rintro e w4 ⟨rfl, hb4⟩
       have HB4 := Lib.hid (below_step HB3.out hb4)
       clear HPr hb4 hpr
       go_wp2_with fail
       refine (HI.out w4 HB4.out).mono ?_
       rw [hir.out]
       rintro e w5 ⟨rfl, hb5⟩
       have HB5 := Lib.hid (below_step HB4.out hb5)
       clear HI hb5 hir
       go_wp2_with fail
       refine (HIn.out w5).mono ?_
       rintro e w6 ⟨rfl, rfl⟩
       go_wp2
       go_ret
       exact ⟨ret_bool HX3.out.symm, below_step HB.out HB5.out⟩
     · have HX3 : Hid (outsideB L s vni = false) := by show _ = _; rw [HX2.out, decide_eq_false hp0]; rfl
       have hd : Hid (decide (0 ≤ pr.1) = false) := decide_eq_false hp0
       clear HX2 hp0 HIn
       generalize max (ip s.data.toList) 0 = z at *
       generalize decide (0 ≤ ip s.data.toList) = zb at *
       generalize max pr.1 0 = y at *
       go_wp2_with fail
       refine (HPr.out w3 HB3.out).mono ?_
       rw [hpr.out, hd.out]
       rintro e w4 ⟨rfl, hb4⟩
       have HB4 := Lib.hid (below_step HB3.out hb4)
       clear HPr hb4 hpr
       go_wp2_with fail
       refine (HI.out w4 HB4.out).mono ?_
       rw [hir.out]
       rintro e w5 ⟨rfl, hb5⟩
       have HB5 := Lib.hid (below_step HB4.out hb5)
       clear HI hb5 hir
       go_wp2
       go_ret
       exact ⟨ret_bool HX3.out.symm, below_step HB.out HB5.out⟩
set_option maxHeartbeats 2000000 in
set_option maxRecDepth 100000 in
theorem twice_any (A : Option Addr) (cap : Nat) (L : List Line) (i : Nat) (A2 : Option Addr) (c2 : Nat) (P : List ByteArray) (s : ByteArray) (w : World) (hE : Env w) (hR : Rd w 3 A L.length (lines L)) (hcap : L.length ≤ cap) (hc : cap ≤ maxLen) (hr : rightB L = true) (hi : i ≤ L.length) (hP : Rd w 1 A2 P.length (sv P)) (hp3 : P[3]? = some s) (hpl : P.length ≤ 100000) (hs : s.size ≤ 100000000) :
 Calls Tryz.prog 140 #[.slice A L.length cap, .int .i64 i, .slice A2 P.length c2] w fun e w' => e = .returned (.bool (twiceB L i s)) ∧ Below w.heap.size w w' := by
 have h200 := right_len hr
 have hP3 : 3 < P.length := (List.getElem?_eq_some_iff.1 hp3).1
 have hP3i : (3 : Int) < (P.length : Int) := by omega
 have hPs : P[3] = s := (List.getElem?_eq_some_iff.1 hp3).2
 have HE := Lib.hid hE
 have HR := Lib.hid hR
 have HP := Lib.hid hP
 have HPS := Lib.hid hPs
 have HPa := Lib.hid (fun (k : Nat) (hk : k < L.length) W hb => path_lines A cap L k W (hR.below hb) hcap hc hr hk)
 have HSh := Lib.hid (fun (k : Nat) (hk : k < L.length) => path_short hr hk)
 have HX : Hid (twiceB L i s = twiceFrom L s 0 (i - 0)) := rfl
 unfold maxLen at hc
 clear hE hR hP hPs hp3
 go_enter Tryz.func140, Tryz.ntmps140
 go_wp2
 go_loopw [11] (fun vi wr => ∃ k : Nat, k ≤ i ∧ vi = .int .i64 k ∧ Hid (twiceB L i s = twiceFrom L s k (i - k)) ∧ Hid (Below w.heap.size w wr)) (fun vi _ => i - (intOf vi).toNat)
 case atStart => exact ⟨0, Nat.zero_le _, rfl, HX, Below.refl _ _⟩
 case round =>
  clear HX
  obtain ⟨k, hk, rfl, HQ, HB⟩ := hrel
  by_cases hlt : k < i
  · have hkl : k < L.length := by omega
    have hst : Hid (twiceB L i s = (matchB [wHosts, tName, wIp, s] (pathB L k) || twiceFrom L s (k + 1) (i - (k + 1)))) := by
     show _ = _
     rw [HQ.out, show i - k = (i - (k + 1)) + 1 by omega]; rfl
    have HPk := HPa.out k hkl wr HB.out
    have HSk := HSh.out k hkl
    have hplen := pathB_len L k
    unfold PathEnd at HPk
    obtain ⟨B2, O2, rfl, -, -, z0⟩ := (HP.out.below HB.out).strAt hP3
    rw [HPS.out] at z0
    generalize pathB L k = pk at *
    clear HQ
    go_wp2_with fail
    refine HPk.mono ?_
    clear HPk
    rintro e w2 ⟨A3, c3, rfl, hk1, hk2, hrd, -, hb2⟩
    have HB2 := Lib.hid (below_step HB.out hb2)
    have z2 : w2.cell? ⟨B2, O2 + 3, none⟩ = some (.string s) := (hb2.cell (p := ⟨B2, O2 + 3, none⟩) (Lib.lt_of_cell z0)).trans z0
    obtain ⟨w3, hw3⟩ : ∃ w3, w2.alloc (.cells #[.string wHosts, .string tName, .string wIp, .string s] 9) = w3 := ⟨_, rfl⟩
    have hb3 : Below w2.heap.size w2 w3 := by rw [← hw3]; exact (Below.refl _ _).alloc (Nat.le_refl _) _
    have hlit : Rd w3 1 (some ⟨w2.heap.size, 0, none⟩) 4 (sv [wHosts, tName, wIp, s]) := by rw [← hw3]; exact rd_lit w2 [wHosts, tName, wIp, s] _
    have HB3 := Lib.hid (below_step HB2.out hb3)
    have HM := Lib.hid (match_any (some ⟨w2.heap.size, 0, none⟩) 4 [wHosts, tName, wIp, s] A3 c3 pk w3 (HE.out.below HB3.out) hlit (hrd.below hb3) (by simp) (by omega) (fun x hx => by
     simp only [List.mem_cons, List.not_mem_nil, or_false] at hx
     rcases hx with rfl | rfl | rfl | rfl
     · decide
     · decide
     · decide
     · exact hs) HSk)
    have HM2 : Hid (Calls Tryz.prog 94 #[.slice (some ⟨w2.heap.size, 0, none⟩) 4 4, .slice A3 pk.length c3] w3 fun e w' => e = .returned (.bool (matchB [wHosts, tName, wIp, s] pk)) ∧ Below w3.heap.size w3 w') := HM.out
    generalize matchB [wHosts, tName, wIp, s] pk = mb at *
    unfold wHosts tName wIp at hw3
    clear HB hb2 z0 hrd hk1 hk2 HB2 hb3 hlit HM HSk
    cases mb with
    | true =>
      have HF : Hid (twiceB L i s = true) := by show _ = _; rw [hst.out]; rfl
      clear hst
      go_wp2_with fail
      refine HM2.out.mono ?_
      rintro e w4 ⟨rfl, hb4⟩
      have HB4 := Lib.hid (below_step HB3.out hb4)
      clear HM2 hb4
      go_wp2
      go_ret
      exact ⟨ret_bool HF.out.symm, HB4.out⟩
    | false =>
      have HF : Hid (twiceB L i s = twiceFrom L s (k + 1) (i - (k + 1))) := by show _ = _; rw [hst.out]; rfl
      clear hst
      go_wp2_with fail
      refine HM2.out.mono ?_
      rintro e w4 ⟨rfl, hb4⟩
      have HB4 := Lib.hid (below_step HB3.out hb4)
      clear HM2 hb4
      go_wp2_with fail
      go_roundw
      case rel => exact ⟨k + 1, by omega, by go_num, HF, HB4⟩
      case measure => simp [intOf]; omega
  · obtain rfl : k = i := by omega
    have HF : Hid (twiceB L k s = false) := by show _ = _; rw [HQ.out, Nat.sub_self]; rfl
    clear HQ
    go_wp2
    go_ret
    exact ⟨ret_bool HF.out.symm, HB.out⟩
set_option maxHeartbeats 4000000 in
set_option maxRecDepth 100000 in
theorem meant_any (A : Option Addr) (cap : Nat) (L : List Line) (i : Nat) (b c : Nat) (r : Rule) (A2 : Option Addr) (c2 : Nat) (P : List ByteArray) (w : World) (hE : Env w) (hR : Rd w 3 A L.length (lines L)) (hcap : L.length ≤ cap) (hc : cap ≤ maxLen) (hr : rightB L = true) (hi : i ≤ L.length)
 (hru : r ∈ rulesB) (hrd : Rd w 1 (some ⟨b, 0, none⟩) r.path.length (sv r.path)) (hrc : r.path.length ≤ c) (hP : Rd w 1 A2 P.length (sv P)) (hPl : r.path.length = P.length) (hpl : P.length ≤ 100000) (hps : Shw P) :
 Calls Tryz.prog 102 #[.slice A L.length cap, .int .i64 i, .slice (some ⟨b, 0, none⟩) r.path.length c, .slice A2 P.length c2] w fun e w' => e = .returned (.bool (meantB L i r.path P)) ∧ Below w.heap.size w w' := by
 have hlp : (r.path.map (·.data.toList)).length = r.path.length := List.length_map _
 have hJ := join_any (some ⟨b, 0, none⟩) c (r.path.map (·.data.toList)) 32 w (by rw [hlp]; exact hrc) (by rw [hlp, ← strs_of]; exact hrd) (fun ad e => by cases e; rfl) (by have := glue_size r hru; unfold glueB at this; omega) (by rw [hlp]; have := (rules_path r hru).2; omega)
 rw [hlp] at hJ
 have HJ : Hid (Calls Tryz.prog 66 #[.slice (some ⟨b, 0, none⟩) r.path.length c, .string ⟨#[32]⟩] w fun e w' => e = .returned (.string ⟨(glueB r.path).toArray⟩) ∧ Below w.heap.size w w') := hJ
 have h4 := meant_four r hru
 have HX : Hid (meantB L i r.path P = if glueB r.path = m1 then twiceB L i (P.getD 3 ⟨#[]⟩)
  else if glueB r.path = m2 ∨ glueB r.path = m3 then !(isThere L wHosts (P.getD 3 ⟨#[]⟩))
  else if glueB r.path = m4 then !(isThere L wVnis (P.getD 3 ⟨#[]⟩))
  else if glueB r.path = m5 then !(isThere L wVnis (P.getD 3 ⟨#[]⟩)) || outsideB L (P.getD 1 ⟨#[]⟩) (P.getD 3 ⟨#[]⟩)
  else false) := rfl
 have Hg := Lib.hid (fun l => show ((⟨(glueB r.path).toArray⟩ : ByteArray).toList == l) = decide (glueB r.path = l) by
  rw [Lib.toList_data, data_mk, Bool.eq_iff_iff, beq_iff_eq, decide_eq_true_eq])
 have HT := Lib.hid (fun s W hb hp3 hs => twice_any A cap L i A2 c2 P s W (hE.below hb) (hR.below hb) hcap hc hr hi (hP.below hb) hp3 hpl hs)
 have HTh := Lib.hid (fun a b W hb => there2_any A cap L a b W (hR.below hb) hcap hc hr)
 have HO := Lib.hid (fun s v W hb hs => outside_any A cap L s v W (hE.below hb) (hR.below hb) hcap hc hr hs)
 have HP := Lib.hid hP
 have HPS := Lib.hid hps
 have HP4 : Hid ((glueB r.path = m1 ∨ glueB r.path = m2 ∨ glueB r.path = m3 ∨ glueB r.path = m4 ∨ glueB r.path = m5) → 4 = P.length) := fun h => (h4 h).symm.trans hPl
 clear hJ hE hR hP hps h4 hrd hPl hlp
 generalize glueB r.path = g at *
 by_cases e0 : g = m1
 · have HK : Hid (meantB L i r.path P = (twiceB L i (P.getD 3 ⟨#[]⟩))) := by show _ = _; rw [HX.out, if_pos e0]
   have hP4 := HP4.out (.inl e0)
   have q0 : ((⟨g.toArray⟩ : ByteArray).toList == [104, 111, 115, 116, 115, 32, 36, 110, 97, 109, 101, 32, 105, 112, 32, 36, 105, 112]) = true := (Hg.out _).trans (decide_eq_true e0)
   have p0 : (⟨g.toArray⟩ : ByteArray).toList = [104, 111, 115, 116, 115, 32, 36, 110, 97, 109, 101, 32, 105, 112, 32, 36, 105, 112] := by simpa using q0
   have hp3 : P[3]? = some (P[3]'(by omega)) := List.getElem?_eq_getElem _
   have hsz := HPS.out _ (List.getElem_mem (by omega : 3 < P.length))
   have hg3 : P.getD 3 ⟨#[]⟩ = P[3]'(by omega) := by rw [List.getD_eq_getElem?_getD, hp3]; rfl
   rw [hg3] at HK
   have h3i : (3 : Int) < (P.length : Int) := by omega
   clear HX HP4 Hg e0 HTh HO hg3
   go_enter Tryz.func102, Tryz.ntmps102
   go_wp2_with fail
   refine HJ.out.mono ?_
   rintro e w2 ⟨rfl, hb2⟩
   go_wp2_with fail
   refine (HT.out _ w2 hb2 hp3 hsz).mono ?_
   rintro e w3 ⟨rfl, hb3⟩
   have hb4 := below_step hb2 hb3
   clear HT hb2 hb3 hp3
   go_wp2
   go_ret
   exact ⟨ret_bool HK.out.symm, hb4⟩
 by_cases e1 : g = m2
 · have HK : Hid (meantB L i r.path P = (!(isThere L wHosts (P.getD 3 ⟨#[]⟩)))) := by show _ = _; rw [HX.out, if_neg e0, if_pos (.inl e1)]
   have hP4 := HP4.out (.inr (.inl e1))
   have q0 : ((⟨g.toArray⟩ : ByteArray).toList == [104, 111, 115, 116, 115, 32, 36, 110, 97, 109, 101, 32, 105, 112, 32, 36, 105, 112]) = false := (Hg.out _).trans (decide_eq_false e0)
   have p0 : ¬ (⟨g.toArray⟩ : ByteArray).toList = [104, 111, 115, 116, 115, 32, 36, 110, 97, 109, 101, 32, 105, 112, 32, 36, 105, 112] := by simpa using q0
   have q1 : ((⟨g.toArray⟩ : ByteArray).toList == [98, 105, 110, 100, 105, 110, 103, 115, 32, 36, 105, 112, 32, 104, 111, 115, 116, 32, 36, 110, 97, 109, 101]) = true := (Hg.out _).trans (decide_eq_true e1)
   have p1 : (⟨g.toArray⟩ : ByteArray).toList = [98, 105, 110, 100, 105, 110, 103, 115, 32, 36, 105, 112, 32, 104, 111, 115, 116, 32, 36, 110, 97, 109, 101] := by simpa using q1
   have hp3 : P[3]? = some (P[3]'(by omega)) := List.getElem?_eq_getElem _
   have hsz := HPS.out _ (List.getElem_mem (by omega : 3 < P.length))
   have hg3 : P.getD 3 ⟨#[]⟩ = P[3]'(by omega) := by rw [List.getD_eq_getElem?_getD, hp3]; rfl
   rw [hg3] at HK
   have h3i : (3 : Int) < (P.length : Int) := by omega
   obtain ⟨tb, htb⟩ : ∃ tb, isThere L wHosts P[3] = tb := ⟨_, rfl⟩
   have HTH := Lib.hid (fun W hb => HTh.out wHosts P[3] W hb)
   rw [htb] at HTH HK
   unfold wHosts at HTH
   clear HX HP4 Hg e0 e1 HT HO hg3 HTh hp3 htb
   go_enter Tryz.func102, Tryz.ntmps102
   go_wp2_with fail
   refine HJ.out.mono ?_
   rintro e w2 ⟨rfl, hb2⟩
   obtain ⟨B2, O2, rfl, -, -, z0⟩ := (HP.out.below hb2).strAt (by omega : 3 < P.length)
   generalize P[3] = s at *
   go_wp2_with fail
   refine (HTH.out w2 hb2).mono ?_
   rintro e w3 ⟨rfl, hb3⟩
   have hb4 := below_step hb2 hb3
   clear HTH hb2 hb3
   go_wp2
   go_ret
   exact ⟨ret_bool HK.out.symm, hb4⟩
 by_cases e2 : g = m3
 · have HK : Hid (meantB L i r.path P = (!(isThere L wHosts (P.getD 3 ⟨#[]⟩)))) := by show _ = _; rw [HX.out, if_neg e0, if_pos (.inr e2)]
   have hP4 := HP4.out (.inr (.inr (.inl e2)))
   have q0 : ((⟨g.toArray⟩ : ByteArray).toList == [104, 111, 115, 116, 115, 32, 36, 110, 97, 109, 101, 32, 105, 112, 32, 36, 105, 112]) = false := (Hg.out _).trans (decide_eq_false e0)
   have p0 : ¬ (⟨g.toArray⟩ : ByteArray).toList = [104, 111, 115, 116, 115, 32, 36, 110, 97, 109, 101, 32, 105, 112, 32, 36, 105, 112] := by simpa using q0
   have q1 : ((⟨g.toArray⟩ : ByteArray).toList == [98, 105, 110, 100, 105, 110, 103, 115, 32, 36, 105, 112, 32, 104, 111, 115, 116, 32, 36, 110, 97, 109, 101]) = false := (Hg.out _).trans (decide_eq_false e1)
   have p1 : ¬ (⟨g.toArray⟩ : ByteArray).toList = [98, 105, 110, 100, 105, 110, 103, 115, 32, 36, 105, 112, 32, 104, 111, 115, 116, 32, 36, 110, 97, 109, 101] := by simpa using q1
   have q2 : ((⟨g.toArray⟩ : ByteArray).toList == [114, 111, 117, 116, 101, 115, 32, 36, 112, 114, 101, 102, 105, 120, 32, 118, 105, 97, 32, 36, 110, 97, 109, 101]) = true := (Hg.out _).trans (decide_eq_true e2)
   have p2 : (⟨g.toArray⟩ : ByteArray).toList = [114, 111, 117, 116, 101, 115, 32, 36, 112, 114, 101, 102, 105, 120, 32, 118, 105, 97, 32, 36, 110, 97, 109, 101] := by simpa using q2
   have hp3 : P[3]? = some (P[3]'(by omega)) := List.getElem?_eq_getElem _
   have hsz := HPS.out _ (List.getElem_mem (by omega : 3 < P.length))
   have hg3 : P.getD 3 ⟨#[]⟩ = P[3]'(by omega) := by rw [List.getD_eq_getElem?_getD, hp3]; rfl
   rw [hg3] at HK
   have h3i : (3 : Int) < (P.length : Int) := by omega
   obtain ⟨tb, htb⟩ : ∃ tb, isThere L wHosts P[3] = tb := ⟨_, rfl⟩
   have HTH := Lib.hid (fun W hb => HTh.out wHosts P[3] W hb)
   rw [htb] at HTH HK
   unfold wHosts at HTH
   clear HX HP4 Hg e0 e1 e2 HT HO hg3 HTh hp3 htb
   go_enter Tryz.func102, Tryz.ntmps102
   go_wp2_with fail
   refine HJ.out.mono ?_
   rintro e w2 ⟨rfl, hb2⟩
   obtain ⟨B2, O2, rfl, -, -, z0⟩ := (HP.out.below hb2).strAt (by omega : 3 < P.length)
   generalize P[3] = s at *
   go_wp2_with fail
   refine (HTH.out w2 hb2).mono ?_
   rintro e w3 ⟨rfl, hb3⟩
   have hb4 := below_step hb2 hb3
   clear HTH hb2 hb3
   go_wp2
   go_ret
   exact ⟨ret_bool HK.out.symm, hb4⟩
 by_cases e3 : g = m4
 · have HK : Hid (meantB L i r.path P = (!(isThere L wVnis (P.getD 3 ⟨#[]⟩)))) := by show _ = _; rw [HX.out, if_neg e0, if_neg (not_or.2 ⟨e1, e2⟩), if_pos e3]
   have hP4 := HP4.out (.inr (.inr (.inr (.inl e3))))
   have q0 : ((⟨g.toArray⟩ : ByteArray).toList == [104, 111, 115, 116, 115, 32, 36, 110, 97, 109, 101, 32, 105, 112, 32, 36, 105, 112]) = false := (Hg.out _).trans (decide_eq_false e0)
   have p0 : ¬ (⟨g.toArray⟩ : ByteArray).toList = [104, 111, 115, 116, 115, 32, 36, 110, 97, 109, 101, 32, 105, 112, 32, 36, 105, 112] := by simpa using q0
   have q1 : ((⟨g.toArray⟩ : ByteArray).toList == [98, 105, 110, 100, 105, 110, 103, 115, 32, 36, 105, 112, 32, 104, 111, 115, 116, 32, 36, 110, 97, 109, 101]) = false := (Hg.out _).trans (decide_eq_false e1)
   have p1 : ¬ (⟨g.toArray⟩ : ByteArray).toList = [98, 105, 110, 100, 105, 110, 103, 115, 32, 36, 105, 112, 32, 104, 111, 115, 116, 32, 36, 110, 97, 109, 101] := by simpa using q1
   have q2 : ((⟨g.toArray⟩ : ByteArray).toList == [114, 111, 117, 116, 101, 115, 32, 36, 112, 114, 101, 102, 105, 120, 32, 118, 105, 97, 32, 36, 110, 97, 109, 101]) = false := (Hg.out _).trans (decide_eq_false e2)
   have p2 : ¬ (⟨g.toArray⟩ : ByteArray).toList = [114, 111, 117, 116, 101, 115, 32, 36, 112, 114, 101, 102, 105, 120, 32, 118, 105, 97, 32, 36, 110, 97, 109, 101] := by simpa using q2
   have q3 : ((⟨g.toArray⟩ : ByteArray).toList == [104, 111, 115, 116, 115, 32, 36, 110, 97, 109, 101, 32, 118, 110, 105, 115, 32, 36, 118, 110, 105]) = true := (Hg.out _).trans (decide_eq_true e3)
   have p3 : (⟨g.toArray⟩ : ByteArray).toList = [104, 111, 115, 116, 115, 32, 36, 110, 97, 109, 101, 32, 118, 110, 105, 115, 32, 36, 118, 110, 105] := by simpa using q3
   have hp3 : P[3]? = some (P[3]'(by omega)) := List.getElem?_eq_getElem _
   have hsz := HPS.out _ (List.getElem_mem (by omega : 3 < P.length))
   have hg3 : P.getD 3 ⟨#[]⟩ = P[3]'(by omega) := by rw [List.getD_eq_getElem?_getD, hp3]; rfl
   rw [hg3] at HK
   have h3i : (3 : Int) < (P.length : Int) := by omega
   obtain ⟨tb, htb⟩ : ∃ tb, isThere L wVnis P[3] = tb := ⟨_, rfl⟩
   have HTH := Lib.hid (fun W hb => HTh.out wVnis P[3] W hb)
   rw [htb] at HTH HK
   unfold wVnis at HTH
   clear HX HP4 Hg e0 e1 e2 e3 HT HO hg3 HTh hp3 htb
   go_enter Tryz.func102, Tryz.ntmps102
   go_wp2_with fail
   refine HJ.out.mono ?_
   rintro e w2 ⟨rfl, hb2⟩
   obtain ⟨B2, O2, rfl, -, -, z0⟩ := (HP.out.below hb2).strAt (by omega : 3 < P.length)
   generalize P[3] = s at *
   go_wp2_with fail
   refine (HTH.out w2 hb2).mono ?_
   rintro e w3 ⟨rfl, hb3⟩
   have hb4 := below_step hb2 hb3
   clear HTH hb2 hb3
   go_wp2
   go_ret
   exact ⟨ret_bool HK.out.symm, hb4⟩
 by_cases e4 : g = m5
 · have HK : Hid (meantB L i r.path P = (!(isThere L wVnis (P.getD 3 ⟨#[]⟩)) || outsideB L (P.getD 1 ⟨#[]⟩) (P.getD 3 ⟨#[]⟩))) := by show _ = _; rw [HX.out, if_neg e0, if_neg (not_or.2 ⟨e1, e2⟩), if_neg e3, if_pos e4]
   have hP4 := HP4.out (.inr (.inr (.inr (.inr e4))))
   have q0 : ((⟨g.toArray⟩ : ByteArray).toList == [104, 111, 115, 116, 115, 32, 36, 110, 97, 109, 101, 32, 105, 112, 32, 36, 105, 112]) = false := (Hg.out _).trans (decide_eq_false e0)
   have p0 : ¬ (⟨g.toArray⟩ : ByteArray).toList = [104, 111, 115, 116, 115, 32, 36, 110, 97, 109, 101, 32, 105, 112, 32, 36, 105, 112] := by simpa using q0
   have q1 : ((⟨g.toArray⟩ : ByteArray).toList == [98, 105, 110, 100, 105, 110, 103, 115, 32, 36, 105, 112, 32, 104, 111, 115, 116, 32, 36, 110, 97, 109, 101]) = false := (Hg.out _).trans (decide_eq_false e1)
   have p1 : ¬ (⟨g.toArray⟩ : ByteArray).toList = [98, 105, 110, 100, 105, 110, 103, 115, 32, 36, 105, 112, 32, 104, 111, 115, 116, 32, 36, 110, 97, 109, 101] := by simpa using q1
   have q2 : ((⟨g.toArray⟩ : ByteArray).toList == [114, 111, 117, 116, 101, 115, 32, 36, 112, 114, 101, 102, 105, 120, 32, 118, 105, 97, 32, 36, 110, 97, 109, 101]) = false := (Hg.out _).trans (decide_eq_false e2)
   have p2 : ¬ (⟨g.toArray⟩ : ByteArray).toList = [114, 111, 117, 116, 101, 115, 32, 36, 112, 114, 101, 102, 105, 120, 32, 118, 105, 97, 32, 36, 110, 97, 109, 101] := by simpa using q2
   have q3 : ((⟨g.toArray⟩ : ByteArray).toList == [104, 111, 115, 116, 115, 32, 36, 110, 97, 109, 101, 32, 118, 110, 105, 115, 32, 36, 118, 110, 105]) = false := (Hg.out _).trans (decide_eq_false e3)
   have p3 : ¬ (⟨g.toArray⟩ : ByteArray).toList = [104, 111, 115, 116, 115, 32, 36, 110, 97, 109, 101, 32, 118, 110, 105, 115, 32, 36, 118, 110, 105] := by simpa using q3
   have q4 : ((⟨g.toArray⟩ : ByteArray).toList == [98, 105, 110, 100, 105, 110, 103, 115, 32, 36, 105, 112, 32, 118, 110, 105, 32, 36, 118, 110, 105]) = true := (Hg.out _).trans (decide_eq_true e4)
   have p4 : (⟨g.toArray⟩ : ByteArray).toList = [98, 105, 110, 100, 105, 110, 103, 115, 32, 36, 105, 112, 32, 118, 110, 105, 32, 36, 118, 110, 105] := by simpa using q4
   have hp3 : P[3]? = some (P[3]'(by omega)) := List.getElem?_eq_getElem _
   have hsz := HPS.out _ (List.getElem_mem (by omega : 3 < P.length))
   have hg3 : P.getD 3 ⟨#[]⟩ = P[3]'(by omega) := by rw [List.getD_eq_getElem?_getD, hp3]; rfl
   rw [hg3] at HK
   have hg1 : P.getD 1 ⟨#[]⟩ = P[1]'(by omega) := by rw [List.getD_eq_getElem?_getD, List.getElem?_eq_getElem (by omega)]; rfl
   rw [hg1] at HK
   have hsz1 := HPS.out _ (List.getElem_mem (by omega : 1 < P.length))
   have h3i : (3 : Int) < (P.length : Int) := by omega
   have h1i : (1 : Int) < (P.length : Int) := by omega
   clear HX HP4 Hg e0 e1 e2 e3 e4 HT hg3 hp3 hg1
   go_enter Tryz.func102, Tryz.ntmps102
   go_wp2_with fail
   refine HJ.out.mono ?_
   rintro e w2 ⟨rfl, hb2⟩
   obtain ⟨B2, O2, rfl, -, -, z3⟩ := (HP.out.below hb2).strAt (by omega : 3 < P.length)
   obtain ⟨B3, O3, hA3, -, -, z1⟩ := (HP.out.below hb2).strAt (by omega : 1 < P.length)
   injection hA3 with hA3
   injection hA3 with ea eb
   subst ea eb
   have hth : ∀ m os, Calls Tryz.prog 141 #[.slice A L.length cap, .string wVnis, .string P[3]] (grow (redrawn w2 m) os) fun e w' => e = .returned (.bool (isThere L wVnis P[3])) ∧ ∃ p : Regrown, w' = grow (redrawn w2 p.d) p.os := fun m os => Calls.regrown_of (HTh.out wVnis P[3] _ (below_step hb2 (below_regrown w2 m os)))
   have hou : ∀ m os, Calls Tryz.prog 142 #[.slice A L.length cap, .string P[1], .string P[3]] (grow (redrawn w2 m) os) fun e w' => e = .returned (.bool (outsideB L P[1] P[3])) ∧ ∃ p : Regrown, w' = grow (redrawn w2 p.d) p.os := fun m os => Calls.regrown_of (HO.out P[1] P[3] _ (below_step hb2 (below_regrown w2 m os)) hsz1)
   have Z3 := fun m os => cell_regrown z3 m os
   have Z1 := fun m os => cell_regrown z1 m os
   unfold wVnis at hth
   have HK2 : Hid (meantB L i r.path P = (!(isThere L ⟨#[118, 110, 105, 115]⟩ P[3]) || outsideB L P[1] P[3])) := HK.out
   have HB2 := Lib.hid hb2
   clear z3 z1 HTh HO HK hb2
   generalize isThere L ⟨#[118, 110, 105, 115]⟩ P[3] = tb at *
   generalize outsideB L P[1] P[3] = ob at *
   generalize P[3] = s3 at *
   generalize P[1] = s1 at *
   cases tb with
   | true =>
     have HK3 : Hid (meantB L i r.path P = ob) := by show _ = _; rw [HK2.out]; rfl
     clear HK2
     go_wp2_with fail
     refine wp_region_quiet_below (by kernel_rfl) (by kernel_rfl) ?_
     repeat (go_big_quiet_step ((first | (go_at_call 141; exact hth _ _) | (go_at_call 142; exact hou _ _))))
     refine wpQuiet_nil ?_
     intro _ hw'
     obtain ⟨⟨dq, osq⟩, hw''⟩ := hw'
     subst hw''
     go_wp2_with fail
     go_ret
     exact ⟨ret_bool HK3.out.symm, below_step HB2.out (below_regrown w2 dq osq)⟩
   | false =>
     have HK3 : Hid (meantB L i r.path P = true) := by show _ = _; rw [HK2.out]; rfl
     clear HK2 hou
     go_wp2_with fail
     refine wp_region_quiet_below (by kernel_rfl) (by kernel_rfl) ?_
     repeat (go_big_quiet_step ((go_at_call 141; exact hth _ _)))
     refine wpQuiet_nil ?_
     intro _ hw'
     obtain ⟨⟨dq, osq⟩, hw''⟩ := hw'
     subst hw''
     go_wp2_with fail
     go_ret
     exact ⟨ret_bool HK3.out.symm, below_step HB2.out (below_regrown w2 dq osq)⟩
 have HK : Hid (meantB L i r.path P = false) := by show _ = _; rw [HX.out, if_neg e0, if_neg (not_or.2 ⟨e1, e2⟩), if_neg e3, if_neg e4]
 have q0 : (g == [104, 111, 115, 116, 115, 32, 36, 110, 97, 109, 101, 32, 105, 112, 32, 36, 105, 112]) = false := beq_eq_false_iff_ne.2 e0
 have p0 : ¬ g = [104, 111, 115, 116, 115, 32, 36, 110, 97, 109, 101, 32, 105, 112, 32, 36, 105, 112] := e0
 have q1 : (g == [98, 105, 110, 100, 105, 110, 103, 115, 32, 36, 105, 112, 32, 104, 111, 115, 116, 32, 36, 110, 97, 109, 101]) = false := beq_eq_false_iff_ne.2 e1
 have p1 : ¬ g = [98, 105, 110, 100, 105, 110, 103, 115, 32, 36, 105, 112, 32, 104, 111, 115, 116, 32, 36, 110, 97, 109, 101] := e1
 have q2 : (g == [114, 111, 117, 116, 101, 115, 32, 36, 112, 114, 101, 102, 105, 120, 32, 118, 105, 97, 32, 36, 110, 97, 109, 101]) = false := beq_eq_false_iff_ne.2 e2
 have p2 : ¬ g = [114, 111, 117, 116, 101, 115, 32, 36, 112, 114, 101, 102, 105, 120, 32, 118, 105, 97, 32, 36, 110, 97, 109, 101] := e2
 have q3 : (g == [104, 111, 115, 116, 115, 32, 36, 110, 97, 109, 101, 32, 118, 110, 105, 115, 32, 36, 118, 110, 105]) = false := beq_eq_false_iff_ne.2 e3
 have p3 : ¬ g = [104, 111, 115, 116, 115, 32, 36, 110, 97, 109, 101, 32, 118, 110, 105, 115, 32, 36, 118, 110, 105] := e3
 have q4 : (g == [98, 105, 110, 100, 105, 110, 103, 115, 32, 36, 105, 112, 32, 118, 110, 105, 32, 36, 118, 110, 105]) = false := beq_eq_false_iff_ne.2 e4
 have p4 : ¬ g = [98, 105, 110, 100, 105, 110, 103, 115, 32, 36, 105, 112, 32, 118, 110, 105, 32, 36, 118, 110, 105] := e4
 clear HX HP4 Hg HT HO HTh
 go_enter Tryz.func102, Tryz.ntmps102
 go_wp2_with fail
 refine HJ.out.mono ?_
 rintro e w2 ⟨rfl, hb2⟩
 go_wp2_with fail
 go_ret
 exact ⟨ret_bool HK.out.symm, hb2⟩
end Go.Proofs.YtjdknhalcpkeaaaGreatDoor
