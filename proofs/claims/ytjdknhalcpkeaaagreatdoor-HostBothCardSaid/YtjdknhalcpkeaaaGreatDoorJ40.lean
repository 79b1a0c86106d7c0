/- Walks: the reference's twice, meant. -/
import Derived.Test.YtjdknhalcpkeaaaGreatDoorJ39
namespace Go.Proofs.YtjdknhalcpkeaaaGreatDoor
open Go Go.RowKit Go.Sort Sch Adr Mtr Tre
theorem len_four {P : List ByteArray} (h : P.length = 4) : ∃ a b c d, P = [a, b, c, d] := by
 rcases P with _ | ⟨a, _ | ⟨b, _ | ⟨c, _ | ⟨d, _ | ⟨e, l⟩⟩⟩⟩⟩
 all_goals first | exact ⟨_, _, _, _, rfl⟩ | (simp at h)
theorem str_same {A : Option Addr} {w : World} {P : List ByteArray} (h : Rd w 1 A P.length (sv P)) (h0 : 0 < P.length) : ∃ B O, A = some ⟨B, O, none⟩ ∧ ∀ i, (hi : i < P.length) → w.cell? ⟨B, O + i, none⟩ = some (.string P[i]) := by
 obtain ⟨B, O, e, -, -, -⟩ := h.strAt h0
 refine ⟨B, O, e, fun i hi => ?_⟩
 obtain ⟨B', O', e', -, -, z⟩ := h.strAt hi
 rw [e] at e'
 injection e' with e'
 injection e' with ea eb
 subst ea eb
 exact z
set_option maxHeartbeats 4000000 in
set_option maxRecDepth 100000 in
theorem refTwice_any (A : Option Addr) (cap : Nat) (L : List Line) (i : Nat) (s : ByteArray) (w : World) (hR : Rd w 3 A L.length (lines L)) (hcap : L.length ≤ cap) (hc : cap ≤ maxLen) (hr : rightB L = true) (hi : i ≤ L.length) :
 Calls Tryz.prog 109 #[.slice A L.length cap, .int .i64 i, .string s] w fun e w' => e = .returned (.bool (refTwB L i s)) ∧ Below w.heap.size w w' := by
 have h200 := right_len hr
 have HPa := Lib.hid (fun (k : Nat) (hk : k < L.length) W (hb : Below w.heap.size w W) => refPath_lines A cap L k W (hR.below hb) hcap hc (by omega) hk)
 have HSh := Lib.hid (fun (k : Nat) (hk : k < L.length) => path_short hr hk)
 have HX : Hid (refTwB L i s = refTwFrom L s 0 (i - 0)) := rfl
 have HNm := Lib.hid (fun (b : ByteArray) W (hb : b.size ≤ 100000000) => refName_any b W hb)
 unfold maxLen at hc
 clear hR hr
 go_enter Tryz.func109, Tryz.ntmps109
 go_wp2
 go_loopw [7] (fun vi wr => ∃ k : Nat, k ≤ i ∧ vi = .int .i64 k ∧ Hid (refTwB L i s = refTwFrom L s k (i - k)) ∧ Hid (Below w.heap.size w wr)) (fun vi _ => i - (intOf vi).toNat)
 case atStart => exact ⟨0, Nat.zero_le _, rfl, HX, Below.refl _ _⟩
 case round =>
  clear HX
  obtain ⟨k, hk, rfl, HQ, HB⟩ := hrel
  by_cases hlt : k < i
  · have hkl : k < L.length := by omega
    have hst : Hid (refTwB L i s = (rtest s (pathB L k) || refTwFrom L s (k + 1) (i - (k + 1)))) := by
     show _ = _
     rw [HQ.out, show i - k = (i - (k + 1)) + 1 by omega]; rfl
    have HPk := HPa.out k hkl wr HB.out
    have HSk := HSh.out k hkl
    unfold StrsEnd at HPk
    generalize pathB L k = Q at *
    clear HQ
    by_cases h4 : Q.length = 4
    · obtain ⟨a, b, c, d, rfl⟩ := len_four h4
      have hbs : b.size ≤ 100000000 := HSk b (by simp)
      have HT : Hid (rtest s [a, b, c, d] = (decide (a = wHosts) && (nameB b.data.toList && (decide (c = wIp) && decide (d = s))))) := rfl
      have HNb := Lib.hid (fun W => HNm.out b W hbs)
      have hl4 : ([a, b, c, d] : List ByteArray).length = 4 := rfl
      have HSE : Hid (∀ (A3 : Option Addr) w', Rd w' 1 A3 4 (sv [a, b, c, d]) → ∃ B2 O2, A3 = some ⟨B2, O2, none⟩ ∧ w'.cell? ⟨B2, O2, none⟩ = some (.string a) ∧ w'.cell? ⟨B2, O2 + 1, none⟩ = some (.string b) ∧ w'.cell? ⟨B2, O2 + 2, none⟩ = some (.string c) ∧ w'.cell? ⟨B2, O2 + 3, none⟩ = some (.string d)) := fun A3 w' h => by
       obtain ⟨B2, O2, e, hz⟩ := str_same (P := [a, b, c, d]) h (by simp)
       exact ⟨B2, O2, e, hz 0 (by simp), hz 1 (by simp), hz 2 (by simp), hz 3 (by simp)⟩
      rw [hl4] at HPk
      generalize nameB b.data.toList = nb at *
      clear HNm h4 hl4 HSk hbs
      by_cases e0 : a = wHosts
      · skip
        have q0 : (a.toList == [104, 111, 115, 116, 115]) = true := (type_eq a _).trans (decide_eq_true e0)
        have p0 : a.toList = [104, 111, 115, 116, 115] := by simpa using q0
        cases nb with
        | false =>
          have HK : Hid (refTwB L i s = refTwFrom L s (k + 1) (i - (k + 1))) := by show _ = _; rw [hst.out, HT.out, decide_eq_true e0]; rfl
          clear e0 hst HT
          go_wp2_with fail
          refine HPk.mono ?_
          clear HPk
          rintro e w2 ⟨A3, c3, rfl, hk1, hk2, hrd, -, hb2⟩
          obtain ⟨B2, O2, rfl, z0, z1, z2, z3⟩ := HSE.out A3 w2 hrd
          have HB2 := Lib.hid (below_step HB.out hb2)
          have HZ2 := Lib.hid z2
          have HZ3 := Lib.hid z3
          clear hrd hb2 HB HSE z2 z3
          go_wp2_with fail
          refine (HNb.out w2).mono ?_
          rintro e w3 ⟨rfl, hb3⟩
          have HB3 := Lib.hid (below_step HB2.out hb3)
          have z2 := (hb3.cell (p := ⟨B2, O2 + 2, none⟩) (Lib.lt_of_cell HZ2.out)).trans HZ2.out
          have z3 := (hb3.cell (p := ⟨B2, O2 + 3, none⟩) (Lib.lt_of_cell HZ3.out)).trans HZ3.out
          clear HZ2 HZ3 hb3 HNb z0 z1 HB2
          go_wp2_with fail
          go_roundw
          case rel => exact ⟨k + 1, by omega, by go_num, HK, HB3⟩
          case measure => simp [intOf]; omega
        | true =>
          by_cases e2 : c = wIp
          · skip
            have q2 : (c.toList == [105, 112]) = true := (type_eq c _).trans (decide_eq_true e2)
            have p2 : c.toList = [105, 112] := by simpa using q2
            by_cases e3 : d = s
            · skip
              have q3 : (d.toList == s.toList) = true := (eq_bytes d s).trans (decide_eq_true e3)
              have p3 : d.toList = s.toList := by simpa using q3
              have HK : Hid (refTwB L i s = true) := by show _ = _; rw [hst.out, HT.out, decide_eq_true e0, decide_eq_true e2, decide_eq_true e3]; rfl
              clear e0 e2 e3 hst HT
              go_wp2_with fail
              refine HPk.mono ?_
              clear HPk
              rintro e w2 ⟨A3, c3, rfl, hk1, hk2, hrd, -, hb2⟩
              obtain ⟨B2, O2, rfl, z0, z1, z2, z3⟩ := HSE.out A3 w2 hrd
              have HB2 := Lib.hid (below_step HB.out hb2)
              have HZ2 := Lib.hid z2
              have HZ3 := Lib.hid z3
              clear hrd hb2 HB HSE z2 z3
              go_wp2_with fail
              refine (HNb.out w2).mono ?_
              rintro e w3 ⟨rfl, hb3⟩
              have HB3 := Lib.hid (below_step HB2.out hb3)
              have z2 := (hb3.cell (p := ⟨B2, O2 + 2, none⟩) (Lib.lt_of_cell HZ2.out)).trans HZ2.out
              have z3 := (hb3.cell (p := ⟨B2, O2 + 3, none⟩) (Lib.lt_of_cell HZ3.out)).trans HZ3.out
              clear HZ2 HZ3 hb3 HNb z0 z1 HB2
              go_wp2_with fail
              go_ret
              exact ⟨ret_bool HK.out.symm, HB3.out⟩
            · skip
              have q3 : (d.toList == s.toList) = false := (eq_bytes d s).trans (decide_eq_false e3)
              have p3 : ¬ d.toList = s.toList := by simpa using q3
              have HK : Hid (refTwB L i s = refTwFrom L s (k + 1) (i - (k + 1))) := by show _ = _; rw [hst.out, HT.out, decide_eq_true e0, decide_eq_true e2, decide_eq_false e3]; rfl
              clear e0 e2 e3 hst HT
              go_wp2_with fail
              refine HPk.mono ?_
              clear HPk
              rintro e w2 ⟨A3, c3, rfl, hk1, hk2, hrd, -, hb2⟩
              obtain ⟨B2, O2, rfl, z0, z1, z2, z3⟩ := HSE.out A3 w2 hrd
              have HB2 := Lib.hid (below_step HB.out hb2)
              have HZ2 := Lib.hid z2
              have HZ3 := Lib.hid z3
              clear hrd hb2 HB HSE z2 z3
              go_wp2_with fail
              refine (HNb.out w2).mono ?_
              rintro e w3 ⟨rfl, hb3⟩
              have HB3 := Lib.hid (below_step HB2.out hb3)
              have z2 := (hb3.cell (p := ⟨B2, O2 + 2, none⟩) (Lib.lt_of_cell HZ2.out)).trans HZ2.out
              have z3 := (hb3.cell (p := ⟨B2, O2 + 3, none⟩) (Lib.lt_of_cell HZ3.out)).trans HZ3.out
              clear HZ2 HZ3 hb3 HNb z0 z1 HB2
              go_wp2_with fail
              go_roundw
              case rel => exact ⟨k + 1, by omega, by go_num, HK, HB3⟩
              case measure => simp [intOf]; omega
          · skip
            have q2 : (c.toList == [105, 112]) = false := (type_eq c _).trans (decide_eq_false e2)
            have p2 : ¬ c.toList = [105, 112] := by simpa using q2
            have HK : Hid (refTwB L i s = refTwFrom L s (k + 1) (i - (k + 1))) := by show _ = _; rw [hst.out, HT.out, decide_eq_true e0, decide_eq_false e2]; rfl
            clear e0 e2 hst HT
            go_wp2_with fail
            refine HPk.mono ?_
            clear HPk
            rintro e w2 ⟨A3, c3, rfl, hk1, hk2, hrd, -, hb2⟩
            obtain ⟨B2, O2, rfl, z0, z1, z2, z3⟩ := HSE.out A3 w2 hrd
            have HB2 := Lib.hid (below_step HB.out hb2)
            have HZ2 := Lib.hid z2
            have HZ3 := Lib.hid z3
            clear hrd hb2 HB HSE z2 z3
            go_wp2_with fail
            refine (HNb.out w2).mono ?_
            rintro e w3 ⟨rfl, hb3⟩
            have HB3 := Lib.hid (below_step HB2.out hb3)
            have z2 := (hb3.cell (p := ⟨B2, O2 + 2, none⟩) (Lib.lt_of_cell HZ2.out)).trans HZ2.out
            have z3 := (hb3.cell (p := ⟨B2, O2 + 3, none⟩) (Lib.lt_of_cell HZ3.out)).trans HZ3.out
            clear HZ2 HZ3 hb3 HNb z0 z1 HB2
            go_wp2_with fail
            go_roundw
            case rel => exact ⟨k + 1, by omega, by go_num, HK, HB3⟩
            case measure => simp [intOf]; omega
      · skip
        have q0 : (a.toList == [104, 111, 115, 116, 115]) = false := (type_eq a _).trans (decide_eq_false e0)
        have p0 : ¬ a.toList = [104, 111, 115, 116, 115] := by simpa using q0
        have HK : Hid (refTwB L i s = refTwFrom L s (k + 1) (i - (k + 1))) := by show _ = _; rw [hst.out, HT.out, decide_eq_false e0]; rfl
        clear e0 hst HT
        go_wp2_with fail
        refine HPk.mono ?_
        clear HPk
        rintro e w2 ⟨A3, c3, rfl, hk1, hk2, hrd, -, hb2⟩
        obtain ⟨B2, O2, rfl, z0, z1, z2, z3⟩ := HSE.out A3 w2 hrd
        have HB2 := Lib.hid (below_step HB.out hb2)
        clear hrd hb2 HB HSE
        go_wp2_with fail
        go_roundw
        case rel => exact ⟨k + 1, by omega, by go_num, HK, HB2⟩
        case measure => simp [intOf]; omega
    · have HK : Hid (refTwB L i s = refTwFrom L s (k + 1) (i - (k + 1))) := by
       show _ = _
       rw [hst.out]
       unfold rtest
       rw [decide_eq_false h4]; rfl
      have q4 : ((Q.length : Int) == 4) = false := by simp; omega
      have p4 : ¬ (Q.length : Int) = 4 := by omega
      clear hst HNm HSk h4
      go_wp2_with fail
      refine HPk.mono ?_
      clear HPk
      rintro e w2 ⟨A3, c3, rfl, hk1, hk2, hrd, -, hb2⟩
      have HB2 := Lib.hid (below_step HB.out hb2)
      clear hrd hb2 HB
      go_wp2_with fail
      go_roundw
      case rel => exact ⟨k + 1, by omega, by go_num, HK, HB2⟩
      case measure => simp [intOf]; omega
  · obtain rfl : k = i := by omega
    have HK : Hid (refTwB L k s = false) := by show _ = _; rw [HQ.out, Nat.sub_self]; rfl
    clear HQ
    go_wp2_with fail
    go_ret
    exact ⟨ret_bool HK.out.symm, HB.out⟩
set_option maxHeartbeats 8000000 in
set_option maxRecDepth 100000 in
theorem refMeant_any (A : Option Addr) (cap : Nat) (L : List Line) (i : Nat) (A2 : Option Addr) (c2 : Nat) (a b c d : ByteArray) (w : World) (hR : Rd w 3 A L.length (lines L)) (hcap : L.length ≤ cap) (hc : cap ≤ maxLen) (hr : rightB L = true) (hi : i ≤ L.length) (hP : Rd w 1 A2 4 (sv [a, b, c, d])) (hps : Shw [a, b, c, d]) :
 Calls Tryz.prog 72 #[.slice A L.length cap, .int .i64 i, .slice A2 4 c2] w fun e w' => e = .returned (.bool (refMeantB L i [a, b, c, d])) ∧ Below w.heap.size w w' := by
 obtain ⟨B, O, rfl, hz⟩ := str_same (P := [a, b, c, d]) hP (by simp)
 have z0 : w.cell? ⟨B, O, none⟩ = some (.string a) := hz 0 (by simp)
 have z1 : w.cell? ⟨B, O + 1, none⟩ = some (.string b) := hz 1 (by simp)
 have z2 : w.cell? ⟨B, O + 2, none⟩ = some (.string c) := hz 2 (by simp)
 have z3 : w.cell? ⟨B, O + 3, none⟩ = some (.string d) := hz 3 (by simp)
 have ha : a.size ≤ 100000000 := hps a (by simp)
 have hb : b.size ≤ 100000000 := hps b (by simp)
 have hcs : c.size ≤ 100000000 := hps c (by simp)
 have HTw := Lib.hid (fun W (hb : Below w.heap.size w W) => refTwice_any A cap L i d W (hR.below hb) hcap hc hr hi)
 have HTh := Lib.hid (fun x W (hb : Below w.heap.size w W) => refThere_any A cap L x d W (hR.below hb) hcap hc hr)
 have HOu := Lib.hid (fun W (hw : Below w.heap.size w W) => refOut_any A cap L b d W (hR.below hw) hcap hc hr hb)
 obtain ⟨S, hS⟩ : ∃ S, a ++ ⟨#[32]⟩ ++ c = S := ⟨_, rfl⟩
 have HT := Lib.hid (fun x y hx hy => cat_test hS x y hx hy)
 have hs1 : (a ++ ⟨#[32]⟩ : ByteArray).size = a.size + 1 := by rw [ByteArray.size_append]; rfl
 have HX : Hid (refMeantB L i [a, b, c, d] = if a = wHosts ∧ c = wIp then refTwB L i d else if a = wBind ∧ c = wHost ∨ a = wRoutes ∧ c = wVia then !(isThere L wHosts d) else if a = wHosts ∧ c = wVnis then !(isThere L wVnis d) else if a = wBind ∧ c = wVni then !(isThere L wVnis d) || refOutB L b d else false) := rfl
 unfold maxLen at hc
 clear hR hr hP hps hz
 by_cases e0 : a = wHosts ∧ c = wIp
 · skip
   have q0 : (S.toList == [104, 111, 115, 116, 115, 32, 105, 112]) = true := (HT.out [104, 111, 115, 116, 115] [105, 112] (by decide) (by decide)).trans (decide_eq_true e0)
   have p0 : S.toList = [104, 111, 115, 116, 115, 32, 105, 112] := by simpa using q0
   have HK : Hid (refMeantB L i [a, b, c, d] = refTwB L i d) := by show _ = _; rw [HX.out, if_pos e0]
   clear HT HTh HOu HX e0
   go_enter Tryz.func72, Tryz.ntmps72
   go_wp2_with fail
   go_quiet (fail)
   have HBq := Lib.hid (below_drewN (Below.refl w.heap.size w) nq)
   go_wp2_with fail
   refine (HTw.out _ HBq.out).mono ?_
   rintro e w2 ⟨rfl, hb2⟩
   go_wp2_with fail
   go_ret
   exact ⟨ret_bool HK.out.symm, below_step HBq.out hb2⟩
 by_cases e1 : a = wBind ∧ c = wHost
 · skip
   have q0 : (S.toList == [104, 111, 115, 116, 115, 32, 105, 112]) = false := (HT.out [104, 111, 115, 116, 115] [105, 112] (by decide) (by decide)).trans (decide_eq_false e0)
   have p0 : ¬ S.toList = [104, 111, 115, 116, 115, 32, 105, 112] := by simpa using q0
   have q1 : (S.toList == [98, 105, 110, 100, 105, 110, 103, 115, 32, 104, 111, 115, 116]) = true := (HT.out [98, 105, 110, 100, 105, 110, 103, 115] [104, 111, 115, 116] (by decide) (by decide)).trans (decide_eq_true e1)
   have p1 : S.toList = [98, 105, 110, 100, 105, 110, 103, 115, 32, 104, 111, 115, 116] := by simpa using q1
   have HK : Hid (refMeantB L i [a, b, c, d] = !(isThere L wHosts d)) := by show _ = _; rw [HX.out, if_neg e0, if_pos (.inl e1)]
   have HTx := Lib.hid (fun W (hb : Below w.heap.size w W) => HTh.out wHosts W hb)
   generalize isThere L wHosts d = tb at *
   unfold wHosts at HTx
   clear HT HTh HOu HTw HX e0 e1
   go_enter Tryz.func72, Tryz.ntmps72
   go_wp2_with fail
   go_quiet (fail)
   have HBq := Lib.hid (below_drewN (Below.refl w.heap.size w) nq)
   go_wp2_with fail
   refine (HTx.out _ HBq.out).mono ?_
   rintro e w2 ⟨rfl, hb2⟩
   go_wp2_with fail
   go_ret
   exact ⟨ret_bool HK.out.symm, below_step HBq.out hb2⟩
 by_cases e2 : a = wRoutes ∧ c = wVia
 · skip
   have q0 : (S.toList == [104, 111, 115, 116, 115, 32, 105, 112]) = false := (HT.out [104, 111, 115, 116, 115] [105, 112] (by decide) (by decide)).trans (decide_eq_false e0)
   have p0 : ¬ S.toList = [104, 111, 115, 116, 115, 32, 105, 112] := by simpa using q0
   have q1 : (S.toList == [98, 105, 110, 100, 105, 110, 103, 115, 32, 104, 111, 115, 116]) = false := (HT.out [98, 105, 110, 100, 105, 110, 103, 115] [104, 111, 115, 116] (by decide) (by decide)).trans (decide_eq_false e1)
   have p1 : ¬ S.toList = [98, 105, 110, 100, 105, 110, 103, 115, 32, 104, 111, 115, 116] := by simpa using q1
   have q2 : (S.toList == [114, 111, 117, 116, 101, 115, 32, 118, 105, 97]) = true := (HT.out [114, 111, 117, 116, 101, 115] [118, 105, 97] (by decide) (by decide)).trans (decide_eq_true e2)
   have p2 : S.toList = [114, 111, 117, 116, 101, 115, 32, 118, 105, 97] := by simpa using q2
   have HK : Hid (refMeantB L i [a, b, c, d] = !(isThere L wHosts d)) := by show _ = _; rw [HX.out, if_neg e0, if_pos (.inr e2)]
   have HTx := Lib.hid (fun W (hb : Below w.heap.size w W) => HTh.out wHosts W hb)
   generalize isThere L wHosts d = tb at *
   unfold wHosts at HTx
   clear HT HTh HOu HTw HX e0 e1 e2
   go_enter Tryz.func72, Tryz.ntmps72
   go_wp2_with fail
   go_quiet (fail)
   have HBq := Lib.hid (below_drewN (Below.refl w.heap.size w) nq)
   go_wp2_with fail
   refine (HTx.out _ HBq.out).mono ?_
   rintro e w2 ⟨rfl, hb2⟩
   go_wp2_with fail
   go_ret
   exact ⟨ret_bool HK.out.symm, below_step HBq.out hb2⟩
 by_cases e3 : a = wHosts ∧ c = wVnis
 · skip
   have q0 : (S.toList == [104, 111, 115, 116, 115, 32, 105, 112]) = false := (HT.out [104, 111, 115, 116, 115] [105, 112] (by decide) (by decide)).trans (decide_eq_false e0)
   have p0 : ¬ S.toList = [104, 111, 115, 116, 115, 32, 105, 112] := by simpa using q0
   have q1 : (S.toList == [98, 105, 110, 100, 105, 110, 103, 115, 32, 104, 111, 115, 116]) = false := (HT.out [98, 105, 110, 100, 105, 110, 103, 115] [104, 111, 115, 116] (by decide) (by decide)).trans (decide_eq_false e1)
   have p1 : ¬ S.toList = [98, 105, 110, 100, 105, 110, 103, 115, 32, 104, 111, 115, 116] := by simpa using q1
   have q2 : (S.toList == [114, 111, 117, 116, 101, 115, 32, 118, 105, 97]) = false := (HT.out [114, 111, 117, 116, 101, 115] [118, 105, 97] (by decide) (by decide)).trans (decide_eq_false e2)
   have p2 : ¬ S.toList = [114, 111, 117, 116, 101, 115, 32, 118, 105, 97] := by simpa using q2
   have q3 : (S.toList == [104, 111, 115, 116, 115, 32, 118, 110, 105, 115]) = true := (HT.out [104, 111, 115, 116, 115] [118, 110, 105, 115] (by decide) (by decide)).trans (decide_eq_true e3)
   have p3 : S.toList = [104, 111, 115, 116, 115, 32, 118, 110, 105, 115] := by simpa using q3
   have HK : Hid (refMeantB L i [a, b, c, d] = !(isThere L wVnis d)) := by show _ = _; rw [HX.out, if_neg e0, if_neg (not_or.2 ⟨e1, e2⟩), if_pos e3]
   have HTx := Lib.hid (fun W (hb : Below w.heap.size w W) => HTh.out wVnis W hb)
   generalize isThere L wVnis d = tb at *
   unfold wVnis at HTx
   clear HT HTh HOu HTw HX e0 e1 e2 e3
   go_enter Tryz.func72, Tryz.ntmps72
   go_wp2_with fail
   go_quiet (fail)
   have HBq := Lib.hid (below_drewN (Below.refl w.heap.size w) nq)
   go_wp2_with fail
   refine (HTx.out _ HBq.out).mono ?_
   rintro e w2 ⟨rfl, hb2⟩
   go_wp2_with fail
   go_ret
   exact ⟨ret_bool HK.out.symm, below_step HBq.out hb2⟩
 by_cases e4 : a = wBind ∧ c = wVni
 · skip
   have q0 : (S.toList == [104, 111, 115, 116, 115, 32, 105, 112]) = false := (HT.out [104, 111, 115, 116, 115] [105, 112] (by decide) (by decide)).trans (decide_eq_false e0)
   have p0 : ¬ S.toList = [104, 111, 115, 116, 115, 32, 105, 112] := by simpa using q0
   have q1 : (S.toList == [98, 105, 110, 100, 105, 110, 103, 115, 32, 104, 111, 115, 116]) = false := (HT.out [98, 105, 110, 100, 105, 110, 103, 115] [104, 111, 115, 116] (by decide) (by decide)).trans (decide_eq_false e1)
   have p1 : ¬ S.toList = [98, 105, 110, 100, 105, 110, 103, 115, 32, 104, 111, 115, 116] := by simpa using q1
   have q2 : (S.toList == [114, 111, 117, 116, 101, 115, 32, 118, 105, 97]) = false := (HT.out [114, 111, 117, 116, 101, 115] [118, 105, 97] (by decide) (by decide)).trans (decide_eq_false e2)
   have p2 : ¬ S.toList = [114, 111, 117, 116, 101, 115, 32, 118, 105, 97] := by simpa using q2
   have q3 : (S.toList == [104, 111, 115, 116, 115, 32, 118, 110, 105, 115]) = false := (HT.out [104, 111, 115, 116, 115] [118, 110, 105, 115] (by decide) (by decide)).trans (decide_eq_false e3)
   have p3 : ¬ S.toList = [104, 111, 115, 116, 115, 32, 118, 110, 105, 115] := by simpa using q3
   have q4 : (S.toList == [98, 105, 110, 100, 105, 110, 103, 115, 32, 118, 110, 105]) = true := (HT.out [98, 105, 110, 100, 105, 110, 103, 115] [118, 110, 105] (by decide) (by decide)).trans (decide_eq_true e4)
   have p4 : S.toList = [98, 105, 110, 100, 105, 110, 103, 115, 32, 118, 110, 105] := by simpa using q4
   have HK : Hid (refMeantB L i [a, b, c, d] = (!(isThere L wVnis d) || refOutB L b d)) := by show _ = _; rw [HX.out, if_neg e0, if_neg (not_or.2 ⟨e1, e2⟩), if_neg e3, if_pos e4]
   clear HT HTw HX e0 e1 e2 e3 e4
   go_enter Tryz.func72, Tryz.ntmps72
   go_wp2_with fail
   go_quiet (fail)
   have HBq := Lib.hid (below_drewN (Below.refl w.heap.size w) nq)
   have hth : ∀ m os, Calls Tryz.prog 110 #[.slice A L.length cap, .string wVnis, .string d] (grow (redrawn (w.drewN nq) m) os) fun e w' => e = .returned (.bool (isThere L wVnis d)) ∧ ∃ p : Regrown, w' = grow (redrawn (w.drewN nq) p.d) p.os := fun m os => Calls.regrown_of (HTh.out wVnis _ (below_step HBq.out (below_regrown _ m os)))
   have hou : ∀ m os, Calls Tryz.prog 111 #[.slice A L.length cap, .string b, .string d] (grow (redrawn (w.drewN nq) m) os) fun e w' => e = .returned (.bool (refOutB L b d)) ∧ ∃ p : Regrown, w' = grow (redrawn (w.drewN nq) p.d) p.os := fun m os => Calls.regrown_of (HOu.out _ (below_step HBq.out (below_regrown _ m os)))
   have Z3 := fun m os => cell_regrown (w := w.drewN nq) (show (w.drewN nq).cell? ⟨B, O + 3, none⟩ = _ from z3) m os
   have Z1 := fun m os => cell_regrown (w := w.drewN nq) (show (w.drewN nq).cell? ⟨B, O + 1, none⟩ = _ from z1) m os
   unfold wVnis at hth
   have HK2 : Hid (refMeantB L i [a, b, c, d] = (!(isThere L ⟨#[118, 110, 105, 115]⟩ d) || refOutB L b d)) := HK.out
   clear z3 z1 z0 z2 HTh HOu HK
   generalize isThere L ⟨#[118, 110, 105, 115]⟩ d = tb at *
   generalize refOutB L b d = ob at *
   generalize w.drewN nq = wq at *
   go_wp2_with fail
   cases tb with
   | true =>
     have HK3 : Hid (refMeantB L i [a, b, c, d] = ob) := by show _ = _; rw [HK2.out]; rfl
     clear HK2
     refine wp_region_quiet_below (by kernel_rfl) (by kernel_rfl) ?_
     repeat (go_big_quiet_step ((first | (go_at_call 110; exact hth _ _) | (go_at_call 111; exact hou _ _))))
     refine wpQuiet_nil ?_
     intro _ hw'
     obtain ⟨⟨dq, osq⟩, hw''⟩ := hw'
     subst hw''
     go_wp2_with fail
     go_ret
     exact ⟨ret_bool HK3.out.symm, below_step HBq.out (below_regrown wq dq osq)⟩
   | false =>
     have HK3 : Hid (refMeantB L i [a, b, c, d] = true) := by show _ = _; rw [HK2.out]; rfl
     clear HK2 hou
     refine wp_region_quiet_below (by kernel_rfl) (by kernel_rfl) ?_
     repeat (go_big_quiet_step ((first | (go_at_call 110; exact hth _ _))))
     refine wpQuiet_nil ?_
     intro _ hw'
     obtain ⟨⟨dq, osq⟩, hw''⟩ := hw'
     subst hw''
     go_wp2_with fail
     go_ret
     exact ⟨ret_bool HK3.out.symm, below_step HBq.out (below_regrown wq dq osq)⟩
 have HK : Hid (refMeantB L i [a, b, c, d] = false) := by show _ = _; rw [HX.out, if_neg e0, if_neg (not_or.2 ⟨e1, e2⟩), if_neg e3, if_neg e4]
 have q0 : (S.toList == [104, 111, 115, 116, 115, 32, 105, 112]) = false := (HT.out [104, 111, 115, 116, 115] [105, 112] (by decide) (by decide)).trans (decide_eq_false e0)
 have p0 : ¬ S.toList = [104, 111, 115, 116, 115, 32, 105, 112] := by simpa using q0
 have q1 : (S.toList == [98, 105, 110, 100, 105, 110, 103, 115, 32, 104, 111, 115, 116]) = false := (HT.out [98, 105, 110, 100, 105, 110, 103, 115] [104, 111, 115, 116] (by decide) (by decide)).trans (decide_eq_false e1)
 have p1 : ¬ S.toList = [98, 105, 110, 100, 105, 110, 103, 115, 32, 104, 111, 115, 116] := by simpa using q1
 have q2 : (S.toList == [114, 111, 117, 116, 101, 115, 32, 118, 105, 97]) = false := (HT.out [114, 111, 117, 116, 101, 115] [118, 105, 97] (by decide) (by decide)).trans (decide_eq_false e2)
 have p2 : ¬ S.toList = [114, 111, 117, 116, 101, 115, 32, 118, 105, 97] := by simpa using q2
 have q3 : (S.toList == [104, 111, 115, 116, 115, 32, 118, 110, 105, 115]) = false := (HT.out [104, 111, 115, 116, 115] [118, 110, 105, 115] (by decide) (by decide)).trans (decide_eq_false e3)
 have p3 : ¬ S.toList = [104, 111, 115, 116, 115, 32, 118, 110, 105, 115] := by simpa using q3
 have q4 : (S.toList == [98, 105, 110, 100, 105, 110, 103, 115, 32, 118, 110, 105]) = false := (HT.out [98, 105, 110, 100, 105, 110, 103, 115] [118, 110, 105] (by decide) (by decide)).trans (decide_eq_false e4)
 have p4 : ¬ S.toList = [98, 105, 110, 100, 105, 110, 103, 115, 32, 118, 110, 105] := by simpa using q4
 clear HT HTh HOu HTw HX e0 e1 e2 e3 e4
 go_enter Tryz.func72, Tryz.ntmps72
 go_wp2_with fail
 go_quiet (fail)
 have HBq := Lib.hid (below_drewN (Below.refl w.heap.size w) nq)
 go_wp2_with fail
 go_ret
 exact ⟨ret_bool HK.out.symm, HBq.out⟩
end Go.Proofs.YtjdknhalcpkeaaaGreatDoor
