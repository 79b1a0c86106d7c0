/- A walk: the reference's Check. -/
import Derived.Test.YtjdknhalcpkeaaaGreatDoorJ40
namespace Go.Proofs.YtjdknhalcpkeaaaGreatDoor
open Go Go.RowKit Go.Sort Sch Adr Mtr Tre
theorem app_keep {P : Program} {ops : Array Oper} {rest : List Oper} {o : Oper} {a : Act} {Q : Exit → Act → World → Prop} (hgd : o.guard = none) (s x : Operand) (t : TypeId)
 (ho : o.op = .call { callee := .builtin .append, args := #[s, x], argTypes := #[t, t] })
 (w0 wr : World) (e : TypeId) (i : TypeInfo) (z : Value) (k bytes : Nat) (ht : P.underlying t = some (.slice e)) (hi : P.info? e = some i) (hz : i.zero = some z)
 (hsize : i.size = k) (hby : i.bytes = bytes) (hzs : z.cells.size = k) (hsz : 0 < k) (hb64 : bytes ≤ 64)
 {v : Value} {xs : List Item} (hown : Pl wr w0.heap.size e k v xs) (hb : Below w0.heap.size w0 wr) (hs : a.eval s = v)
 (u : Value) (y : Item) (hy : y.2.length + 1 = k) (hy1 : ∀ c ∈ y.2, c.oneCell' = true) (hu : Pv wr u y.1) (hx : a.eval x = .slice (some ⟨wr.heap.size, 0, none⟩) 1 1) (hN : xs.length + 1 ≤ 1000000000)
 (h : ∀ v' w', Pl w' w0.heap.size e k v' (xs ++ [y]) → Below w0.heap.size w0 w' → (∀ u P, Pv wr u P → Pv w' u P) → wpList P ops Q rest (a.put o.dst v') w') :
 wpList P ops Q (o :: rest) a (wr.alloc (.cells (u :: y.2).toArray e)) := by
 have hbytes : (xs.length + 1) * bytes ≤ 140737488355328 := Nat.le_trans (Nat.mul_le_mul hN hb64) (by decide)
 have hba : Below wr.heap.size wr (wr.alloc (.cells (u :: y.2).toArray e)) := (Below.refl _ _).alloc (Nat.le_refl _) _
 have hP := hown.below hba
 have hP2 := hP
 obtain ⟨-, -, vs, h3, h4⟩ := hP
 refine wpList_append_own _ hgd s x t ho w0.heap.size e i z k bytes ht hi hz hsize hby hzs hsz v xs.length (icells vs xs) hs h4 ⟨wr.heap.size, 0, none⟩ 1 1 (u :: y.2) hx (by simp; omega) ?_ ?_ (by unfold maxLen; omega) hbytes (Nat.le_trans hb.size (by simp)) ?_
 · intro j c hc
   rw [add_plain, Nat.zero_add, World.cell?_alloc_at _ _ _ _ rfl]
   simpa using hc
 · intro c hc
   rcases List.mem_cons.1 hc with rfl | hc
   · exact hu.one
   · exact hy1 c hc
 · intro v' w' hown' hg hnil
   refine h v' w' ?_ ((hb.alloc hb.size _).grown hg (Nat.le_trans hb.size (by simp)) fun q hq => (h4.lt q hq).1) fun u P hp => (hp.below hba).kept hg (own_apart hP2 hsz (hp.below hba))
   refine ⟨fun c hc => ?_, fun e => by simp at e, vs ++ [u], ?_, ?_⟩
   · rcases List.mem_append.1 hc with hc | hc
     · exact hown.1 c hc
     · rw [List.mem_singleton.1 hc]; exact hy
   · have e1 : Pvs w' vs xs := ⟨h3.1, fun i hi hv => (h3.2 i hi hv).kept hg (own_apart hP2 hsz (h3.2 i hi hv))⟩
     exact e1.append (Pvs.single ((hu.below hba).kept hg (own_apart hP2 hsz (hu.below hba))))
   · rw [icells_append h3.1, icells_one, List.length_append]
     exact hown'
theorem needs2_len (a : ByteArray) : (needs2 a).length ≤ 3 := by
 unfold needs2
 repeat' split
 all_goals simp
theorem one_ref (L : List Line) (i : Nat) (a b c : ByteArray) : refLineF L i [a, b, c] = if (thirdB a c).2.1 = true then (if (kidsB L i).length = 0 then [([a, b, c], 1)] else if 1 < (kidsB L i).length then [([a, b, c], 4)] else []) else [] := by
 unfold refLineF refOneF refMissF refMeantF
 rw [if_neg (show ¬ [a, b, c].length = 2 by simp), if_neg (show ¬ ([a, b, c].length = 4 ∧ _) by simp), List.append_nil, List.append_nil]
 by_cases h : (thirdB a c).2.1 = true
 · rw [if_pos (show [a, b, c].length = 3 ∧ (thirdB ([a, b, c].getD 0 noB) ([a, b, c].getD 2 noB)).2.1 = true from ⟨rfl, h⟩), if_pos h]
 · rw [if_neg (show ¬ ([a, b, c].length = 3 ∧ (thirdB ([a, b, c].getD 0 noB) ([a, b, c].getD 2 noB)).2.1 = true) from fun x => h x.2), if_neg h]
theorem two_ref (L : List Line) (i : Nat) (a b : ByteArray) : refLineF L i [a, b] = missF L i [a, b] (needs2 a) := by
 unfold refLineF refOneF refMissF refMeantF
 rw [if_pos (show [a, b].length = 2 by simp), if_neg (show ¬ ([a, b].length = 3 ∧ _) by simp), if_neg (show ¬ ([a, b].length = 4 ∧ _) by simp), List.append_nil, List.nil_append]; rfl
theorem four_ref (L : List Line) (i : Nat) (a b c d : ByteArray) : refLineF L i [a, b, c, d] = if refMeantB L i [a, b, c, d] = true then [([a, b, c, d], 7)] else [] := by
 unfold refLineF refOneF refMissF refMeantF
 rw [if_neg (show ¬ ([a, b, c, d].length = 3 ∧ _) by simp), if_neg (show ¬ [a, b, c, d].length = 2 by simp), List.nil_append, List.nil_append]
 by_cases h : refMeantB L i [a, b, c, d] = true
 · rw [if_pos ⟨rfl, h⟩, if_pos h]
 · rw [if_neg (fun x => h x.2), if_neg h]
theorem other_ref (L : List Line) (i : Nat) {P : List ByteArray} (h2 : P.length ≠ 2) (h3 : P.length ≠ 3) (h4 : P.length ≠ 4) : refLineF L i P = [] := by
 unfold refLineF refOneF refMissF refMeantF
 rw [if_neg (fun x => h3 x.1), if_neg h2, if_neg (fun x => h4 x.1)]; rfl
theorem len_three {P : List ByteArray} (h : P.length = 3) : ∃ a b c, P = [a, b, c] := by
 rcases P with _ | ⟨a, _ | ⟨b, _ | ⟨c, _ | ⟨d, l⟩⟩⟩⟩
 all_goals first | exact ⟨_, _, _, rfl⟩ | (simp at h)
theorem two_words {P : List ByteArray} (h : P.length = 2) : ∃ a b, P = [a, b] := by
 rcases P with _ | ⟨a, _ | ⟨b, _ | ⟨c, l⟩⟩⟩
 all_goals first | exact ⟨_, _, rfl⟩ | (simp at h)
set_option maxHeartbeats 16000000 in
set_option maxRecDepth 100000 in
theorem refCheck_any (A : Option Addr) (cap : Nat) (L : List Line) (w : World) (hR : Rd w 3 A L.length (lines L)) (hcap : L.length ≤ cap) (hc : cap ≤ maxLen) (hr : rightB L = true) :
 Calls Tryz.prog 33 #[.slice A L.length cap] w fun e w' => (∃ v, e = .returned v ∧ Pl w' w.heap.size 109 2 v ((checkB L).map fitem)) ∧ Below w.heap.size w w' := by
 obtain ⟨i0, hii, hz0, hz1, hz2⟩ := info_parts info_rfault
 have h200 := right_len hr
 have HPa : Hid (∀ (k : Nat), k < L.length → ∀ W, Below w.heap.size w W → Calls Tryz.prog 22 #[.slice A L.length cap, .int .i64 k] W (StrsEnd W (pa L k))) := fun k hk W hb => by
  have := refPath_lines A cap L k W (hR.below hb) hcap hc (by omega) hk
  rw [path_pa (right_parts hr).2.1 hk] at this; exact this
 have HKn := Lib.hid (fun A2 c2 P W => known_any A2 c2 P W)
 have HEn := Lib.hid (fun (k : Nat) (hk : k < L.length) W (hb : Below w.heap.size w W) => refEnd_lines A cap L k W (hR.below hb) hcap hc hk)
 have HKi : Hid (∀ (k : Nat), k < L.length → ∀ W, Below w.heap.size w W → Calls Tryz.prog 43 #[.slice A L.length cap, .int .i64 k] W (KidsEnd W (kidsB L k))) := fun k hk W hb => by
  have := refKids_lines A cap L k W (hR.below hb) hcap hc (by omega)
  rw [refKids_eq hr hk] at this; exact this
 have HHa := Lib.hid (fun (k : Nat) (hk : k < L.length) s W (hb : Below w.heap.size w W) => has_any A cap L k s W (hR.below hb) hcap hc hr hk)
 have HMe := Lib.hid (fun (k : Nat) (hk : k < L.length) A2 c2 a b c d W (hb : Below w.heap.size w W) => refMeant_any A cap L k A2 c2 a b c d W (hR.below hb) hcap hc hr (by omega))
 have HSh := Lib.hid (fun (k : Nat) (hk : k < L.length) => pa_short hr hk)
 have HA0 : Hid (0 < L.length → aliveP (pa L 0) = true) := fun h => alive_zero hr h
 have HKs : Hid (∀ k, k < L.length → aliveP (pa L k) = true → knownB (pa L k) = 0 → checkTo L (k + 1) = checkTo L k ++ refLineF L k (pa L k) ∧ (k + 1 < L.length → aliveP (pa L (k + 1)) = true)) := fun k hk ha h => by
  obtain ⟨h1, h2⟩ := ref_known hr hk ha h
  exact ⟨h1, fun h3 => alive_step hr h3 ha h2⟩
 have HSk : Hid (∀ k, k < L.length → aliveP (pa L k) = true → knownB (pa L k) ≠ 0 → checkTo L (endB L k) = checkTo L k ++ [(pa L k, knownB (pa L k))] ∧ (endB L k < L.length → aliveP (pa L (endB L k)) = true)) := fun k hk ha h =>
  ⟨ref_skip hr hk ha h, fun h2 => alive_end hr hk h2 ha⟩
 have HEb := Lib.hid (fun (k : Nat) (hk : k < L.length) => endB_le L k hk)
 have HCL := Lib.hid (check_len L)
 have HAll := Lib.hid (check_all (L := L))
 clear hR hr
 go_enter Tryz.func33, Tryz.ntmps33
 go_wp2_with fail
 go_loopw [3, 4] (fun v vi wr => ∃ k : Nat, k ≤ L.length ∧ vi = .int .i64 k ∧ Hid (k < L.length → aliveP (pa L k) = true) ∧ Hid (Pl wr w.heap.size 109 2 v ((checkTo L k).map fitem)) ∧ Hid (Below w.heap.size w wr)) (fun _ vi _ => L.length - (intOf vi).toNat)
 case atStart => exact ⟨0, Nat.zero_le _, rfl, HA0, Pl.nil _ _ _ _, Below.refl _ _⟩
 case round =>
  clear HA0
  obtain ⟨k, hk, rfl, HA, HP, HB⟩ := hrel
  by_cases hlt : k < L.length
  · have ha := HA.out hlt
    have HPk := HPa.out k hlt wr HB.out
    have HKS := Lib.hid (HKs.out k hlt ha)
    have HSS := Lib.hid (HSk.out k hlt ha)
    have hsh := HSh.out k hlt
    have HEk := Lib.hid (HEn.out k hlt)
    have HKk := Lib.hid (HKi.out k hlt)
    have HHk := Lib.hid (HHa.out k hlt)
    have HMk := Lib.hid (HMe.out k hlt)
    have HEB := HEb.out k hlt
    have hcl := HCL.out k
    generalize pa L k = P at *
    have HSP := Lib.hid hsh.2.2
    obtain ⟨hp16, hp0, -⟩ := hsh
    have HLN : Hid (((checkTo L k).map fitem).length ≤ 7200) := by show _ ≤ _; rw [List.length_map]; omega
    have HRF : Hid (refLineF L k P = refLineF L k P) := rfl
    unfold StrsEnd at HPk
    clear HA ha
    go_wp2_with fail
    refine HPk.mono ?_
    rintro e w3 ⟨A3, c3, rfl, hc31, hc32, hrd, ⟨-, hz⟩, hb3⟩
    obtain ⟨pb, rfl, hpv⟩ := path_pv hrd hz hp0 hc31 hc32
    have HPv := Lib.hid hpv
    have HB3 := Lib.hid (below_step HB.out hb3)
    have HP3 := Lib.hid (HP.out.below hb3)
    have HK3 := Lib.hid (HKn.out (some ⟨pb, 0, none⟩) c3 P w3 hrd hp0 (by omega) HSP.out)
    clear HPk HP HB hpv hrd hz hb3
    go_wp2_with fail
    refine HK3.out.mono ?_
    clear HK3
    rintro e w4 ⟨rfl, hb4⟩
    have HB4 := Lib.hid (below_step HB3.out hb4)
    have HP4 := Lib.hid (HP3.out.below hb4)
    have HPv4 := Lib.hid (HPv.out.below hb4)
    clear HB3 HP3 HPv hb4
    by_cases hkb : knownB P = 0
    · have hS := HKS.out hkb
      rw [hkb]
      have HST := Lib.hid hS.1
      have HAL := Lib.hid hS.2
      clear HKS HSS hS HEk hkb
      by_cases h3 : P.length = 3
      · obtain ⟨a, b, c, rfl⟩ := len_three h3
        have hl3 : ([a, b, c] : List ByteArray).length = 3 := rfl
        obtain ⟨B, O, e0, hz⟩ := str_same (P := [a, b, c]) HPv4.out.rd.1 (by simp)
        injection e0 with e0
        injection e0 with ea eb
        subst ea eb
        have z0 : w4.cell? ⟨pb, 0, none⟩ = some (.string a) := hz 0 (by simp)
        have z2 : w4.cell? ⟨pb, 2, none⟩ = some (.string c) := hz 2 (by simp)
        have Z0 := fun m os => cell_regrown z0 m os
        have Z2 := fun m os => cell_regrown z2 m os
        have has : a.size ≤ 100000000 := HSP.out a (by simp)
        have hcs : c.size ≤ 100000000 := HSP.out c (by simp)
        have hth : ∀ m os, Calls Tryz.prog 68 #[.string a, .string c] (grow (redrawn w4 m) os) fun e w' => e = .returned (thirdRet (thirdB a c)) ∧ ∃ p : Regrown, w' = grow (redrawn w4 p.d) p.os := fun m os => Calls.regrown_of (third_any a c _ has hcs)
        unfold thirdRet at hth
        have HRL := Lib.hid (one_ref L k a b c)
        generalize (thirdB a c).1 = kd at *
        generalize (thirdB a c).2.1 = t1 at *
        generalize (thirdB a c).2.2 = t2 at *
        generalize refLineF L k [a, b, c] = rl at *
        unfold KidsEnd at HKk
        clear HMk HHk hz z0 z2 has hcs
        rw [hl3]
        go_wp2_with fail
        refine wp_region_quiet_below (by kernel_rfl) (by kernel_rfl) ?_
        repeat (go_big_quiet_step ((go_at_call 68; exact hth _ _)))
        refine wpQuiet_nil ?_
        intro _ hw'
        obtain ⟨⟨dq, osq⟩, hw''⟩ := hw'
        subst hw''
        have HB5 := Lib.hid (below_step HB4.out (below_regrown w4 dq osq))
        have HP5 := Lib.hid (HP4.out.below (below_regrown w4 dq osq))
        have HPv5 := Lib.hid (HPv4.out.below (below_regrown w4 dq osq))
        clear hth Z0 Z2 HB4 HP4 HPv4
        generalize grow (redrawn w4 dq) osq = w5 at *
        go_wp2_with fail
        refine (HKk.out w5 HB5.out).mono ?_
        rintro e w6 ⟨A6, c6, rfl, hk61, hk62, -, hb6⟩
        have HB6 := Lib.hid (below_step HB5.out hb6)
        have HP6 := Lib.hid (HP5.out.below hb6)
        have HPv6 : Hid (Pv w6 (.slice (some ⟨pb, 0, none⟩) 3 c3) [a, b, c]) := HPv5.out.below hb6
        clear HB5 HP5 HPv5 hb6 HKk
        generalize (kidsB L k).length = n at *
        cases t1 with
        | false =>
          have hrl : rl = [] := HRL.out
          subst hrl
          have HP7 : Hid (Pl w6 w.heap.size 109 2 u3 ((checkTo L (k + 1)).map fitem)) := by show Pl _ _ _ _ _ _; rw [HST.out, List.append_nil]; exact HP6.out
          clear HRL HST HP6
          go_wp2_with fail
          go_roundw
          case rel => exact ⟨k + 1, by omega, by go_num, HAL, HP7, HB6⟩
          case measure => simp [intOf]; omega
        | true =>
          have hrl : rl = if n = 0 then [([a, b, c], 1)] else if 1 < n then [([a, b, c], 4)] else [] := HRL.out
          rcases Nat.lt_trichotomy n 1 with h1 | h1 | h1
          · obtain rfl : n = 0 := by omega
            rw [if_pos rfl] at hrl
            subst hrl
            clear HRL
            go_wp2_with (at_builtin; refine app_item rfl _ _ 63 rfl w w6 109 i0 _ 2 32 Tryz.underlying63 hii hz0 hz1 hz2 rfl (by decide) (by decide) HP6.out HB6.out rfl (.slice (some ⟨pb, 0, none⟩) 3 c3) (fitem ([a, b, c], 1)) rfl (fitem_cells _) HPv6.out rfl (by have := HLN.out; omega) ?_; intro v' w' hown' hb')
            have HP7 : Hid (Pl w' w.heap.size 109 2 v' ((checkTo L (k + 1)).map fitem)) := by show Pl _ _ _ _ _ _; rw [HST.out, List.map_append]; exact hown'
            have HB7 := Lib.hid hb'
            clear hown' hb' HP6 HB6 HST
            go_roundw
            case rel => exact ⟨k + 1, by omega, by go_num, HAL, HP7, HB7⟩
            case measure => simp [intOf]; omega
          · subst h1
            have hrl2 : rl = [] := hrl
            subst hrl2
            have HP7 : Hid (Pl w6 w.heap.size 109 2 u3 ((checkTo L (k + 1)).map fitem)) := by show Pl _ _ _ _ _ _; rw [HST.out, List.append_nil]; exact HP6.out
            clear HRL HST HP6 hrl
            go_wp2_with fail
            go_roundw
            case rel => exact ⟨k + 1, by omega, by go_num, HAL, HP7, HB6⟩
            case measure => simp [intOf]; omega
          · rw [if_neg (by omega), if_pos h1] at hrl
            subst hrl
            have n0 : ¬ ((n : Int) = 0) := by omega
            have n1 : ((n : Int) == 0) = false := by simp; omega
            have n2 : (1 : Int) < (n : Int) := by omega
            clear HRL
            go_wp2_with (at_builtin; refine app_item rfl _ _ 63 rfl w w6 109 i0 _ 2 32 Tryz.underlying63 hii hz0 hz1 hz2 rfl (by decide) (by decide) HP6.out HB6.out rfl (.slice (some ⟨pb, 0, none⟩) 3 c3) (fitem ([a, b, c], 4)) rfl (fitem_cells _) HPv6.out rfl (by have := HLN.out; omega) ?_; intro v' w' hown' hb')
            have HP7 : Hid (Pl w' w.heap.size 109 2 v' ((checkTo L (k + 1)).map fitem)) := by show Pl _ _ _ _ _ _; rw [HST.out, List.map_append]; exact hown'
            have HB7 := Lib.hid hb'
            clear hown' hb' HP6 HB6 HST
            go_roundw
            case rel => exact ⟨k + 1, by omega, by go_num, HAL, HP7, HB7⟩
            case measure => simp [intOf]; omega
      · have n3 : ¬ (P.length : Int) = 3 := by omega
        have m3 : ((P.length : Int) == 3) = false := by simp; omega
        by_cases h4 : P.length = 4
        · obtain ⟨a, b, c, d, rfl⟩ := len_four h4
          have hl4 : ([a, b, c, d] : List ByteArray).length = 4 := rfl
          have HRL := Lib.hid (four_ref L k a b c d)
          have HM := Lib.hid (HMk.out (some ⟨pb, 0, none⟩) c3 a b c d w4 HB4.out HPv4.out.rd.1 HSP.out)
          have HPv5 : Hid (Pv w4 (.slice (some ⟨pb, 0, none⟩) 4 c3) [a, b, c, d]) := HPv4.out
          generalize refLineF L k [a, b, c, d] = rl at *
          generalize refMeantB L k [a, b, c, d] = mb at *
          clear HMk HHk HKk n3 m3 HPv4
          rw [hl4]
          cases mb with
          | true =>
            have hrl : rl = [([a, b, c, d], 7)] := HRL.out
            subst hrl
            clear HRL
            go_wp2_with fail
            refine HM.out.mono ?_
            rintro e w5 ⟨rfl, hb5⟩
            have HB5 := Lib.hid (below_step HB4.out hb5)
            have HP5 := Lib.hid (HP4.out.below hb5)
            have HPv6 := Lib.hid (HPv5.out.below hb5)
            clear HM HB4 HP4 HPv5 hb5
            go_wp2_with (at_builtin; refine app_item rfl _ _ 63 rfl w w5 109 i0 _ 2 32 Tryz.underlying63 hii hz0 hz1 hz2 rfl (by decide) (by decide) HP5.out HB5.out rfl (.slice (some ⟨pb, 0, none⟩) 4 c3) (fitem ([a, b, c, d], 7)) rfl (fitem_cells _) HPv6.out rfl (by have := HLN.out; omega) ?_; intro v' w' hown' hb')
            have HP7 : Hid (Pl w' w.heap.size 109 2 v' ((checkTo L (k + 1)).map fitem)) := by show Pl _ _ _ _ _ _; rw [HST.out, List.map_append]; exact hown'
            have HB7 := Lib.hid hb'
            clear hown' hb' HP5 HB5 HST
            go_roundw
            case rel => exact ⟨k + 1, by omega, by go_num, HAL, HP7, HB7⟩
            case measure => simp [intOf]; omega
          | false =>
            have hrl : rl = [] := HRL.out
            subst hrl
            clear HRL
            go_wp2_with fail
            refine HM.out.mono ?_
            rintro e w5 ⟨rfl, hb5⟩
            have HB5 := Lib.hid (below_step HB4.out hb5)
            have HP7 : Hid (Pl w5 w.heap.size 109 2 u3 ((checkTo L (k + 1)).map fitem)) := by show Pl _ _ _ _ _ _; rw [HST.out, List.append_nil]; exact HP4.out.below hb5
            clear HM HB4 HP4 HPv5 hb5 HST
            go_wp2_with fail
            go_roundw
            case rel => exact ⟨k + 1, by omega, by go_num, HAL, HP7, HB5⟩
            case measure => simp [intOf]; omega
        · have n4 : ¬ (P.length : Int) = 4 := by omega
          have m4 : ((P.length : Int) == 4) = false := by simp; omega
          by_cases h2 : P.length = 2
          · obtain ⟨a, b, rfl⟩ := two_words h2
            have hl2 : ([a, b] : List ByteArray).length = 2 := rfl
            have HRL := Lib.hid (two_ref L k a b)
            obtain ⟨B, O, e0, hz⟩ := str_same (P := [a, b]) HPv4.out.rd.1 (by simp)
            injection e0 with e0
            injection e0 with ea eb
            subst ea eb
            have z0 : w4.cell? ⟨pb, 0, none⟩ = some (.string a) := hz 0 (by simp)
            have HNe := Lib.hid (refNeeds_any a w4)
            have hnl := needs2_len a
            have HPv5 : Hid (Pv w4 (.slice (some ⟨pb, 0, none⟩) 2 c3) [a, b]) := HPv4.out
            have HWi := Lib.hid (fun s W (hP : Pv W (.slice (some ⟨pb, 0, none⟩) 2 c3) [a, b]) => with_any pb c3 [a, b] s W hP (by simp))
            generalize needs2 a = NW at *
            unfold StrsEnd at HNe
            clear HMk HKk n3 m3 n4 m4 HPv4 hz
            rw [hl2]
            go_wp2_with fail
            refine HNe.out.mono ?_
            rintro e w5 ⟨An, cn, rfl, hn1, hn2, hrn, ⟨-, hzn⟩, hb5⟩
            have HB5 := Lib.hid (below_step HB4.out hb5)
            have HP5 := Lib.hid (HP4.out.below hb5)
            have HPv6 := Lib.hid (HPv5.out.below hb5)
            have HNV : Hid (0 < NW.length → ∃ nb, An = some ⟨nb, 0, none⟩ ∧ Pv w5 (.slice (some ⟨nb, 0, none⟩) NW.length cn) NW) := fun h => path_pv hrn hzn h hn1 hn2
            have HRL2 : Hid (refLineF L k [a, b] = missF L k [a, b] NW) := HRL.out
            clear HNe HB4 HP4 HPv5 hb5 z0 hrn hzn HRL
            go_wp2_with fail
            go_loopw [3, 12] (fun v vj wr => ∃ j : Nat, j ≤ NW.length ∧ vj = .int .i64 j ∧ Hid (Pl wr w.heap.size 109 2 v ((checkTo L k ++ missF L k [a, b] (NW.take j)).map fitem)) ∧ Hid (Below w.heap.size w wr) ∧ Hid (Pv wr (.slice (some ⟨pb, 0, none⟩) 2 c3) [a, b]) ∧ Hid (0 < NW.length → ∃ nb, An = some ⟨nb, 0, none⟩ ∧ Pv wr (.slice (some ⟨nb, 0, none⟩) NW.length cn) NW)) (fun _ vj _ => NW.length - (intOf vj).toNat)
            case atStart => exact ⟨0, Nat.zero_le _, rfl, by show Pl _ _ _ _ _ _; simpa [missF] using HP5.out, HB5, HPv6, HNV⟩
            case round =>
             clear HP5 HB5 HPv6 HNV
             obtain ⟨j, hj, rfl, HPj, HBj, HPvj, HNj⟩ := hrel
             by_cases hjl : j < NW.length
             · obtain ⟨nb, rfl, hnv⟩ := HNj.out (by omega)
               obtain ⟨B, O, e0, -, -, x0⟩ := hnv.rd.1.strAt hjl
               injection e0 with e0
               injection e0 with ea eb
               subst ea eb
               rw [Nat.zero_add] at x0
               have hst : Hid (missF L k [a, b] (NW.take (j + 1)) = missF L k [a, b] (NW.take j) ++ (if kidHas L k NW[j] then [] else [([a, b] ++ [NW[j]], 1)])) := by
                show _ = _
                rw [List.take_succ_eq_append_getElem hjl, missF_snoc]
               have hml : (missF L k [a, b] (NW.take j)).length ≤ j := by
                have := missF_len L k [a, b] (NW.take j)
                rw [List.length_take] at this; omega
               have HHj := Lib.hid (fun W hb => HHk.out NW[j] W hb)
               have HWj := Lib.hid (fun W hP => HWi.out NW[j] W hP)
               have HML : Hid (((checkTo L k ++ missF L k [a, b] (NW.take j)).map fitem).length + 1 ≤ 1000000000) := by
                have := HLN.out
                show _ ≤ _
                rw [List.length_map] at this ⊢
                rw [List.length_append]; omega
               generalize missF L k [a, b] (NW.take j) = M at *
               generalize NW[j] = s at *
               generalize kidHas L k s = kh at *
               have HX0 := Lib.hid x0
               have HNV := Lib.hid hnv
               clear HNj hnv hml
               go_wp2_with fail
               refine (HHj.out wr HBj.out).mono ?_
               rintro e w6 ⟨rfl, hb6⟩
               have HB6 := Lib.hid (below_step HBj.out hb6)
               have HP6 := Lib.hid (HPj.out.below hb6)
               have HPv7 := Lib.hid (HPvj.out.below hb6)
               have HNV6 := Lib.hid (HNV.out.below hb6)
               have x6 := (hb6.cell (p := ⟨nb, j, none⟩) (Lib.lt_of_cell HX0.out)).trans HX0.out
               clear HHj HBj HPj HPvj HNV hb6 x0 HX0
               cases kh with
               | true =>
                 have HSM : Hid (missF L k [a, b] (NW.take (j + 1)) = M) := by show _ = _; rw [hst.out]; simp
                 clear hst HWj x6
                 go_wp2_with fail
                 go_roundw
                 case rel => exact ⟨j + 1, by omega, by go_num, by show Pl _ _ _ _ _ _; rw [HSM.out]; exact HP6.out, HB6, HPv7, fun _ => ⟨nb, rfl, HNV6.out⟩⟩
                 case measure => simp [intOf]; omega
               | false =>
                 have HSM : Hid (missF L k [a, b] (NW.take (j + 1)) = M ++ [([a, b] ++ [s], 1)]) := by show _ = _; rw [hst.out]; simp
                 clear hst
                 go_wp2_with fail
                 refine (HWj.out w6 HPv7.out).mono ?_
                 rintro e w7 ⟨⟨v7, rfl, hv7⟩, hb7⟩
                 have HB7 := Lib.hid (below_step HB6.out hb7)
                 have HP7 := Lib.hid (HP6.out.below hb7)
                 have HPv8 := Lib.hid (HPv7.out.below hb7)
                 have HNV7 := Lib.hid (HNV6.out.below hb7)
                 obtain ⟨b7, c7, rfl, -, -, -, -, hv7, -⟩ := hv7.slice
                 have HV7 : Hid (Pv w7 (.slice (some ⟨b7, 0, none⟩) 3 c7) ([a, b] ++ [s])) := hv7
                 have hl7 : ([a, b] ++ [s] : List ByteArray).length = 3 := rfl
                 rw [hl7]
                 clear HWj HB6 HP6 HPv7 HNV6 hv7 hb7 x6 hl7
                 go_wp2_with (at_builtin; refine app_keep rfl _ _ 63 rfl w w7 109 i0 _ 2 32 Tryz.underlying63 hii hz0 hz1 hz2 rfl (by decide) (by decide) HP7.out HB7.out rfl (.slice (some ⟨b7, 0, none⟩) 3 c7) (fitem ([a, b] ++ [s], 1)) rfl (fitem_cells _) HV7.out rfl HML.out ?_; intro v' w' hown' hb' hkp')
                 have HP8 : Hid (Pl w' w.heap.size 109 2 v' ((checkTo L k ++ missF L k [a, b] (NW.take (j + 1))).map fitem)) := by
                  show Pl _ _ _ _ _ _
                  rw [HSM.out, ← List.append_assoc, List.map_append]; exact hown'
                 have HB8 := Lib.hid hb'
                 have HPv9 := Lib.hid (hkp' _ _ HPv8.out)
                 have HNV8 := Lib.hid (hkp' _ _ HNV7.out)
                 clear hown' hb' hkp' HP7 HB7 HPv8 HNV7 HV7 HSM
                 go_roundw
                 case rel => exact ⟨j + 1, by omega, by go_num, HP8, HB8, HPv9, fun _ => ⟨nb, rfl, HNV8.out⟩⟩
                 case measure => simp [intOf]; omega
             · obtain rfl : j = NW.length := by omega
               have hPj := HPj.out
               rw [List.take_length, ← HRL2.out, ← HST.out] at hPj
               have HPF := Lib.hid hPj
               clear HPj hPj HNj HPvj HST HRL2
               go_wp2_with fail
               go_roundw
               case rel => exact ⟨k + 1, by omega, by go_num, HAL, HPF, HBj⟩
               case measure => simp [intOf]; omega
          · have n2 : ¬ (P.length : Int) = 2 := by omega
            have m2 : ((P.length : Int) == 2) = false := by simp; omega
            have hrl := other_ref L k h2 h3 h4
            have HP7 : Hid (Pl w4 w.heap.size 109 2 u3 ((checkTo L (k + 1)).map fitem)) := by show Pl _ _ _ _ _ _; rw [HST.out, hrl, List.append_nil]; exact HP4.out
            clear HST HP4 hrl h2 h3 h4 HMk HHk HKk
            go_wp2_with fail
            go_roundw
            case rel => exact ⟨k + 1, by omega, by go_num, HAL, HP7, HB4⟩
            case measure => simp [intOf]; omega
    · have hS := HSS.out hkb
      have HST := Lib.hid hS.1
      have HAL := Lib.hid hS.2
      have hkb2 : (knownB P == 0) = false := by simpa using hkb
      generalize knownB P = u at *
      clear HKS HSS hS HMk HHk HKk
      go_wp2_with (at_builtin; refine app_item rfl _ _ 63 rfl w w4 109 i0 _ 2 32 Tryz.underlying63 hii hz0 hz1 hz2 rfl (by decide) (by decide) HP4.out HB4.out rfl (.slice (some ⟨pb, 0, none⟩) P.length c3) (fitem (P, u)) rfl (fitem_cells _) HPv4.out rfl (by have := HLN.out; omega) ?_; intro v' w' hown' hb')
      have HB6 := Lib.hid hb'
      have HP6 := Lib.hid hown'
      clear hown' hb' HP4 HB4 HPv4
      refine (HEk.out _ HB6.out).mono ?_
      rintro e w7 ⟨rfl, hb7⟩
      have HB7 := Lib.hid (below_step HB6.out hb7)
      have HP7 : Hid (Pl w7 w.heap.size 109 2 v' ((checkTo L (endB L k)).map fitem)) := by
       show Pl _ _ _ _ _ _
       rw [HST.out, List.map_append]; exact HP6.out.below hb7
      generalize endB L k = q at *
      clear HP6 HB6 hb7 HST HEk
      go_wp2_with fail
      go_roundw
      case rel => exact ⟨q, by omega, by go_num, HAL, HP7, HB7⟩
      case measure => simp [intOf]; omega
  · obtain rfl : k = L.length := by omega
    have HPF := HP.out
    rw [HAll.out] at HPF
    have HPG := Lib.hid HPF
    clear HP HPF HA
    go_wp2_with fail
    go_ret
    exact ⟨⟨_, rfl, HPG.out⟩, HB.out⟩
end Go.Proofs.YtjdknhalcpkeaaaGreatDoor
