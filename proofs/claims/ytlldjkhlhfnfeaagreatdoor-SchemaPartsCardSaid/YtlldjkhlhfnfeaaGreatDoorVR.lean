/- A walk: SchemaParts. -/
import Derived.Maps.AppendAt
import Derived.Test.YtlldjkhlhfnfeaaGreatDoorGn
import Derived.Test.YtlldjkhlhfnfeaaGreatDoorGt
namespace Sch
open Go Go.Lib Adr Mtr Tre
theorem take_filter {F : List Fault} {k : Nat} (h : k < F.length) : (F.take (k + 1)).filter nf = (F.take k).filter nf ++ (if nf F[k] = true then [F[k]] else []) := by
  rw [List.take_succ_eq_append_getElem h, List.filter_append]
  congr 1
  cases hn : nf F[k] with
  | true => rw [List.filter_cons_of_pos hn]; rfl
  | false => rw [List.filter_cons_of_neg (by simp [hn])]; rfl
end Sch
namespace Go.Proofs.YtlldjkhlhfnfeaaGreatDoor
open Go Go.RowKit Go.Sort Sch Adr Mtr Tre

theorem flt_r {w : World} {base : Nat} {T : TypeId} {v : Value} {F : List Fault} (h : Pl w base T 2 v (F.map fitem)) : ∃ A c, v = .slice A F.length c ∧ F.length ≤ c ∧ c ≤ maxLen ∧ Pd w 2 A (F.map fitem) ∧ (A = none → c = 0) := by
  obtain ⟨A, c, e, h1, h2, h3, h4⟩ := h.read
  rw [List.length_map] at e h1
  exact ⟨A, c, e, h1, h2, h3, h4⟩
theorem rd_drop_last {w : World} {A : Option Addr} {P : List ByteArray} (h : Rd w 1 A P.length (sv P)) : Rd w 1 A P.dropLast.length (sv P.dropLast) := by
  refine ⟨by rw [sv_len]; simp, fun h0 => ?_⟩
  rw [List.length_dropLast] at h0
  obtain ⟨ad, e, hb, hx⟩ := h.2 (by omega)
  refine ⟨ad, e, hb, fun j u hu => hx j u ?_⟩
  have hj : j < P.dropLast.length := by have := (List.getElem?_eq_some_iff.1 hu).1; rwa [sv_len] at this
  rw [sv_get hj] at hu
  rw [List.length_dropLast] at hj
  rw [sv_get (by omega), ← hu, List.getElem_dropLast]
theorem pl_lt {w : World} {base : Nat} {T : TypeId} {k : Nat} {v : Value} {xs : List Item} (h : Pl w base T k v xs) : ∀ g, v.ownBlock = some g → base ≤ g ∧ g < w.heap.size := by
  obtain ⟨-, -, vs, -, h4⟩ := h
  exact h4.lt
/-- An append of one element, beside another list that stays. -/
theorem app_itemA {P : Program} {ops : Array Oper} {rest : List Oper} {o : Oper} {a : Act} {Q : Exit → Act → World → Prop} (hgd : o.guard = none) (s x : Operand) (t : TypeId)
    (ho : o.op = .call { callee := .builtin .append, args := #[s, x], argTypes := #[t, t] })
    (w0 wr : World) (e : TypeId) (i : TypeInfo) (z : Value) (k bytes : Nat) (ht : P.underlying t = some (.slice e)) (hi : P.info? e = some i) (hz : i.zero = some z)
    (hsize : i.size = k) (hby : i.bytes = bytes) (hzs : z.cells.size = k) (hsz : 0 < k) (hb64 : bytes ≤ 64)
    {v : Value} {xs : List Item} (hown : Pl wr w0.heap.size e k v xs) (hb : Below w0.heap.size w0 wr) (hs : a.eval s = v)
    (u : Value) (y : Item) (hy : y.2.length + 1 = k) (hy1 : ∀ c ∈ y.2, c.oneCell' = true) (hu : Pv wr u y.1) (hx : a.eval x = .slice (some ⟨wr.heap.size, 0, none⟩) 1 1) (hN : xs.length + 1 ≤ 1000000000)
    (Am : Option Addr) (ms : List Item) (hml : 0 < ms.length) (hM : Pd wr k Am ms) (hne : ∀ ad, Am = some ad → v.ownBlock ≠ some ad.block)
    (h : ∀ v' w', Pl w' w0.heap.size e k v' (xs ++ [y]) → Below w0.heap.size w0 w' → Pd w' k Am ms → (∀ ad, Am = some ad → v'.ownBlock ≠ some ad.block) → wpList P ops Q rest (a.put o.dst v') w') :
    wpList P ops Q (o :: rest) a (wr.alloc (.cells (u :: y.2).toArray e)) := by
  have hbytes : (xs.length + 1) * bytes ≤ 140737488355328 := Nat.le_trans (Nat.mul_le_mul hN hb64) (by decide)
  have hba : Below wr.heap.size wr (wr.alloc (.cells (u :: y.2).toArray e)) := (Below.refl _ _).alloc (Nat.le_refl _) _
  have hP := hown.below hba
  obtain ⟨-, -, vs, h3, h4⟩ := hP
  refine wpList_append_own_at _ hgd s x t ho w0.heap.size e i z k bytes ht hi hz hsize hby hzs hsz v xs.length (icells vs xs) hs h4 ⟨wr.heap.size, 0, none⟩ 1 1 (u :: y.2) hx (by simp; omega) ?_ ?_ (by unfold maxLen; omega) hbytes (Nat.le_trans hb.size (by simp)) ?_
  · intro j c hc
    rw [add_plain, Nat.zero_add, World.cell?_alloc_at _ _ _ _ rfl]
    simpa using hc
  · intro c hc
    rcases List.mem_cons.1 hc with rfl | hc
    · exact hu.one
    · exact hy1 c hc
  · intro v' w' hown' hg hnil hat
    have hP := hown.below hba
    have hM2 := hM.below hba
    obtain ⟨hm1, us, hm2, hm3⟩ := hM2
    obtain ⟨ad, e0, hbk, hx0⟩ := hm3.2 hml
    obtain ⟨ad', e0', hbk', -⟩ := hM.2.choose_spec.2.2 hml
    rw [e0] at e0'
    injection e0' with e0'
    subst e0'
    refine h v' w' ?_ ((hb.alloc hb.size _).grown hg (Nat.le_trans hb.size (by simp)) fun q hq => (h4.lt q hq).1) ?_ ?_
    · refine ⟨fun c hc => ?_, fun e => by simp at e, vs ++ [u], ?_, ?_⟩
      · rcases List.mem_append.1 hc with hc | hc
        · exact hown.1 c hc
        · rw [List.mem_singleton.1 hc]; exact hy
      · have e1 : Pvs w' vs xs := ⟨h3.1, fun i hi hv => (h3.2 i hi hv).kept hg (own_apart hP hsz (h3.2 i hi hv))⟩
        exact e1.append (Pvs.single ((hu.below hba).kept hg (own_apart hP hsz (hu.below hba))))
      · rw [icells_append h3.1, icells_one, List.length_append]
        exact hown'
    · refine ⟨hm1, us, ⟨hm2.1, fun i hi hv => (hm2.2 i hi hv).kept hg (own_apart hP hsz (hm2.2 i hi hv))⟩, hm3.1, fun _ => ⟨ad, e0, Nat.lt_of_lt_of_le hbk hg.size, fun j c hc => ?_⟩⟩
      exact hg.cell (hx0 j c hc) (by rw [add_block]; exact fun e => hne ad e0 e.symm)
    · intro ad2 e2
      rw [e0] at e2
      injection e2 with e2
      subst e2
      rcases hat with hat | hat
      · rw [hat]; exact hne ad e0
      · rw [hat]
        intro e3
        injection e3 with e3
        simp at e3
        omega
set_option maxHeartbeats 8000000 in
set_option maxRecDepth 100000 in
theorem schemaParts_any (A : Option Addr) (cap : Nat) (L : List Line) (w : World) (hE : Env w) (hR : Rd w 3 A L.length (lines L)) (hcap : L.length ≤ cap) (hc : cap ≤ maxLen) :
    Calls Tryz.prog 4 #[.slice A L.length cap] w fun e w' => e = .returned (.bool true) ∧ Below w.heap.size w w' := by
  obtain ⟨i0, hii, hz0, hz1, hz2⟩ := info_parts info_fault
  have HA := Lib.hid (fun W (hb : Below w.heap.size w W) => awake13_any W (hE.below hb))
  have HFew := Lib.hid (few13_any A cap L w hR hcap hc)
  have HRi := Lib.hid (fun W (hb : Below w.heap.size w W) => refRight_lines A cap L W (hR.below hb) hcap hc)
  rw [right_ref] at HRi
  cases hf : fewB L with
  | false =>
    rw [hf] at HFew
    clear hf HRi hR
    go_enter Tryz.func4, Tryz.ntmps4
    go_wp2_with fail
    refine HFew.out.mono ?_
    rintro e w1 ⟨rfl, hb1⟩
    go_wp2_with fail
    refine (HA.out _ hb1).mono ?_
    rintro e w2 ⟨rfl, hb2⟩
    go_wp2_with fail
    go_ret
    exact ⟨rfl, below_step hb1 hb2⟩
  | true =>
    rw [hf] at HFew
    cases hr : rightB L with
    | false =>
      rw [hr] at HRi
      clear hf hr hR
      go_enter Tryz.func4, Tryz.ntmps4
      go_wp2_with fail
      refine HFew.out.mono ?_
      rintro e w1 ⟨rfl, hb1⟩
      have HB1 := Lib.hid hb1
      go_wp2_with fail
      refine (HRi.out w1 HB1.out).mono ?_
      rintro e w2 ⟨rfl, hb2⟩
      have HB2 := Lib.hid (below_step HB1.out hb2)
      go_wp2_with fail
      refine (HA.out _ HB2.out).mono ?_
      rintro e w3 ⟨rfl, hb3⟩
      go_wp2_with fail
      go_ret
      exact ⟨rfl, below_step HB2.out hb3⟩
    | true =>
      rw [hr] at HRi
      have hln := few_len hf
      have HCk := Lib.hid (fun W (hb : Below w.heap.size w W) => check_yes A cap L W (hE.below hb) (hR.below hb) hcap hc hr)
      have HFd := Lib.hid (fun Ap cp P W (hb : Below w.heap.size w W) (hP : Rd W 1 Ap P.length (sv P)) (h1 : P.length ≤ cp) (h2 : cp ≤ maxLen) => find_lines A cap L Ap cp P W (hR.below hb) hcap hc hr hP h1 h2)
      have HKi := Lib.hid (fun W (hb : Below w.heap.size w W) => kids_top A cap L W (hR.below hb) hcap hc hr)
      have HSub := Lib.hid (fun (i : Nat) (hi : i < L.length) W (hb : Below w.heap.size w W) => sub_lines A cap L i W (hR.below hb) hcap hc hr hi)
      have HEw := Lib.hid hE
      have HFF : Hid (∀ k, (h : k < (checkB L).length) → (findB L (checkB L)[k].1).isSome = true ∨ ((findB L (checkB L)[k].1).isSome = false ∧ (checkB L)[k].2 = 1 ∧ (findB L (checkB L)[k].1.dropLast).isSome = true)) := fun k h => fault_found hr (List.getElem_mem h)
      have HFL : Hid (∀ k, (h : k < (checkB L).length) → 0 < (checkB L)[k].1.length ∧ (checkB L)[k].1.length ≤ 1000) := fun k h => fault_len hr (List.getElem_mem h)
      have hfw := check_few (right_len hr)
      have HTK : Hid (∀ k, (h : k < (checkB L).length) → ((checkB L).take (k + 1)).filter nf = ((checkB L).take k).filter nf ++ (if nf (checkB L)[k] = true then [(checkB L)[k]] else [])) := fun k h => take_filter h
      have HSU : Hid (∀ j, (h : j < (kidsTop L).length) → (kidsTop L)[j] < L.length ∧ rightB (subL L (kidsTop L)[j]) = true ∧ (checkB (subL L (kidsTop L)[j])).length ≤ 10000) := fun j h => by
        obtain ⟨h1, -, h2⟩ := mem_kidsTo.1 (List.getElem_mem h)
        have h3 := (sub_right hr h1 h2).1
        exact ⟨h1, h3, check_few (right_len h3)⟩
      have HPSu : Hid (∀ j, (h : j < (kidsTop L).length) → partsTo L (j + 1) = partsTo L j ++ (checkB (subL L (kidsTop L)[j])).filter nf) := fun j h => parts_succ h
      have hkn : (kidsTop L).length ≤ 200 := by
        have h1 := kidsTo_len L 0 0 L.length
        have h2 := right_len hr
        unfold kidsTop; omega
      have HPFe := Lib.hid (fun j => parts_few hr j)
      have HPT := Lib.hid (parts_to hr)
      have HWl : Hid (((checkB L).filter nf).length ≤ 100000) := by
        have := List.length_filter_le nf (checkB L)
        show _ ≤ _
        omega
      have HWs : Hid (∀ f ∈ (checkB L).filter nf, f.1.length ≤ 1000) := fun f hf => check_short hr f (List.mem_filter.1 hf).1
      clear hf hr hR hE
      generalize checkB L = F at *
      go_enter Tryz.func4, Tryz.ntmps4
      go_wp2_with fail
      refine HFew.out.mono ?_
      rintro e w1 ⟨rfl, hb1⟩
      have HB1 := Lib.hid hb1
      clear hb1 HFew
      go_wp2_with fail
      refine (HRi.out w1 HB1.out).mono ?_
      rintro e w2 ⟨rfl, hb2⟩
      have HB2 := Lib.hid (below_step HB1.out hb2)
      clear hb2 HRi HB1

      go_wp2_with fail
      refine (HCk.out _ HB2.out).mono ?_
      rintro e w3 ⟨⟨va, rfl, hva⟩, hb3⟩
      have HB3 := Lib.hid (below_step HB2.out hb3)
      obtain ⟨Aa, ca, rfl, ha1, ha2, hpa, -⟩ := flt_r hva
      have HPa := Lib.hid hpa
      clear HCk hb3 hva hpa HB2
      go_wp2_with fail

      go_loopw [5, 36] (fun v5 vi wr => ∃ k : Nat, k ≤ F.length ∧ vi = .int .i64 k ∧ Hid (Pl wr w3.heap.size 34 2 v5 (((F.take k).filter nf).map fitem)) ∧ Hid (Below w3.heap.size w3 wr)) (fun _ vi _ => F.length - (intOf vi).toNat)
      case atStart => exact ⟨0, Nat.zero_le _, rfl, by show Pl _ _ _ _ _ _; exact Pl.nil _ _ _ _, Below.refl _ _⟩
      case round =>
        obtain ⟨k, hk, rfl, HP, HB⟩ := hrel
        by_cases hlt : k < F.length
        · obtain ⟨B, O, b, cc, rfl, hab, hadd, hpv, x0, x1⟩ := (HPa.out.below HB.out).fault hlt
          have HST := Lib.hid (HTK.out k hlt)
          have hcase := HFF.out k hlt
          have hfl := HFL.out k hlt
          generalize F[k] = m at *
          obtain ⟨P, u⟩ := m
          obtain ⟨hrd, hcc1, hcc2, hp0, hbb⟩ := hpv.rd
          have hcc1 : P.length ≤ cc := hcc1
          have hp0 : 0 < P.length := hp0
          obtain ⟨p, hp⟩ : ∃ p, P.length = p + 1 := ⟨P.length - 1, by omega⟩
          have hsub : (P.length : Int) - 1 = (p : Int) := by omega
          have hpc : (p : Int) ≤ (cc : Int) := by omega
          have hp0i : (0 : Int) < (P.length : Int) := by omega
          have hpz : (0 : Int) ≤ (p : Int) := by omega
          obtain ⟨q, hq⟩ : ∃ q, wr.heap.size = q := ⟨_, rfl⟩
          obtain ⟨wo, hwo⟩ : ∃ wo, wr.alloc (.cells #[.slice (some ⟨b, 0, none⟩) P.length cc, .int .i64 u] 34) = wo := ⟨_, rfl⟩
          have hbo : Below wr.heap.size wr wo := by rw [← hwo]; exact (Below.refl _ _).alloc (Nat.le_refl _) _
          have y0 : wo.cell? ⟨q, 0, none⟩ = some (.slice (some ⟨b, 0, none⟩) P.length cc) := by rw [← hwo, World.cell?_alloc_at _ _ _ _ hq.symm]; rfl
          have y1 : wo.cell? ⟨q, 1, none⟩ = some (.int .i64 u) := by rw [← hwo, World.cell?_alloc_at _ _ _ _ hq.symm]; rfl
          have HBo := Lib.hid (below_step HB.out hbo)
          have HPo := Lib.hid (HP.out.below hbo)
          have HPvo := Lib.hid (hpv.below hbo)
          have HF1 := Lib.hid (HFd.out _ _ P wo (below_step HB3.out HBo.out) HPvo.out.rd.1 hcc1 hcc2)
          have HF2f : Hid (∀ W, Below wo.heap.size wo W → Calls Tryz.prog 22 #[.slice A L.length cap, .slice (some ⟨b, 0, none⟩) p cc] W fun e w' => e = .returned (.tuple #[.int .i64 (foundI (findB L P.dropLast)), .bool (findB L P.dropLast).isSome]) ∧ Below W.heap.size W w') := fun W hb => by
            have hpp : P.length = p + 1 := hp
            have hl : P.dropLast.length = p := by rw [List.length_dropLast, hpp]; rfl
            have := HFd.out (some ⟨b, 0, none⟩) cc P.dropLast W (below_step HB3.out (below_step HBo.out hb)) (rd_drop_last (HPvo.out.below hb).rd.1) (by rw [hl]; have : P.length ≤ cc := hcc1; omega) hcc2
            rw [hl] at this
            exact this
          have hcase : (findB L P).isSome = true ∨ ((findB L P).isSome = false ∧ u = 1 ∧ (findB L P.dropLast).isSome = true) := hcase
          clear HP HB hbo hpv hrd hp hp0
          generalize foundI (findB L P) = i1 at *
          generalize (findB L P).isSome = o1 at *
          generalize foundI (findB L P.dropLast) = i2 at *
          go_wp2_with fail
          refine HF1.out.mono ?_
          rintro e w4 ⟨rfl, hb4⟩
          have y04 := (hb4.cell (p := ⟨q, 0, none⟩) (Lib.lt_of_cell y0)).trans y0
          have y14 := (hb4.cell (p := ⟨q, 1, none⟩) (Lib.lt_of_cell y1)).trans y1
          have HF2 := Lib.hid (HF2f.out w4 hb4)
          have HB4 := Lib.hid (below_step HBo.out hb4)
          have HP4 := Lib.hid (HPo.out.below hb4)
          have HPv4 := Lib.hid (HPvo.out.below hb4)
          clear HF1 HF2f HBo HPo HPvo hb4 y0 y1 hwo hq
          rcases hcase with h1 | ⟨h1, hu1, h2⟩
          · subst h1
            generalize (findB L P.dropLast).isSome = o2 at *
            go_wp2_with fail
            refine HF2.out.mono ?_
            rintro e w5 ⟨rfl, hb5⟩
            have y05 := (hb5.cell (p := ⟨q, 0, none⟩) (Lib.lt_of_cell y04)).trans y04
            have y15 := (hb5.cell (p := ⟨q, 1, none⟩) (Lib.lt_of_cell y14)).trans y14
            have HB5 := Lib.hid (below_step HB4.out hb5)
            have HP5 := Lib.hid (HP4.out.below hb5)
            have HPv := Lib.hid (HPv4.out.below hb5)
            clear HF2 HB4 HP4 HPv4 hb5 y04 y14
            by_cases h7 : u = 7
            · have HS2 : Hid ((F.take (k + 1)).filter nf = (F.take k).filter nf) := by
                show _ = _
                rw [HST.out, show nf (P, u) = false by unfold nf; simp [h7], if_neg (by simp), List.append_nil]
              have HP6 : Hid (Pl w5 w3.heap.size 34 2 u5 (((F.take (k + 1)).filter nf).map fitem)) := by
                show Pl _ _ _ _ _ _
                rw [HS2.out]; exact HP5.out
              subst h7
              clear HS2 HST HP5 HPv
              go_wp2_with fail
              go_roundw
              case rel => exact ⟨k + 1, by omega, by go_num, HP6, HB5⟩
              case measure => simp [intOf]; omega
            · have HS2 : Hid ((F.take (k + 1)).filter nf = (F.take k).filter nf ++ [(P, u)]) := by
                show _ = _
                rw [HST.out, show nf (P, u) = true by unfold nf; simpa using h7, if_pos rfl]
              have h7b : (u == 7) = false := by rw [beq_eq_false_iff_ne]; exact h7
              have HTL : Hid ((((F.take k).filter nf).map fitem).length + 1 ≤ 1000000000) := by
                show _ ≤ _
                have h1 := List.length_filter_le nf (F.take k)
                rw [List.length_take] at h1
                rw [List.length_map]; omega
              clear HST
              go_wp2_with (at_builtin; refine app_item rfl _ _ 29 rfl w3 w5 34 i0 _ 2 32 Tryz.underlying29 hii hz0 hz1 hz2 rfl (by decide) (by decide) HP5.out HB5.out rfl (.slice (some ⟨b, 0, none⟩) P.length cc) (P, [.int .i64 u]) rfl (fitem_cells (P, u)) HPv.out rfl HTL.out ?_; intro v' w' hown' hb')
              have HP6 : Hid (Pl w' w3.heap.size 34 2 v' (((F.take (k + 1)).filter nf).map fitem)) := by
                show Pl _ _ _ _ _ _
                rw [HS2.out, List.map_append]; exact hown'
              have HB6 := Lib.hid hb'
              clear hown' hb' HP5 HB5 HPv HS2 y05 y15 HTL
              go_roundw
              case rel => exact ⟨k + 1, by omega, by go_num, HP6, HB6⟩
              case measure => simp [intOf]; omega
          · subst h1 hu1
            rw [h2] at HF2
            clear h2
            go_wp2_with fail
            refine HF2.out.mono ?_
            rintro e w5 ⟨rfl, hb5⟩
            have y05 := (hb5.cell (p := ⟨q, 0, none⟩) (Lib.lt_of_cell y04)).trans y04
            have y15 := (hb5.cell (p := ⟨q, 1, none⟩) (Lib.lt_of_cell y14)).trans y14
            have HB5 := Lib.hid (below_step HB4.out hb5)
            have HP5 := Lib.hid (HP4.out.below hb5)
            have HPv := Lib.hid (HPv4.out.below hb5)
            clear HF2 HB4 HP4 HPv4 hb5 y04 y14
            have HS2 : Hid ((F.take (k + 1)).filter nf = (F.take k).filter nf ++ [(P, 1)]) := by
              show _ = _
              rw [HST.out, show nf (P, 1) = true from rfl, if_pos rfl]
            have HTL : Hid ((((F.take k).filter nf).map fitem).length + 1 ≤ 1000000000) := by
              show _ ≤ _
              have h1 := List.length_filter_le nf (F.take k)
              rw [List.length_take] at h1
              rw [List.length_map]; omega
            clear HST
            go_wp2_with (at_builtin; refine app_item rfl _ _ 29 rfl w3 w5 34 i0 _ 2 32 Tryz.underlying29 hii hz0 hz1 hz2 rfl (by decide) (by decide) HP5.out HB5.out rfl (.slice (some ⟨b, 0, none⟩) P.length cc) (P, [(.int .i64 (1 : Int) : Value)]) rfl (fitem_cells (P, 1)) HPv.out rfl HTL.out ?_; intro v' w' hown' hb')
            have HP6 : Hid (Pl w' w3.heap.size 34 2 v' (((F.take (k + 1)).filter nf).map fitem)) := by
              show Pl _ _ _ _ _ _
              rw [HS2.out, List.map_append]; exact hown'
            have HB6 := Lib.hid hb'
            clear hown' hb' HP5 HB5 HPv HS2 y05 y15 HTL
            go_roundw
            case rel => exact ⟨k + 1, by omega, by go_num, HP6, HB6⟩
            case measure => simp [intOf]; omega
        · obtain rfl : k = F.length := by omega
          have hPW := HP.out
          rw [List.take_length] at hPW
          have HPW := Lib.hid hPW
          have HBw := Lib.hid (below_step HB3.out HB.out)
          clear HP HB hPW HB3 HPa HTK HFF HFL HFd
          generalize F.filter nf = WF at *
          go_wp2_with fail
          refine (HKi.out wr HBw.out).mono ?_
          rintro e w4 ⟨Ak, ck, rfl, hk1, hk2, hrk, hb4⟩
          have HB4 := Lib.hid (below_step HBw.out hb4)
          have HRk := Lib.hid hrk
          have HPW4 := Lib.hid (HPW.out.below hb4)
          clear HKi HBw HPW hrk hb4
          generalize kidsTop L = K at *
          go_wp2_with fail
          go_loopw [6, 85] (fun v6 vi wr => ∃ j : Nat, j ≤ K.length ∧ vi = .int .i64 j ∧ Hid (Pl wr w4.heap.size 34 2 v6 ((partsTo L j).map fitem)) ∧ Hid (Below w4.heap.size w4 wr)) (fun _ vi _ => K.length - (intOf vi).toNat)
          case atStart => exact ⟨0, Nat.zero_le _, rfl, by show Pl _ _ _ _ _ _; exact Pl.nil _ _ _ _, Below.refl _ _⟩
          case round =>
            obtain ⟨j, hj, rfl, HP, HB⟩ := hrel
            by_cases hlt : j < K.length
            · obtain ⟨Bk, Ok, rfl, hab, hadd, z0⟩ := (HRk.out.below HB.out).intAt hlt
              have hsu := HSU.out j hlt
              have HPS := Lib.hid (HPSu.out j hlt)
              have HPF := Lib.hid (HPFe.out j)
              generalize K[j] = i at *
              obtain ⟨hil, hri, hcf⟩ := hsu
              have HBw := Lib.hid (below_step HB4.out HB.out)
              have HSi := Lib.hid (HSub.out i hil wr HBw.out)
              have HCf := Lib.hid hcf
              have HCi := Lib.hid (fun A2 c2 W (hb : Below w.heap.size w W) (hR2 : Rd W 3 A2 (subL L i).length (lines (subL L i))) (h1 : (subL L i).length ≤ c2) (h2 : c2 ≤ maxLen) => check_yes A2 c2 (subL L i) W (HEw.out.below hb) hR2 h1 h2 hri)
              unfold SubEnd at HSi
              clear hcf hri
              generalize subL L i = Z at *
              go_wp2_with fail
              refine HSi.out.mono ?_
              rintro e w5 ⟨⟨v, rfl, hown⟩, hb5⟩
              obtain ⟨Az, cz, rfl, hz1', hz2', hRz, -⟩ := own_rd_nil hown
              have HB5 := Lib.hid (below_step HB.out hb5)
              have HP5 := Lib.hid (HP.out.below hb5)
              have HC6 := Lib.hid (HCi.out Az cz w5 (below_step HB4.out HB5.out) hRz hz1' hz2')
              clear HSi hown hb5 HP HB HBw HCi hRz
              go_wp2_with fail
              refine HC6.out.mono ?_
              rintro e w6 ⟨⟨vb, rfl, hvb⟩, hb6⟩
              have hlo := pl_lt hvb
              obtain ⟨Ab, cb, rfl, hb1', hb2', hpb, -⟩ := flt_r hvb
              have HNE : Hid (∀ ad, Ab = some ad → u6.ownBlock ≠ some ad.block) := fun ad e h => by
                have h1 := (pl_lt HP5.out _ h).2
                have h2 := (hlo ad.block (by rw [e]; rfl)).1
                omega
              have HPb := Lib.hid hpb
              have HB6 := Lib.hid (below_step HB5.out hb6)
              have HP6 := Lib.hid (HP5.out.below hb6)
              clear HC6 hb6 hvb hpb HB5 HP5 hlo
              generalize checkB Z = M at *
              have hmb := HCf.out
              go_wp2_with fail
              go_loopw [6, 100] (fun v6 vi wr2 => ∃ k : Nat, k ≤ M.length ∧ vi = .int .i64 k ∧ Hid (Pl wr2 w4.heap.size 34 2 v6 ((partsTo L j ++ (M.take k).filter nf).map fitem)) ∧ Hid (Below w4.heap.size w4 wr2) ∧ Hid (Pd wr2 2 Ab (M.map fitem)) ∧ Hid (∀ ad, Ab = some ad → v6.ownBlock ≠ some ad.block)) (fun _ vi _ => M.length - (intOf vi).toNat)
              case atStart => exact ⟨0, Nat.zero_le _, rfl, by show Pl _ _ _ _ _ _; simpa using HP6.out, HB6, HPb, HNE⟩
              case round =>
                clear HP6 HB6 HPb HNE
                obtain ⟨k, hk, rfl, HP, HB, HPb, HNE⟩ := hrel
                by_cases hltk : k < M.length
                · obtain ⟨B, O, b, cc, rfl, hab2, hadd2, hpv, x0, x1⟩ := HPb.out.fault hltk
                  have HST := Lib.hid (take_filter (F := M) hltk)
                  generalize M[k] = m at *
                  obtain ⟨P, u⟩ := m
                  obtain ⟨q, hq⟩ : ∃ q, wr.heap.size = q := ⟨_, rfl⟩
                  obtain ⟨wo, hwo⟩ : ∃ wo, wr.alloc (.cells #[.slice (some ⟨b, 0, none⟩) P.length cc, .int .i64 u] 34) = wo := ⟨_, rfl⟩
                  have hbo : Below wr.heap.size wr wo := by rw [← hwo]; exact (Below.refl _ _).alloc (Nat.le_refl _) _
                  have y0 : wo.cell? ⟨q, 0, none⟩ = some (.slice (some ⟨b, 0, none⟩) P.length cc) := by rw [← hwo, World.cell?_alloc_at _ _ _ _ hq.symm]; rfl
                  have y1 : wo.cell? ⟨q, 1, none⟩ = some (.int .i64 u) := by rw [← hwo, World.cell?_alloc_at _ _ _ _ hq.symm]; rfl
                  have HBo := Lib.hid (below_step HB.out hbo)
                  have HPbo := Lib.hid (HPb.out.below hbo)
                  have HPo := Lib.hid (HP.out.below hbo)
                  have HPv := Lib.hid (hpv.below hbo)
                  have HML : Hid (0 < (M.map fitem).length) := by show _ < _; rw [List.length_map]; omega
                  clear HP HB HPb hbo hpv
                  by_cases h7 : u = 7
                  · have HP7 : Hid (Pl wo w4.heap.size 34 2 u6 ((partsTo L j ++ (M.take (k + 1)).filter nf).map fitem)) := by
                      show Pl _ _ _ _ _ _
                      rw [HST.out, show nf (P, u) = false by unfold nf; simp [h7], if_neg (by simp), List.append_nil]; exact HPo.out
                    subst h7
                    clear HST HPo HPv
                    go_wp2_with fail
                    go_roundw
                    case rel => exact ⟨k + 1, by omega, by go_num, HP7, HBo, HPbo, HNE⟩
                    case measure => simp [intOf]; omega
                  · have HS2 : Hid (partsTo L j ++ (M.take (k + 1)).filter nf = (partsTo L j ++ (M.take k).filter nf) ++ [(P, u)]) := by
                      show _ = _
                      rw [HST.out, show nf (P, u) = true by unfold nf; simpa using h7, if_pos rfl, List.append_assoc]
                    have h7b : (u == 7) = false := by rw [beq_eq_false_iff_ne]; exact h7
                    have HTL : Hid (((partsTo L j ++ (M.take k).filter nf).map fitem).length + 1 ≤ 1000000000) := by
                      show _ ≤ _
                      have h1 := List.length_filter_le nf (M.take k)
                      rw [List.length_take] at h1
                      have h2 := HPF.out
                      have h3 := HCf.out
                      rw [List.length_map, List.length_append]; omega
                    clear HST
                    obtain ⟨Y, hY⟩ : ∃ Y, partsTo L j ++ (M.take k).filter nf = Y := ⟨_, rfl⟩
                    rw [hY] at HS2 HTL HPo
                    clear hY
                    go_wp2_with (at_builtin; refine app_itemA rfl _ _ 29 rfl w4 wo 34 i0 _ 2 32 Tryz.underlying29 hii hz0 hz1 hz2 rfl (by decide) (by decide) HPo.out HBo.out rfl (.slice (some ⟨b, 0, none⟩) P.length cc) (P, [.int .i64 u]) rfl (fitem_cells (P, u)) HPv.out rfl HTL.out (some ⟨B, O, none⟩) (M.map fitem) HML.out HPbo.out HNE.out ?_; intro v' w' hown' hb' hpd' hne')
                    have HP7 : Hid (Pl w' w4.heap.size 34 2 v' ((partsTo L j ++ (M.take (k + 1)).filter nf).map fitem)) := by
                      show Pl _ _ _ _ _ _
                      rw [HS2.out, List.map_append]; exact hown'
                    have HB7 := Lib.hid hb'
                    have HPb7 := Lib.hid hpd'
                    have HNE7 := Lib.hid hne'
                    clear hown' hb' hpd' hne' HPo HBo HPv HS2 y0 y1 HTL HPbo HNE
                    go_roundw
                    case rel => exact ⟨k + 1, by omega, by go_num, HP7, HB7, HPb7, HNE7⟩
                    case measure => simp [intOf]; omega
                · obtain rfl : k = M.length := by omega
                  have hP8 := HP.out
                  rw [List.take_length, ← HPS.out] at hP8
                  have HP8 := Lib.hid hP8
                  clear HP hP8 HPS HPF HCf
                  go_wp2_with fail
                  go_roundw
                  case rel => exact ⟨j + 1, by omega, by go_num, HP8, HB⟩
                  case measure => simp [intOf]; omega
            · obtain rfl : j = K.length := by omega
              have hPZ := HP.out
              rw [HPT.out] at hPZ
              obtain ⟨Aw, cw, rfl, hw1, hw2, hpw, -⟩ := flt_r (HPW4.out.below HB.out)
              obtain ⟨Az, cz, rfl, hz1', hz2', hpz, -⟩ := flt_r hPZ
              have HBw := Lib.hid (below_step HB4.out HB.out)
              have HR1 := Lib.hid (refs_any Aw cw WF wr hpw HWl.out)
              have HPz := Lib.hid hpz
              clear HP HB hPZ hpw hpz HPW4 HB4 HRk HSU HPSu HPFe HSub
              go_wp2_with fail
              refine HR1.out.mono ?_
              rintro e w5 ⟨⟨va, rfl, hva⟩, hb5⟩
              have HB5 := Lib.hid (below_step HBw.out hb5)
              have HR2 := Lib.hid (refs_any Az cz WF w5 (HPz.out.below hb5) HWl.out)
              have HVa := Lib.hid hva
              clear HR1 hva hb5 HBw HPz
              go_wp2_with fail
              refine HR2.out.mono ?_
              rintro e w6 ⟨⟨vb, rfl, hvb⟩, hb6⟩
              have HB6 := Lib.hid (below_step HB5.out hb6)
              obtain ⟨A1, c1, rfl, h11, h12, hp1, -⟩ := flt_r (HVa.out.below hb6)
              obtain ⟨A2, c2, rfl, h21, h22, hp2, -⟩ := flt_r hvb
              have HSa := Lib.hid (same_any A1 c1 A2 c2 WF w6 hp1 hp2 HWl.out HWs.out)
              clear HR2 HVa hvb hb6 HB5 hp1 hp2
              go_wp2_with fail
              refine HSa.out.mono ?_
              rintro e w7 ⟨rfl, hb7⟩
              have HB7 := Lib.hid (below_step HB6.out hb7)
              clear HSa HB6 hb7
              go_wp2_with fail
              refine (HA.out _ HB7.out).mono ?_
              rintro e w9 ⟨rfl, hb9⟩
              go_wp2_with fail
              go_ret
              exact ⟨rfl, below_step HB7.out hb9⟩
end Go.Proofs.YtlldjkhlhfnfeaaGreatDoor
