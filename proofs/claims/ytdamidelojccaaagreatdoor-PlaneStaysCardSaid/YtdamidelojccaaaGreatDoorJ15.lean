import Derived.Test.YtdamidelojccaaaGreatDoorJ14
set_option maxHeartbeats 4000000
set_option maxRecDepth 100000
namespace Go.Proofs.Zq
open Tryz
open Go Go.RowKit Go.Sort Sch Adr Mtr Tre
theorem Rd.take {w : World} {A : Option Addr} {P : List ByteArray} (h : Rd w 1 A P.length (sv P)) {n : Nat} (hn : n ≤ P.length) : Rd w 1 A (P.take n).length (sv (P.take n)) := by
 refine ⟨by rw [Zid]; simp, fun h0 => ?_⟩
 have hl : (P.take n).length = n := by rw [Yad]; omega
 obtain ⟨ad, e, hb, hx⟩ := h.2 (by omega)
 refine ⟨ad, e, hb, fun j u hu => hx j u ?_⟩
 have hj : j < n := by have := (Yba.1 hu).1; rw [Zid, hl] at this; exact this
 rw [← hu, Zja (by omega : j < P.length), Zja (by omega : j < (P.take n).length), Yct]
theorem Zms {P : List ByteArray} (h : Shw P) (n : Nat) : Shw (P.take n) := fun s hs => h s (List.mem_of_mem_take hs)
theorem Zxv (r : Rule) (b c pn pp q : Nat) (A2 : Option Addr) (c2 : Nat) (P : List ByteArray) (w : World) (hE : Env w) (hr : r ∈ Zak) (hrc : r.path.length ≤ c) (_hcm : c ≤ maxLen) (hR : Rd w 1 (some ⟨b, 0, none⟩) r.path.length (sv r.path)) (hn : w.cell? ⟨pn, 0, none⟩ = some (.int .i64 q)) (hc1 : w.cell? ⟨pp, 0, none⟩ = some (.slice A2 P.length c2)) (hP : Rd w 1 A2 P.length (sv P)) (hq : P.length = q + 1) (hpc : P.length ≤ c2) (_hc2 : c2 ≤ maxLen) (hpl : P.length ≤ 100000) (hps : Shw P) :
 Calls prog 87 #[.agg #[.slice (some ⟨b, 0, none⟩) r.path.length c, .bool r.one, .bool r.needed], .pointer (some ⟨pn, 0, none⟩), .pointer (some ⟨pp, 0, none⟩)] w fun e w' => e = .returned (.bool (Zmh P r)) ∧ Below w.heap.size w w' := by
 obtain ⟨w0, hw0⟩ : ∃ w0, w.alloc (.cells #[.slice (some ⟨b, 0, none⟩) r.path.length c, .bool r.one, .bool r.needed] 99) = w0 := ⟨_, rfl⟩;unfold maxLen at _hcm _hc2;have hrl := Zia r hr;have hrs := Zma r hr;have hb0 : Below w.heap.size w w0 := by rw [← hw0]; exact (Yac _ _).alloc (Yaf _) _
 have HX : Hid (Zmh P r = (decide (r.path.length = P.length) && Zbm (r.path.take q) (P.take q) && Zkd (r.path.getD q ⟨#[]⟩))) := by
  show _ = _; unfold Zmh; rw [show P.length - 1 = q by omega]
 have x0 : w0.cell? ⟨w.heap.size, 0, none⟩ = some (.slice (some ⟨b, 0, none⟩) r.path.length c) := by rw [← hw0, World.cell?_alloc_at _ _ _ _ rfl]; rfl
 have n0 : w0.cell? ⟨pn, 0, none⟩ = some (.int .i64 q) := (hb0.cell (p := ⟨pn, 0, none⟩) (Lib.lt_of_cell hn)).trans hn;have y0 : w0.cell? ⟨pp, 0, none⟩ = some (.slice A2 P.length c2) := (hb0.cell (p := ⟨pp, 0, none⟩) (Lib.lt_of_cell hc1)).trans hc1;have HB := _root_.Zhd hb0;have X0 := fun m os => cell_regrown x0 m os
 have N0 := fun m os => cell_regrown n0 m os
 have Y0 := fun m os => cell_regrown y0 m os
 have hqi : (q : Int) ≤ 100000 := by omega
 have hqp : (q : Int) ≤ (P.length : Int) := by omega
 have hqc2 : (q : Int) ≤ (c2 : Int) := by omega
 by_cases hl : r.path.length = P.length
 · have hlb : ((r.path.length : Int) == (q : Int) + 1) = true := by rw [beq_iff_eq]; omega
   have hqr : q < r.path.length := by omega
   have hqri : (q : Int) < (r.path.length : Int) := by omega
   have hqc : (q : Int) ≤ (c : Int) := by omega
   have hM := Zjl (some ⟨b, 0, none⟩) c (r.path.take q) A2 c2 (P.take q) w0 (hE.below hb0) ((hR.below hb0).take (by omega)) ((hP.below hb0).take (by omega)) (by rw [Yad]; omega) (by rw [Yad]; omega) (Zms hrs _) (Zms hps _)
   rw [show (r.path.take q).length = q by rw [Yad]; omega, show (P.take q).length = q by rw [Yad]; omega] at hM
   have hm : ∀ m os, Calls prog 85 #[.slice (some ⟨b, 0, none⟩) q c, .slice A2 q c2] (grow (redrawn w0 m) os) fun e w' => e = .returned (.bool (Zbm (r.path.take q) (P.take q))) ∧ ∃ p : Regrown, w' = grow (redrawn w0 p.d) p.os := fun m os => by
    have hbr := below_regrown w0 m os;have := Zjl (some ⟨b, 0, none⟩) c (r.path.take q) A2 c2 (P.take q) (grow (redrawn w0 m) os) ((hE.below hb0).below hbr) (((hR.below hb0).below hbr).take (by omega)) (((hP.below hb0).below hbr).take (by omega)) (by rw [Yad]; omega) (by rw [Yad]; omega) (Zms hrs _) (Zms hps _)
    rw [show (r.path.take q).length = q by rw [Yad]; omega, show (P.take q).length = q by rw [Yad]; omega] at this
    exact Calls.regrown_of this
   have HX2 : Hid (Zmh P r = (Zbm (r.path.take q) (P.take q) && Zkd r.path[q])) := by
    show _ = _;rw [HX.out, Yal hl, Yap, Yag hqr]; rfl
   obtain ⟨B', O', hA', -, -, z0⟩ := (hR.below hb0).strAt hqr;injection hA' with hA'
   injection hA' with e1 e2
   subst e1 e2;rw [Ybf] at z0;have Z0 := fun m os => cell_regrown z0 m os
   have hp : ∀ m os, Calls prog 88 #[.string r.path[q], .string ⟨#[36]⟩] (grow (redrawn w0 m) os) fun e w' => e = .returned (.bool (Zkd r.path[q])) ∧ ∃ p : Regrown, w' = grow (redrawn w0 p.d) p.os := fun m os =>
    (Tryz.strings_HasPrefix r.path[q] ⟨#[36]⟩ (grow (redrawn w0 m) os)).mono fun _ _ ⟨he, hm⟩ => ⟨he, ⟨m, os⟩, hm⟩
   clear hE hR hP hps hn hc1 hb0 x0 n0 y0 z0 hM HX hq hl hrl hrs;generalize Zbm (r.path.take q) (P.take q) = mb at *;generalize Zkd r.path[q] = tb at *;generalize r.path[q] = s at *;cases mb with
   | false =>
     have HK : Hid (Zmh P r = false) := by show _ = _; rw [HX2.out]; rfl
     clear HX2 hp;go_enter func87, ntmps87;go_wp2_with fail;refine wp_region_quiet_below (by kernel_rfl) (by kernel_rfl) ?_
     repeat (go_big_quiet_step ((go_at_call 85; exact hm _ _)))
     refine wpQuiet_nil ?_;intro _ hw';obtain ⟨⟨dq, osq⟩, hw''⟩ := hw';subst hw'';go_wp2_with fail;go_ret;exact ⟨Zai HK.out.symm, Zaa HB.out (below_regrown w0 dq osq)⟩
   | true =>
     have HK : Hid (Zmh P r = tb) := by show _ = _; rw [HX2.out]; rfl
     clear HX2;go_enter func87, ntmps87;go_wp2_with fail;refine wp_region_quiet_below (by kernel_rfl) (by kernel_rfl) ?_
     repeat (go_big_quiet_step ((first | (go_at_call 85; exact hm _ _) | (go_at_call 88; exact hp _ _))))
     refine wpQuiet_nil ?_;intro _ hw';obtain ⟨⟨dq, osq⟩, hw''⟩ := hw';subst hw'';go_wp2_with fail;go_ret;exact ⟨Zai HK.out.symm, Zaa HB.out (below_regrown w0 dq osq)⟩
 · have hlb : ((r.path.length : Int) == (q : Int) + 1) = false := by rw [Yak]; omega
   have HK : Hid (Zmh P r = false) := by show _ = _; rw [HX.out, Yae hl]; rfl
   clear hE hR hP hps hn hc1 hb0 x0 n0 y0 HX hq hl hrl hrs;go_enter func87, ntmps87;go_wp2_with fail;refine wp_region_quiet_below (by kernel_rfl) (by kernel_rfl) ?_
   repeat (go_big_quiet_step (fail))
   refine wpQuiet_nil ?_;intro _ hw';obtain ⟨⟨dq, osq⟩, hw''⟩ := hw';subst hw'';go_wp2_with fail;go_ret;exact ⟨Zai HK.out.symm, Zaa HB.out (below_regrown w0 dq osq)⟩
theorem Zzs (A : Option Addr) (c : Nat) (A2 : Option Addr) (c2 : Nat) (P : List ByteArray) (w : World) (hE : Env w) (hR : Zoe w A) (hP : Rd w 1 A2 P.length (sv P)) (h1 : 1 ≤ P.length) (hpc : P.length ≤ c2) (hc2 : c2 ≤ maxLen) (hpl : P.length ≤ 100000) (hps : Shw P) :
 Calls prog 47 #[.slice A 34 c, .slice A2 P.length c2] w fun e w' => e = .returned (.int .i64 (Zfz P)) ∧ Below w.heap.size w w' := by
 obtain ⟨q, hq⟩ : ∃ q, P.length = q + 1 := ⟨P.length - 1, by omega⟩
 obtain ⟨wb, hwb⟩ : ∃ wb, w.heap.size = wb := ⟨_, rfl⟩;obtain ⟨w0, hw0⟩ : ∃ w0, (w.alloc (.cells #[.slice A2 P.length c2] 33)).alloc (.cells #[.int .i64 q] 3) = w0 := ⟨_, rfl⟩;have hb0 : Below w.heap.size w w0 := by rw [← hw0]; exact ((Yac _ _).alloc (Yaf _) _).alloc (by simp) _
 have hsz : w0.heap.size = wb + 2 := by rw [← hw0, ← hwb]; simp
 have y0 : w0.cell? ⟨wb, 0, none⟩ = some (.slice A2 P.length c2) := by
  rw [← hw0, ← hwb, World.cell?_alloc_lt _ _ _ (by simp), World.cell?_alloc_at _ _ _ _ rfl]; rfl
 have n0 : w0.cell? ⟨wb + 1, 0, none⟩ = some (.int .i64 q) := by
  rw [← hw0, World.cell?_alloc_at _ _ _ _ (by simp [hwb])]; rfl
 have HIx := _root_.Zhd (Zafn (.pointer (some ⟨wb + 1, 0, none⟩)) (.pointer (some ⟨wb, 0, none⟩)) (Zmh P) A c w0 (hR.below hb0) (fun W hbW r hr b c hc1 hc3 hrd => by
  have hbw := Zaa hb0 hbW;exact Zxv r b c (wb + 1) wb q A2 c2 P W (hE.below hbw) hr hc1 hc3 hrd ((hbW.cell (p := ⟨wb + 1, 0, none⟩) (by show wb + 1 < _; rw [hsz]; omega)).trans n0) ((hbW.cell (p := ⟨wb, 0, none⟩) (by show wb < _; rw [hsz]; omega)).trans y0) (hP.below hbw) hq hpc hc2 hpl hps))
 have HB := _root_.Zhd hb0;have HQ : Hid ((P.length : Int) - 1 = (q : Int)) := by show _ = _; omega
 have HA := _root_.Zhd (Zvk (f := Zmh P) Zak 0);have HU : Hid (Zfz P = if Zak.any (Zmh P) then 2 else 3) := rfl
 have HW := _root_.Zhd hw0;have HWB := _root_.Zhd hwb;clear hE hR hP hps hb0 hsz y0 n0 hw0 hwb hq
 have hlo : -1 ≤ Zau (Zmh P) 0 Zak := by
  rcases Zex (f := Zmh P) Zak 0 with ⟨h, -⟩ | ⟨j, -, h, -⟩
  · rw [h]; decide
  · rw [h]; omega
 generalize Zau (Zmh P) 0 Zak = ff at *;generalize Zak.any (Zmh P) = an at *
 have hCt : Hid (Calls prog 86 #[.slice A 34 c, .func (.func 87) #[] #[.pointer (some ⟨wb + 1, 0, none⟩), .pointer (some ⟨wb, 0, none⟩)]] w0 fun e w' => e = .returned (.bool an) ∧ Below w0.heap.size w0 w') := by
  go_enter func86, ntmps86;go_wp2_with fail;refine HIx.out.mono ?_;rintro e w2 ⟨rfl, hb2⟩;go_wp2;go_ret;exact ⟨Zai HA.out, hb2⟩
 clear HIx HA;go_enter func47, ntmps47;go_wp2_with fail;rw [HQ.out, HWB.out, HW.out];refine hCt.out.mono ?_;rintro e w2 ⟨rfl, hb2⟩;have hB2 := _root_.Zhd (Zaa HB.out hb2);clear hCt hb2;cases an with
 | true =>
   go_wp2;go_ret;exact ⟨Zcg HU.out.symm, by have := hB2.out; rwa [HWB.out] at this⟩
 | false =>
   go_wp2;go_ret;exact ⟨Zcg HU.out.symm, by have := hB2.out; rwa [HWB.out] at this⟩
def Zda (P : List ByteArray) (k : Nat) : List ByteArray := ((Zak.take k).filter (Zabr P)).map Zakm
theorem Zza (P : List ByteArray) {k : Nat} (h : k < Zak.length) : Zda P (k + 1) = if Zabr P Zak[k] then Zda P k ++ [Zakm Zak[k]] else Zda P k := by
 unfold Zda;rw [Yau h, Yco, Ybs];cases hn : Zabr P Zak[k] <;> simp [hn]
theorem Zlv (P : List ByteArray) (k : Nat) : (Zda P k).length ≤ k := by
 unfold Zda;rw [Yax];exact Yas (Ycc _ _) (by rw [Yad]; omega)
theorem Zmb (P : List ByteArray) : Zda P 34 = Zeb P := by
 unfold Zda Zeb;rw [← Zhy, Ybw]
theorem Zajw (A : Option Addr) (c : Nat) (A2 : Option Addr) (c2 : Nat) (P : List ByteArray) (w : World) (hE : Env w) (hR : Zoe w A) (hP : Rd w 1 A2 P.length (sv P)) (hpl : P.length ≤ 100000) (hps : Shw P) :
 Calls prog 89 #[.slice A 34 c, .slice A2 P.length c2] w (Zaiw w (Zeb P)) := by
 obtain ⟨i0, hi, hz0, hz1, hz2⟩ := info_parts Zdx;have HR := _root_.Zhd hR;have HE := _root_.Zhd hE;have HP := _root_.Zhd hP;have HPS := _root_.Zhd hps;have HL := _root_.Zhd Zhy;clear hR hE hP hps;go_enter func89, ntmps89;go_wp2;go_loopw [5, 11] (fun v vi wr => ∃ k : Nat, k ≤ 34 ∧ vi = .int .i64 k ∧ Hid (wr.ownsRow w.heap.size 9 1 v (Zda P k).length (sv (Zda P k))) ∧ Hid (Below w.heap.size w wr)) (fun _ vi _ => 34 - (intOf vi).toNat)
 case atStart => exact ⟨0, Yav _, rfl, World.ownsRow_nil _ _ _ _, Yac _ _⟩
 case round =>
  obtain ⟨k, hk, rfl, HO, HB⟩ := hrel;by_cases hlt : k < 34
  · have hlr : k < Zak.length := by rw [HL.out]; exact hlt
    obtain ⟨B, O, b, cc, rfl, hab, hadd, hc1, hc3, hrd, x0, x1, x2⟩ := (HR.out.below HB.out).one hlr;have hmem := Yat hlr;have hrl := Zia _ hmem;have hrs := Zma _ hmem;have hst := Zza P hlr;have hnl := Zlv P k;unfold maxLen at hc3;obtain ⟨q, hq⟩ : ∃ q, Zak[k].path.length = q + 1 := ⟨Zak[k].path.length - 1, by omega⟩
    have HN : Hid (Zabr P Zak[k] = (Zak[k].needed && Zbm (Zak[k].path.take q) P)) := by show _ = _; unfold Zabr; rw [hq, Yea]
    have hqr : q < Zak[k].path.length := by omega
    have HW : Hid (Zakm Zak[k] = Zak[k].path[q]'hqr) := by
     show _ = _;unfold Zakm;rw [show Zak[k].path.length - 1 = q by omega, Yap, Yag hqr]; rfl
    have hqi : (q : Int) < (Zak[k].path.length : Int) := by omega
    have hqc : (q : Int) ≤ (cc : Int) := by omega
    have hq0 : (0 : Int) ≤ (q : Int) := by omega
    have HQ : Hid ((Zak[k].path.length : Int) - 1 = (q : Int)) := by show _ = _; omega
    have HST := _root_.Zhd hst;obtain ⟨wo, hwo⟩ : ∃ wo, wr.alloc (.cells #[.slice (some ⟨b, 0, none⟩) Zak[k].path.length cc, .bool Zak[k].one, .bool Zak[k].needed] 99) = wo := ⟨_, rfl⟩;have hbo : Below wr.heap.size wr wo := by rw [← hwo]; exact (Yac _ _).alloc (Yaf _) _
    have y0 : wo.cell? ⟨wr.heap.size, 0, none⟩ = some (.slice (some ⟨b, 0, none⟩) Zak[k].path.length cc) := by rw [← hwo, World.cell?_alloc_at _ _ _ _ rfl]; rfl
    have y2 : wo.cell? ⟨wr.heap.size, 2, none⟩ = some (.bool Zak[k].needed) := by rw [← hwo, World.cell?_alloc_at _ _ _ _ rfl]; rfl
    have hbw := Zaa HB.out hbo;have hM := Zjl (some ⟨b, 0, none⟩) cc (Zak[k].path.take q) A2 c2 P wo (HE.out.below hbw) ((hrd.below hbo).take (by omega)) (HP.out.below hbw) (by rw [Yad]; omega) hpl (Zms hrs _) HPS.out
    rw [show (Zak[k].path.take q).length = q by rw [Yad]; omega] at hM
    have HM := _root_.Zhd hM;obtain ⟨B', O', hA', -, -, z0⟩ := (hrd.below hbo).strAt hqr;injection hA' with hA'
    injection hA' with e1 e2
    subst e1 e2;rw [Ybf] at z0;have HZ := _root_.Zhd z0;have HO2 := _root_.Zhd (Zah HO.out hbo);have HB2 := _root_.Zhd hbw;rw [hq] at x0 y0 hwo;have hqi2 : (q : Int) < (q : Int) + 1 := by omega
    have hq10 : (q : Int) ≤ 10 := by omega
    clear hM hst z0 hbw HO hrd hrs hmem hc1 hc3 hq hbo hqi HQ;generalize Zbm (Zak[k].path.take q) P = mb at *;generalize Zak[k].path[q] = s at *;generalize Zak[k] = r at *;clear hrl hqr;obtain ⟨wrb, hwrb⟩ : ∃ wrb, wr.heap.size = wrb := ⟨_, rfl⟩;rw [hwrb] at y0 y2;have hwl : wrb < wo.heap.size := by rw [← hwo, ← hwrb]; simp
    cases hrn : r.needed with
    | false =>
      rw [hrn] at x2 y2 HN hwo;have HF : Hid (Zda P (k + 1) = Zda P k) := by show _ = _; rw [HST.out, HN.out]; rfl
      have HWO := _root_.Zhd hwo;clear HN HST HM HZ HW hrn hwo y0 y2 hwl;subst hwrb;go_wp2_with fail;go_roundw
      case rel => exact ⟨k + 1, by omega, by go_num, by show World.ownsRow _ _ _ _ _ _ _; rw [HF.out, HWO.out]; exact HO2.out, by rw [HWO.out]; exact HB2⟩
      case measure => simp [intOf]; omega
    | true =>
      rw [hrn] at x2 y2 HN hwo;clear hrn;cases mb with
      | false =>
        have HF : Hid (Zda P (k + 1) = Zda P k) := by show _ = _; rw [HST.out, HN.out]; rfl
        clear HN HST HZ HW;go_wp2_with fail;refine HM.out.mono ?_;rintro e w2 ⟨rfl, hb2⟩;have HO3 := _root_.Zhd (Zah HO2.out hb2);have HB3 := _root_.Zhd (Zaa HB2.out hb2);clear HM HO2 HB2 hb2;go_wp2_with fail;go_roundw
        case rel => exact ⟨k + 1, by omega, by go_num, by show World.ownsRow _ _ _ _ _ _ _; rw [HF.out]; exact HO3.out, HB3⟩
        case measure => simp [intOf]; omega
      | true =>
        have HF : Hid (Zda P (k + 1) = Zda P k ++ [s]) := by show _ = _; rw [HST.out, HN.out, HW.out]; rfl
        clear HN HST HW;go_wp2_with fail;refine HM.out.mono ?_;rintro e w2 ⟨rfl, hb2⟩;have HO3 := Zah HO2.out hb2;have HB3 := Zaa HB2.out hb2;have v0 : w2.cell? ⟨wrb, 0, none⟩ = some (.slice (some ⟨b, 0, none⟩) (q + 1) cc) := (hb2.cell (p := ⟨wrb, 0, none⟩) hwl).trans y0;have vz : w2.cell? ⟨b, q, none⟩ = some (.string s) := (hb2.cell (p := ⟨b, q, none⟩) (Lib.lt_of_cell HZ.out)).trans HZ.out;generalize Zda P k = nd at *;clear HM HO2 HB2 hb2 y0 y2 hwo x0 x1 x2 HZ;go_wp2_with (at_builtin; refine Zfn rfl _ _ 33 rfl w w2 9 i0 _ 1 16 underlying33 hi hz0 hz1 hz2 rfl (by decide) (by decide) HO3 HB3 rfl 1 1 [.string s] rfl rfl (by simp; rfl) (by omega) ?_; intro v' w' hown' hb')
        go_roundw
        case rel => exact ⟨k + 1, by omega, by go_num, by show World.ownsRow _ _ _ _ _ _ _; rw [HF.out]; exact Zfg hown', hb'⟩
        case measure => simp [intOf]; omega
  · obtain rfl : k = 34 := by omega
    have HF := _root_.Zhd (Zmb P);have HOF := HO.out;rw [HF.out] at HOF;obtain ⟨A', c', rfl, hc1, hc3, hrd, hnz⟩ := Zct HOF;have K : Hid (Zaiw w (Zeb P) (.returned (.slice A' (Zeb P).length c')) wr) := ⟨A', c', rfl, hc1, hc3, hrd, hnz, HB.out⟩;have HK2 := _root_.Zhd (show (Zda P 34).length = (Zeb P).length by rw [HF.out])
    clear HOF HO hrd hnz hc1 hc3 HF;go_wp2;go_ret;exact K.out
theorem Zafp {w w' : World} {v : Value} (h : Pl w' w.heap.size 99 3 v Zmj) : ∃ A c, v = .slice A 34 c ∧ 34 ≤ c ∧ c ≤ maxLen ∧ Zoe w' A := by
 obtain ⟨A, c, e, a, b, r, -⟩ := h.read;rw [Zth] at e a;exact ⟨A, c, e, a, b, r⟩
end Go.Proofs.Zq
