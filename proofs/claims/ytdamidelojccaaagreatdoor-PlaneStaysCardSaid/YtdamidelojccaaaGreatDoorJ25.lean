import Derived.Test.YtdamidelojccaaaGreatDoorJ24
set_option linter.unusedVariables false
set_option linter.unusedSimpArgs false
set_option maxHeartbeats 4000000
set_option maxRecDepth 100000
namespace Edt
open Go Go.Lib Tre Lns
def Zcp (L : List Line) (P : List ByteArray) (s : ByteArray) (S : List Line) : List Line × Int :=
 if (Zar L (P.dropLast ++ [s])).isSome then (L, 4) else if 200 < L.length + S.length then (L, 5)
 else if (addB L (P.dropLast ++ [s])).2 ≠ 0 then (L, (addB L (P.dropLast ++ [s])).2)
 else (Go.Proofs.Zq.insMB (markB (addB L (P.dropLast ++ [s])).1 ((Zar (addB L (P.dropLast ++ [s])).1 (P.dropLast ++ [s])).getD 0) (Zdq S 0).mark) ((Zar (addB L (P.dropLast ++ [s])).1 (P.dropLast ++ [s])).getD 0 + 1) (S.drop 1), 0)
theorem Zabl {L S : List Line} {P : List ByteArray} {s : ByteArray} (h : (Zar L (P.dropLast ++ [s])).isSome = true) : Zcp L P s S = (L, 4) := by unfold Zcp; rw [Yan h]
theorem Zage {L S : List Line} {P : List ByteArray} {s : ByteArray} (h : (Zar L (P.dropLast ++ [s])).isSome = false) (h2 : 200 < L.length + S.length) : Zcp L P s S = (L, 5) := by unfold Zcp; rw [Yab (by rw [h]; simp), Yan h2]
theorem Zanp {L S : List Line} {P : List ByteArray} {s : ByteArray} {M : List Line} {er : Int} (h : (Zar L (P.dropLast ++ [s])).isSome = false) (h2 : ¬ 200 < L.length + S.length) (h3 : addB L (P.dropLast ++ [s]) = (M, er)) (h4 : er ≠ 0) : Zcp L P s S = (L, er) := by unfold Zcp; rw [Yab (by rw [h]; simp), Yab h2, h3, Yan h4]
theorem Zaib {L S : List Line} {P : List ByteArray} {s : ByteArray} {M : List Line} {k : Nat} (h : (Zar L (P.dropLast ++ [s])).isSome = false) (h2 : ¬ 200 < L.length + S.length) (h3 : addB L (P.dropLast ++ [s]) = (M, 0)) (h4 : Zar M (P.dropLast ++ [s]) = some k) : Zcp L P s S = (Go.Proofs.Zq.insMB (markB M k (Zdq S 0).mark) (k + 1) (S.drop 1), 0) := by
 unfold Zcp; rw [Yab (by rw [h]; simp), Yab h2, h3, Yab (by simp), h4]; rfl
theorem Zra {L M : List Line} {T : List ByteArray} (h : addB L T = (M, 0)) : Zab M = true ∧ ∃ k, Zar M T = some k := by
 unfold addB at h;split at h
 · cases h
 · rename_i h1;split at h
   · cases h
   · rename_i h2;split at h
     · rename_i M' hM;injection h with h _
       subst h;have hs : Zei T = true := by
        cases hs : Zei T with
        | true => rfl
        | false => exact absurd (.inr hs) h1
       have hr : Zab L = true := by
        cases hr : Zab L with
        | true => rfl
        | false => exact absurd (.inl hr) h1
       obtain ⟨g1, g2⟩ := Zkr hs (by omega) T.length 0 L M' (by omega) hr (.inl rfl) hM
       have h0 : 0 < T.length := by
        unfold Zei at hs;simp at hs;exact hs.1
       have hm : T ∈ Zaf M' := (g2 T).2 (.inr ⟨T.length, h0, Yaf _, by rw [Ybw]⟩)
       have := (Zfu g1).2 hm;exact ⟨g1, Option.isSome_iff_exists.1 this⟩
     · cases h
theorem Zagi (L : List Line) : ∀ (k : Nat) (hk : k < L.length) (m : Int), lines (L.set k ⟨L[k].depth, L[k].word, m⟩) = (lines L).set (k * 3 + 2) (.int .i64 m) := by
 induction L with
 | nil => intro k hk; cases hk
 | cons l r ih =>
   intro k hk m;cases k with
   | zero => rfl
   | succ k =>
     have hk2 : k < r.length := by simpa using hk
     have := ih k hk2 m;rw [show (k + 1) * 3 + 2 = (k * 3 + 2) + 1 + 1 + 1 by omega]
     show l.cells ++ lines (r.set k ⟨r[k].depth, r[k].word, m⟩) = _;rw [this];rfl
theorem Zarf {L : List Line} {k : Nat} (hk : k < L.length) (m : Int) : markB L k m = L.set k ⟨L[k].depth, L[k].word, m⟩ := by
 unfold markB; rw [Zaw hk, Zbi hk]
theorem Zyx (L : List Line) (k : Nat) (m : Int) : (markB L k m).length = L.length := by unfold markB; rw [Ycl]
end Edt
namespace Go.Proofs.Zq
open Tryz
open Go Go.RowKit Go.Sort Tre Lx Prs Lns Edt
theorem Zatp (A : Option Addr) (cap : Nat) (L : List Line) (Ap : Option Addr) (cp : Nat) (P : List ByteArray) (w : World) (hR : Rd w 3 A L.length (lines L)) (hcap : L.length ≤ cap) (hc : cap ≤ maxLen) (hnil : A = none → cap = 0) (hr : Zab L = true) (hP : Rd w 1 Ap P.length (sv P)) (hcp : P.length ≤ cp) (hc2 : cp ≤ maxLen) (hlP : P.length ≤ 1000000) :
 Calls prog 44 #[.slice A L.length cap, .slice Ap P.length cp] w (Zwq L P w) := by
 by_cases h : Zei P = true ∧ P.length ≤ 16
 · exact Zauc A cap L Ap cp P w hR hcap hc hnil hr hP hcp hc2 h.1 h.2
 · refine (Zvp A cap L Ap cp P w hR hcap hc hnil hr hP hcp hc2 hlP).mono fun e w' he => ⟨he, fun h0 => absurd h0 ?_⟩
   unfold addB;rw [hr];cases hs : Zei P with
   | true =>
     rw [hs] at h;have : 16 < P.length := by
      rcases Ybp 16 P.length with h1 | h1
      · exact h1
      · exact absurd ⟨rfl, h1⟩ h
     rw [Yab (by simp), Yan this]; exact (by decide : (6 : Int) ≠ 0)
   | false => rw [Yan (.inr rfl)]; exact (by decide : (1 : Int) ≠ 0)
theorem Zye (A : Option Addr) (cap : Nat) (L : List Line) (Ap : Option Addr) (cp : Nat) (P : List ByteArray) (s : ByteArray) (As : Option Addr) (cs : Nat) (S : List Line) (w : World) (hR : Rd w 3 A L.length (lines L)) (hcap : L.length ≤ cap) (hc : cap ≤ maxLen) (hnil : A = none → cap = 0) (hr : Zab L = true) (hP : Rd w 1 Ap P.length (sv P)) (hcp : P.length ≤ cp) (hc2 : cp ≤ maxLen) (h0 : P.length ≠ 0) (h16 : P.length ≤ 1000000)
 (hS : Rd w 3 As S.length (lines S)) (hS0 : 0 < S.length) (hScap : S.length ≤ cs) (hSc : cs ≤ maxLen) (hS2 : S.length ≤ 200) :
 Calls prog 57 #[.slice A L.length cap, .slice Ap P.length cp, .string s, .slice As S.length cs] w (Zhc (Zcp L P s S) w) := by
 have HBe := Zhd (Ztl Ap cp P s w hP hcp hc2 h0 h16);have HL : Hid (∀ W, Below w.heap.size w W → Lr W (.slice A L.length cap) L) := fun W hb => ⟨A, cap, rfl, hcap, hc, hR.below hb, hnil⟩
 have h200 := Zas hr;have hTl : (P.dropLast ++ [s]).length = P.length := by rw [Yaj, Ycn, Yby]; omega
 obtain ⟨z, hz⟩ : ∃ z, Zcp L P s S = z := ⟨_, rfl⟩;have HZ := Zhd hz;have HZ1 := Zhd (fun h => HZ.out.symm.trans (Zabl (L := L) (P := P) (s := s) (S := S) h))
 have HZ2 := Zhd (fun h h2 => HZ.out.symm.trans (Zage (L := L) (P := P) (s := s) (S := S) h h2))
 have HZ3 := Zhd (fun M er h h2 h3 h4 => HZ.out.symm.trans (Zanp (L := L) (P := P) (s := s) (S := S) (M := M) (er := er) h h2 h3 h4))
 have HZ4 := Zhd (fun M k h h2 h3 h4 => HZ.out.symm.trans (Zaib (L := L) (P := P) (s := s) (S := S) (M := M) (k := k) h h2 h3 h4))
 unfold Zhc;rw [hz];clear hz HZ;obtain ⟨T, hT⟩ : ∃ T, P.dropLast ++ [s] = T := ⟨_, rfl⟩;rw [hT] at HBe hTl HZ1 HZ2 HZ3 HZ4;have HF := Zhd (fun (W : World) (A2 : Option Addr) (c2 : Nat) (hb : Below w.heap.size w W) (hP2 : Rd W 1 A2 P.length (sv T)) (g1 : P.length ≤ c2) (g2 : c2 ≤ maxLen) => Zbr A cap L A2 c2 T W (hR.below hb) hcap hc hr (by rw [hTl]; exact hP2) (by rw [hTl]; exact g1) g2)
 have HA := Zhd (fun (W : World) (A2 : Option Addr) (c2 : Nat) (hb : Below w.heap.size w W) (hP2 : Rd W 1 A2 P.length (sv T)) (g1 : P.length ≤ c2) (g2 : c2 ≤ maxLen) => Zatp A cap L A2 c2 T W (hR.below hb) hcap hc hnil hr (by rw [hTl]; exact hP2) (by rw [hTl]; exact g1) g2 (by rw [hTl]; exact h16))
 rw [hTl] at HF HA;have HRS := Zhd hS;obtain ⟨B, O, rfl, hab, hadd, -, -, y2⟩ := hS.line hS0
 have HY : Hid (∀ W, Below w.heap.size w W → W.cell? ⟨B, O + 2, none⟩ = some (.int .i64 (Zdq S 0).mark)) := fun W hbw => by
  have y3 := (hbw.cell (p := ⟨B, O + 0 * 3 + 2, none⟩) hab).trans y2;rw [Zdf hS0];simpa using y3
 have hVl : (S.drop 1).length = S.length - 1 := by rw [Yam]
 have HVR : Hid (∀ W, Below w.heap.size w W → Rd W 3 (some ⟨B, O + 3, none⟩) (S.drop 1).length (lines (S.drop 1))) := fun W hb => by
  have := Zrf (hS.below hb) (n := 1) (by omega)
  rw [hVl];simpa using this
 have hab : B < w.heap.size := hab;obtain ⟨mk, hmk⟩ : ∃ mk, (Zdq S 0).mark = mk := ⟨_, rfl⟩;rw [hmk] at HY HZ4;clear hR hP hr hS hT y2 hadd hmk;cases hf : Zar L T with
 | some k0 =>
   rw [hf] at HF;have HK : Hid (z = (L, 4)) := HZ1.out (by rw [hf]; rfl)
   clear HZ1 HZ2 HZ3 HZ4 HA HY HVR hf;go_enter func57, ntmps57;go_wp2_with fail;refine HBe.out.mono ?_;rintro e w2 ⟨⟨v2, rfl, ho2⟩, hb2⟩;obtain ⟨A2, c2, rfl, g1, g2, g3⟩ := Zbc ho2;have HF2 := Zhd (HF.out w2 A2 c2 hb2 g3 g1 g2);have HB2 := Zhd hb2;clear ho2 g3 hb2 HF HBe;go_wp2_with fail;refine HF2.out.mono ?_;rintro e w3 ⟨rfl, hb3⟩;have HB3 := Zhd (Zaa HB2.out hb3);go_wp2;go_ret2;rw [HK.out];exact ⟨⟨_, rfl, HL.out _ HB3.out⟩, HB3.out⟩
 | none =>
   rw [hf] at HF;have hfi : (Zar L T).isSome = false := by rw [hf]; rfl
   have hwr : IntKind.i64.wrap ((L.length : Int) + (S.length : Int)) = (L.length : Int) + (S.length : Int) := by rw [IntKind.wrap_i64]; omega
   by_cases hlong : 200 < L.length + S.length
   · have HK : Hid (z = (L, 5)) := HZ2.out hfi hlong;have hl2 : (200 : Int) < (L.length : Int) + (S.length : Int) := by omega
     clear HZ1 HZ2 HZ3 HZ4 HA HY HVR hf hfi;go_enter func57, ntmps57;go_wp2_with fail;refine HBe.out.mono ?_;rintro e w2 ⟨⟨v2, rfl, ho2⟩, hb2⟩;obtain ⟨A2, c2, rfl, g1, g2, g3⟩ := Zbc ho2;have HF2 := Zhd (HF.out w2 A2 c2 hb2 g3 g1 g2);have HB2 := Zhd hb2;clear ho2 g3 hb2 HF HBe;go_wp2_with fail;refine HF2.out.mono ?_;rintro e w3 ⟨rfl, hb3⟩;have HB3 := Zhd (Zaa HB2.out hb3);clear hb3 HF2;go_wp2;go_ret2;rw [HK.out];exact ⟨⟨_, rfl, HL.out _ HB3.out⟩, HB3.out⟩
   · have hl2 : ¬ (200 : Int) < (L.length : Int) + (S.length : Int) := by omega
     obtain ⟨a, ha⟩ : ∃ a, addB L T = a := ⟨_, rfl⟩;obtain ⟨M, er⟩ := a;unfold Zwq Zix at HA;rw [ha] at HA;simp only at HA;by_cases he : er = 0
     · subst he;obtain ⟨hrM, k, hk⟩ := Zra ha;have hkl := Zcd hk;have HK : Hid (z = (insMB (markB M k mk) (k + 1) (S.drop 1), 0)) := HZ4.out M k hfi hlong ha hk;have HFM := Zhd (fun (W : World) (A2 : Option Addr) (c2 : Nat) (A3 : Option Addr) (c3 : Nat) (hR3 : Rd W 3 A3 M.length (lines M)) (g3 : M.length ≤ c3) (g4 : c3 ≤ maxLen) (hP2 : Rd W 1 A2 P.length (sv T)) (g1 : P.length ≤ c2) (g2 : c2 ≤ maxLen) => Zbr A3 c3 M A2 c2 T W hR3 g3 g4 hrM (by rw [hTl]; exact hP2) (by rw [hTl]; exact g1) g2)
       rw [hTl, hk, show Zou (some k) = (k : Int) from rfl] at HFM;have hM200 := Zas hrM
       have HMs : Hid (lines (markB M k mk) = (lines M).set (k * 3 + 2) (.int .i64 mk)) := by
        show _ = _;rw [Zarf hkl]; exact Zagi M k hkl mk
       have hMl := Zyx M k mk;have hml := Zac M;have hk1 : IntKind.i64.wrap ((k : Int) + 1) = (k : Int) + 1 := by rw [IntKind.wrap_i64]; omega
       have q00 : ((0 : Int) != 0) = false := rfl;have hnS : ¬ (S.length = 0) := by omega
       have hklI : (k : Int) < (M.length : Int) := by omega
       have hS1 : (1 : Int) ≤ (S.length : Int) := by omega
       have hc1 : (1 : Int) ≤ (cs : Int) := by omega
       unfold maxLen at hSc;have hs1 : (S.length : Int) - 1 = ((S.length - 1 : Nat) : Int) := by omega
       have hs2 : (cs : Int) - 1 = ((cs - 1 : Nat) : Int) := by omega
       clear HZ1 HZ2 HZ3 HZ4 hf hfi ha hk hrM;go_enter func57, ntmps57;go_wp2_with fail;refine HBe.out.mono ?_;rintro e w2 ⟨⟨v2, rfl, ho2⟩, hb2⟩;obtain ⟨A2, c2, rfl, g1, g2, g3⟩ := Zbc ho2;have HF2 := Zhd (HF.out w2 A2 c2 hb2 g3 g1 g2);have HP2 := Zhd g3;have HB2 := Zhd hb2;clear ho2 g3 hb2 HF HBe;go_wp2_with fail;refine HF2.out.mono ?_;rintro e w3 ⟨rfl, hb3⟩;have HB3 := Zhd (Zaa HB2.out hb3);have HP3 := Zhd (HP2.out.below hb3);have HA3 := Zhd (HA.out w3 A2 c2 HB3.out HP3.out g1 g2);clear hb3 HF2 HA HP2;go_wp2_with fail;refine HA3.out.mono ?_;rintro e w4 ⟨⟨A4, c4, rfl, g3, g4, -, -, hb4⟩, hown⟩;obtain ⟨v, e', ho4⟩ := hown trivial;obtain rfl : v = .slice A4 M.length c4 := by
        simp at e';exact e'.symm
       obtain ⟨m, hm⟩ : ∃ m, M.length = m + 1 := ⟨M.length - 1, by omega⟩
       have ho4' := ho4;rw [hm] at ho4';obtain ⟨q, cc, e4⟩ := Zck ho4';obtain ⟨rfl, rfl⟩ : A4 = some ⟨q, 0, none⟩ ∧ c4 = cc := by
        injection e4 with e1 _ e3
        exact ⟨e1, e3⟩
       have HB4 := Zhd (Zaa HB3.out hb4);have HB34 := Zhd hb4;have HFM4 := Zhd (HFM.out w4 A2 c2 (some ⟨q, 0, none⟩) c4 (Zkb ho4).1 g3 g4 (HP3.out.below hb4) g1 g2);have HO4 := Zhd ho4;clear hown e' e4 ho4' ho4 hb4 HA3 HFM hm;go_wp2_with fail;refine HFM4.out.mono ?_;rintro e w5 ⟨rfl, hb5⟩;have HB5 := Zhd (Zaa HB4.out hb5);have HB35 := Zhd (Zaa HB34.out hb5);have HO5 := Zhd (Zah HO4.out hb5)
       have x2 : w5.cell? ⟨q, k * 3 + 2, none⟩ = some ((lines M)[k * 3 + 2]'(by omega)) := by
        rw [HO5.out.cellAt (k * 3 + 2) (by omega)]
        exact Yag _
       have hfz : w5.frozen? ⟨q, k * 3 + 2, none⟩ = false := HO5.out.frozenAt _;have y2 := HY.out w5 HB5.out
       have HO6 : Hid ((w5.setCell ⟨q, k * 3 + 2, none⟩ (.int .i64 mk)).ownsRow w3.heap.size 62 3 (.slice (some ⟨q, 0, none⟩) (markB M k mk).length c4) (markB M k mk).length (lines (markB M k mk))) := by
        show World.ownsRow _ _ _ _ _ _ _;rw [hMl, HMs.out];exact (HO5.out.stored (k * 3 + 2) (.int .i64 mk)).1
       have hqb : w3.heap.size ≤ q := (HO5.out.lt q rfl).1;have HB36 := Zhd (HB35.out.setCell (p := ⟨q, k * 3 + 2, none⟩) hqb (.int .i64 mk));have HB6 := Zhd (HB5.out.setCell (p := ⟨q, k * 3 + 2, none⟩) (Yas HB3.out.size hqb) (.int .i64 mk));have HV6 := Zhd (HVR.out _ HB6.out);have hqB : q ≠ B := fun e => by have := HB3.out.size; omega
       clear hb5 HFM4 HO4 HO5 HB4 HB34 HB35 HB5 HVR HY;obtain ⟨w6, hw6⟩ : ∃ w6, w5.setCell ⟨q, k * 3 + 2, none⟩ (.int .i64 mk) = w6 := ⟨_, rfl⟩;rw [hw6] at HO6 HB36 HB6 HV6;by_cases hone : S.length = 1
       · have hV0 : S.drop 1 = [] := Ybd (by omega)
         have HK2 : Hid (z = (markB M k mk, 0)) := by
          show _ = _;rw [HK.out, hV0];unfold insMB;rw [Ybg, Ybk]
         have HIn := Zhd (fun Av vc => Zzp q M.length c4 (k + 1) Av vc w6 (by omega) g3 g4)
         have HRes : Hid (Lr w6 (.slice (some ⟨q, 0, none⟩) M.length c4) (markB M k mk)) := by
          have := Lr.own HO6.out
          rwa [hMl] at this
         clear HO6 HV6 HK hV0 HMs;by_cases hcs : cs = 1
         · subst hcs;rw [hone];go_wp2_with (go_at_call 78; refine (HIn.out _ _).mono ?_; rintro e w7 ⟨rfl, rfl⟩);go_ret2;rw [HK2.out];exact ⟨⟨_, rfl, HRes.out⟩, HB6.out⟩
         · have hcs2 : ¬ (1 = cs) := fun e => hcs e.symm
           rw [hone];go_wp2_with (go_at_call 78; refine (HIn.out _ _).mono ?_; rintro e w7 ⟨rfl, rfl⟩);go_ret2;rw [HK2.out];exact ⟨⟨_, rfl, HRes.out⟩, HB6.out⟩
       · have hcs : ¬ (cs = 1) := by omega
         have hcs2 : ¬ (1 = cs) := by omega
         have HIn := Zhd (Zzm w3 w6 _ (k + 1) B (O + 3) (cs - 1) (markB M k mk) (S.drop 1) HB36.out HO6.out (by omega) (by omega) (by omega) (by omega) HV6.out (fun e => hqB (by injection e)))
         rw [hMl, hVl] at HIn;clear HO6 HV6 HMs;go_wp2_with (go_at_call 78; refine HIn.out.mono ?_; rintro e w7 ⟨⟨v7, rfl, ho7⟩, hb7⟩);have HB7 := Zhd (Zaa HB3.out hb7);have HR7 := Zhd (Lr.own ho7);clear ho7 hb7;go_wp2;go_ret2;rw [HK.out];exact ⟨⟨_, rfl, HR7.out⟩, HB7.out⟩
     · have HK : Hid (z = (L, er)) := HZ3.out M er hfi hlong ha he;have qe : (er != 0) = true := by rw [bne_iff_ne]; exact he
       clear HZ1 HZ2 HZ3 HZ4 HY HVR hf hfi ha;go_enter func57, ntmps57;go_wp2_with fail;refine HBe.out.mono ?_;rintro e w2 ⟨⟨v2, rfl, ho2⟩, hb2⟩;obtain ⟨A2, c2, rfl, g1, g2, g3⟩ := Zbc ho2;have HF2 := Zhd (HF.out w2 A2 c2 hb2 g3 g1 g2);have HP2 := Zhd g3;have HB2 := Zhd hb2;clear ho2 g3 hb2 HF HBe;go_wp2_with fail;refine HF2.out.mono ?_;rintro e w3 ⟨rfl, hb3⟩;have HB3 := Zhd (Zaa HB2.out hb3);have HA3 := Zhd (HA.out w3 A2 c2 HB3.out (HP2.out.below hb3) g1 g2);clear hb3 HF2 HA HP2;go_wp2_with fail;refine HA3.out.mono ?_;rintro e w4 ⟨⟨A4, c4, rfl, g3, g4, -, -, hb4⟩, -⟩;have HB4 := Zhd (Zaa HB3.out hb4);clear hb4 HA3;go_wp2;go_ret2;rw [HK.out];exact ⟨⟨_, rfl, HL.out _ HB4.out⟩, HB4.out⟩
end Go.Proofs.Zq
namespace Edt
open Go Go.Lib Tre Lns
def Zbu (L : List Line) (k : Nat) : List Line := (L.drop k).take (endB L k - k)
def Zjd (L : List Line) (P : List ByteArray) (s : ByteArray) : List Line × Int :=
 if 40 < s.size then (L, 1) else if P.length = 0 then (L, 1) else match Zar L P with
  | none => (L, 3)
  | some k => if Zos L P then (L, 12) else Zcp L P s (Zbu L k)
def renB (L : List Line) (P : List ByteArray) (s : ByteArray) : List Line × Int :=
 if 40 < s.size then (L, 1) else if P.length = 0 then (L, 1) else match Zar L P with
  | none => (L, 3)
  | some k => if Zse L P k (endB L k) then (L, 12) else if (Zar L (P.dropLast ++ [s])).isSome then (L, 4)
    else if (Zcp (L.take k ++ L.drop (endB L k)) P s (Zbu L k)).2 ≠ 0 then (L, (Zcp (L.take k ++ L.drop (endB L k)) P s (Zbu L k)).2)
    else Zcp (L.take k ++ L.drop (endB L k)) P s (Zbu L k)
theorem Zho {L : List Line} {k : Nat} (hk : k < L.length) : (Zbu L k).length = endB L k - k := by
 have := Zbb L k hk;unfold Zbu;rw [Yad, Yam]; omega
theorem Zaxp {L : List Line} {P : List ByteArray} {s : ByteArray} (h : 40 < s.size) : Zjd L P s = (L, 1) := by unfold Zjd; rw [Yan h]
theorem Zaot {L : List Line} {P : List ByteArray} {s : ByteArray} (h : ¬ 40 < s.size) (h2 : P.length = 0) : Zjd L P s = (L, 1) := by unfold Zjd; rw [Yab h, Yan h2]
theorem Zais {L : List Line} {P : List ByteArray} {s : ByteArray} (h : ¬ 40 < s.size) (h2 : P.length ≠ 0) (hf : Zar L P = none) : Zjd L P s = (L, 3) := by unfold Zjd; rw [Yab h, Yab h2, hf]
theorem Zaht {L : List Line} {P : List ByteArray} {s : ByteArray} {k : Nat} (h : ¬ 40 < s.size) (h2 : P.length ≠ 0) (hf : Zar L P = some k) : Zjd L P s = if Zos L P then (L, 12) else Zcp L P s (Zbu L k) := by unfold Zjd; rw [Yab h, Yab h2, hf]
theorem Zaxy {L : List Line} {P : List ByteArray} {s : ByteArray} (h : 40 < s.size) : renB L P s = (L, 1) := by unfold renB; rw [Yan h]
theorem Zaui {L : List Line} {P : List ByteArray} {s : ByteArray} (h : ¬ 40 < s.size) (h2 : P.length = 0) : renB L P s = (L, 1) := by unfold renB; rw [Yab h, Yan h2]
theorem Zaqd {L : List Line} {P : List ByteArray} {s : ByteArray} (h : ¬ 40 < s.size) (h2 : P.length ≠ 0) (hf : Zar L P = none) : renB L P s = (L, 3) := by unfold renB; rw [Yab h, Yab h2, hf]
theorem Zapc {L : List Line} {P : List ByteArray} {s : ByteArray} {k : Nat} (h : ¬ 40 < s.size) (h2 : P.length ≠ 0) (hf : Zar L P = some k) (hs : Zse L P k (endB L k) = true) : renB L P s = (L, 12) := by unfold renB; rw [Yab h, Yab h2, hf]; simp only; rw [Yan hs]
theorem Zamr {L : List Line} {P : List ByteArray} {s : ByteArray} {k : Nat} (h : ¬ 40 < s.size) (h2 : P.length ≠ 0) (hf : Zar L P = some k) (hs : Zse L P k (endB L k) = false) (ht : (Zar L (P.dropLast ++ [s])).isSome = true) : renB L P s = (L, 4) := by unfold renB; rw [Yab h, Yab h2, hf]; simp only; rw [Yab (by rw [hs]; simp), Yan ht]
theorem Zawj {L : List Line} {P : List ByteArray} {s : ByteArray} {k : Nat} (h : ¬ 40 < s.size) (h2 : P.length ≠ 0) (hf : Zar L P = some k) (hs : Zse L P k (endB L k) = false) (ht : (Zar L (P.dropLast ++ [s])).isSome = false) {M : List Line} {er : Int} (hg : Zcp (L.take k ++ L.drop (endB L k)) P s (Zbu L k) = (M, er)) : renB L P s = if er ≠ 0 then (L, er) else (M, er) := by
 unfold renB; rw [Yab h, Yab h2, hf]; simp only; rw [Yab (by rw [hs]; simp), Yab (by rw [ht]; simp), hg]
end Edt
namespace Go.Proofs.Zq
open Tryz
open Go Go.RowKit Go.Sort Tre Lx Prs Lns Edt
theorem Zarj (A : Option Addr) (cap : Nat) (L : List Line) (Ap : Option Addr) (cp : Nat) (P : List ByteArray) (s : ByteArray) (w : World) (hR : Rd w 3 A L.length (lines L)) (hcap : L.length ≤ cap) (hc : cap ≤ maxLen) (hnil : A = none → cap = 0) (hr : Zab L = true) (hP : Rd w 1 Ap P.length (sv P)) (hcp : P.length ≤ cp) (hc2 : cp ≤ maxLen) (h16 : P.length ≤ 1000000) :
 Calls prog 29 #[.slice A L.length cap, .slice Ap P.length cp, .string s] w (Zhc (Zjd L P s) w) := by
 have HPa := Zhd (Zps A cap L Ap cp P w hR hcap hc hr hP hcp hc2);have HL : Hid (∀ W, Below w.heap.size w W → Lr W (.slice A L.length cap) L) := fun W hb => ⟨A, cap, rfl, hcap, hc, hR.below hb, hnil⟩
 have h200 := Zas hr;obtain ⟨z, hz⟩ : ∃ z, Zjd L P s = z := ⟨_, rfl⟩;have HZ := Zhd hz;unfold Zhc;rw [hz];clear hz;by_cases hw : 40 < s.size
 · have HK : Hid (z = (L, 1)) := by show _ = _; rw [← HZ.out, Zaxp hw]
   have hwI : (40 : Int) < (s.size : Int) := by omega
   clear HZ hR hP hr HPa;go_enter func29, ntmps29;go_wp2;go_ret2;rw [HK.out];exact ⟨⟨_, rfl, HL.out _ (Yac _ _)⟩, Yac _ _⟩
 · have hwI : ¬ (40 : Int) < (s.size : Int) := by omega
   by_cases h0 : P.length = 0
   · have HK : Hid (z = (L, 1)) := by show _ = _; rw [← HZ.out, Zaot hw h0]
     rw [Zmz h0] at HPa;clear HZ hR hP hr h0;go_enter func29, ntmps29;go_wp2_with fail;refine HPa.out.mono ?_;rintro e w2 ⟨rfl, hb2⟩;go_wp2;go_ret2;rw [HK.out];exact ⟨⟨_, rfl, HL.out _ hb2⟩, hb2⟩
   · cases hf : Zar L P with
     | none =>
       have HK : Hid (z = (L, 3)) := by show _ = _; rw [← HZ.out, Zais hw h0 hf]
       rw [Zjo h0 hf] at HPa;clear HZ hR hP hr h0 hf;go_enter func29, ntmps29;go_wp2_with fail;refine HPa.out.mono ?_;rintro e w2 ⟨rfl, hb2⟩;go_wp2;go_ret2;rw [HK.out];exact ⟨⟨_, rfl, HL.out _ hb2⟩, hb2⟩
     | some k =>
       have hk := Zcd hf;have he := Zbb L k hk;rw [Zjk h0 hf] at HPa;have HAb := Zhd (fun (W : World) (hbw : Below w.heap.size w W) => Zym A cap L Ap cp P W (hR.below hbw) hcap hc hr (hP.below hbw) hcp hc2 h0)
       have hZ2 := HZ.out.symm.trans (Zaht hw h0 hf);obtain ⟨B, O, rfl, hab, hadd, -, -, -⟩ := hR.line hk;have hpl := Zho hk
       have HG : Hid (∀ W, Below w.heap.size w W → Calls prog 57 #[.slice (some ⟨B, O, none⟩) L.length cap, .slice Ap P.length cp, .string s, .slice (some ⟨B, O + k * 3, none⟩) (endB L k - k) (cap - k)] W (Zhc (Zcp L P s (Zbu L k)) W)) := fun W hb => by
        have h1 : Rd w 3 (some ⟨B, O + k * 3, none⟩) (endB L k - k) (lines (Zbu L k)) := Zwa (by rw [Yam]; exact Zrf hR (Yeh hk)) (by rw [Yam]; omega)
        have h := Zye (some ⟨B, O, none⟩) cap L Ap cp P s (some ⟨B, O + k * 3, none⟩) (cap - k) (Zbu L k) W (hR.below hb) hcap hc hnil hr (hP.below hb) hcp hc2 h0 h16 (by rw [hpl]; exact h1.below hb) (by omega) (by omega) (by omega) (by omega)
        rw [hpl] at h;exact h
       unfold Zhc at HG;generalize endB L k = E at *;generalize Zcp L P s (Zbu L k) = G at *;unfold maxLen at hc;have hsub : (E : Int) - (k : Int) = ((E - k : Nat) : Int) := by omega
       have hsub2 : (cap : Int) - (k : Int) = ((cap - k : Nat) : Int) := by omega
       have hnE : (k : Int) ≤ (E : Int) := by omega
       have hEc : (E : Int) ≤ (cap : Int) := by omega
       have hnc : ¬ (cap = k) := by omega
       have hnc2 : ¬ (k = cap) := by omega
       cases hab2 : Zos L P with
       | true =>
         rw [hab2] at HAb hZ2;have HK : Hid (z = (L, 12)) := hZ2;clear hZ2 HZ hR hP hr h0 hf hk HG hab2 hadd;go_enter func29, ntmps29;go_wp2_with fail;refine HPa.out.mono ?_;rintro e w2 ⟨rfl, hb2⟩;have HA2 := Zhd (HAb.out w2 hb2);have HB2 := Zhd hb2;clear hb2;go_wp2_with fail;refine HA2.out.mono ?_;rintro e w3 ⟨rfl, hb3⟩;have HB3 := Zhd (Zaa HB2.out hb3);clear hb3;go_wp2;go_ret2;rw [HK.out];exact ⟨⟨_, rfl, HL.out _ HB3.out⟩, HB3.out⟩
       | false =>
         rw [hab2] at HAb hZ2;have HK : Hid (z = G) := hZ2;clear hZ2 HZ hR hP hr h0 hf hk hab2 hadd;go_enter func29, ntmps29;go_wp2_with fail;refine HPa.out.mono ?_;rintro e w2 ⟨rfl, hb2⟩;have HA2 := Zhd (HAb.out w2 hb2);have HB2 := Zhd hb2;clear hb2;go_wp2_with fail;refine HA2.out.mono ?_;rintro e w3 ⟨rfl, hb3⟩;have HB3 := Zhd (Zaa HB2.out hb3);have HG3 := Zhd (HG.out w3 HB3.out);clear hb3 HG;go_wp2_with fail;refine HG3.out.mono ?_;rintro e w4 ⟨⟨v4, rfl, hv4⟩, hb4⟩;have HB4 := Zhd (Zaa HB3.out hb4);have HV4 := Zhd hv4;clear hb4 hv4;go_wp2;go_ret2;rw [HK.out];exact ⟨⟨_, rfl, HV4.out⟩, HB4.out⟩
theorem Zavh (A : Option Addr) (cap : Nat) (L : List Line) (Ap : Option Addr) (cp : Nat) (P : List ByteArray) (s : ByteArray) (w : World) (hR : Rd w 3 A L.length (lines L)) (hcap : L.length ≤ cap) (hc : cap ≤ maxLen) (hnil : A = none → cap = 0) (hr : Zab L = true) (hP : Rd w 1 Ap P.length (sv P)) (hcp : P.length ≤ cp) (hc2 : cp ≤ maxLen) (h16 : P.length ≤ 1000000) :
 Calls prog 28 #[.slice A L.length cap, .slice Ap P.length cp, .string s] w (Zhc (renB L P s) w) := by
 have HPa := Zhd (Zps A cap L Ap cp P w hR hcap hc hr hP hcp hc2);have HL : Hid (∀ W, Below w.heap.size w W → Lr W (.slice A L.length cap) L) := fun W hb => ⟨A, cap, rfl, hcap, hc, hR.below hb, hnil⟩
 have h200 := Zas hr;obtain ⟨z, hz⟩ : ∃ z, renB L P s = z := ⟨_, rfl⟩;have HZ := Zhd hz;unfold Zhc;rw [hz];clear hz;by_cases hw : 40 < s.size
 · have HK : Hid (z = (L, 1)) := by show _ = _; rw [← HZ.out, Zaxy hw]
   have hwI : (40 : Int) < (s.size : Int) := by omega
   clear HZ hR hP hr HPa;go_enter func28, ntmps28;go_wp2;go_ret2;rw [HK.out];exact ⟨⟨_, rfl, HL.out _ (Yac _ _)⟩, Yac _ _⟩
 · have hwI : ¬ (40 : Int) < (s.size : Int) := by omega
   by_cases h0 : P.length = 0
   · have HK : Hid (z = (L, 1)) := by show _ = _; rw [← HZ.out, Zaui hw h0]
     rw [Zmz h0] at HPa;clear HZ hR hP hr h0;go_enter func28, ntmps28;go_wp2_with fail;refine HPa.out.mono ?_;rintro e w2 ⟨rfl, hb2⟩;go_wp2;go_ret2;rw [HK.out];exact ⟨⟨_, rfl, HL.out _ hb2⟩, hb2⟩
   · cases hf : Zar L P with
     | none =>
       have HK : Hid (z = (L, 3)) := by show _ = _; rw [← HZ.out, Zaqd hw h0 hf]
       rw [Zjo h0 hf] at HPa;clear HZ hR hP hr h0 hf;go_enter func28, ntmps28;go_wp2_with fail;refine HPa.out.mono ?_;rintro e w2 ⟨rfl, hb2⟩;go_wp2;go_ret2;rw [HK.out];exact ⟨⟨_, rfl, HL.out _ hb2⟩, hb2⟩
     | some k =>
       have hk := Zcd hf;have he := Zbb L k hk;have hcr : Zab (L.take k ++ L.drop (endB L k)) = true := (Zalh hr hk).1;rw [Zjk h0 hf] at HPa;have HSh := Zhd (fun (W : World) (hb : Below w.heap.size w W) => Zadl A cap L Ap cp P k (endB L k) W (hR.below hb) hcap hc hr (hP.below hb) hcp hc2 hk (by omega) (by omega))
       have HCl := Zhd (fun (W : World) (hb : Below w.heap.size w W) => Zef A cap L W (hR.below hb) hnil (by omega))
       have HBe := Zhd (fun (W : World) (hb : Below w.heap.size w W) => Ztl Ap cp P s W (hP.below hb) hcp hc2 h0 h16)
       have hTl : (P.dropLast ++ [s]).length = P.length := by rw [Yaj, Ycn, Yby]; omega
       have HF := Zhd (fun (W : World) (A2 : Option Addr) (c2 : Nat) (hb : Below w.heap.size w W) (hP2 : Rd W 1 A2 P.length (sv (P.dropLast ++ [s]))) (g1 : P.length ≤ c2) (g2 : c2 ≤ maxLen) => Zbr A cap L A2 c2 (P.dropLast ++ [s]) W (hR.below hb) hcap hc hr (by rw [hTl]; exact hP2) (by rw [hTl]; exact g1) g2)
       rw [hTl] at HF;have HZs := Zhd (fun h => HZ.out.symm.trans (Zapc hw h0 hf h))
       have HZt := Zhd (fun h h2 => HZ.out.symm.trans (Zamr hw h0 hf h h2))
       have HZg := Zhd (fun M er h h2 (h3 : Zcp (L.take k ++ L.drop (endB L k)) P s (Zbu L k) = (M, er)) => HZ.out.symm.trans (Zawj hw h0 hf h h2 h3))
       obtain ⟨B, O, rfl, hab, hadd, -, -, -⟩ := hR.line hk;have hpl := Zho hk;have hcl2 : (L.take k ++ L.drop (endB L k)).length = k + (L.length - endB L k) := by rw [Yaj, Yad, Yam]; omega
       have HSub : Hid (∀ W, Below w.heap.size w W → Calls prog 54 #[.slice (some ⟨B, O + k * 3, none⟩) (endB L k - k) (cap - k)] W (Zcc W (Zbu L k))) := fun W hb => by
        have h1 : Rd w 3 (some ⟨B, O + k * 3, none⟩) (endB L k - k) (lines (Zbu L k)) := Zwa (by rw [Yam]; exact Zrf hR (Yeh hk)) (by rw [Yam]; omega)
        have := Zef (some ⟨B, O + k * 3, none⟩) (cap - k) (Zbu L k) W (by rw [hpl]; exact h1.below hb) (fun h => by cases h) (by omega)
        rw [hpl] at this;exact this
       unfold Zcc at HCl HSub;rw [hpl] at HSub
       have HG : Hid (∀ W (q cc : Nat) (As : Option Addr) (cs : Nat), Below w.heap.size w W → Rd W 3 (some ⟨q, 0, none⟩) (k + (L.length - endB L k)) (lines (L.take k ++ L.drop (endB L k))) → k + (L.length - endB L k) ≤ cc → cc ≤ maxLen → Rd W 3 As (endB L k - k) (lines (Zbu L k)) → endB L k - k ≤ cs → cs ≤ maxLen →
        Calls prog 57 #[.slice (some ⟨q, 0, none⟩) (k + (L.length - endB L k)) cc, .slice Ap P.length cp, .string s, .slice As (endB L k - k) cs] W (Zhc (Zcp (L.take k ++ L.drop (endB L k)) P s (Zbu L k)) W)) := fun W q cc As cs hb h1 h2 h3 h4 h5 h6 => by
        have h := Zye (some ⟨q, 0, none⟩) cc (L.take k ++ L.drop (endB L k)) Ap cp P s As cs (Zbu L k) W (by rw [hcl2]; exact h1) (by rw [hcl2]; exact h2) h3 (fun h => by cases h) hcr (hP.below hb) hcp hc2 h0 h16 (by rw [hpl]; exact h4) (by omega) (by omega) h6 (by omega)
        rw [hpl, hcl2] at h;exact h
       have HDl := Zhd (fun (W : World) (base q cc : Nat) (ho : W.ownsRow base 62 3 (.slice (some ⟨q, 0, none⟩) L.length cc) L.length (lines L)) (h1 : L.length ≤ cc) (h2 : cc ≤ maxLen) => Zaml q cc k (endB L k) base L W ho (by omega) (by omega) h1 h2 (by omega))
       unfold Zhc at HG;unfold Zte at HDl;obtain ⟨G, hG⟩ : ∃ G, Zcp (L.take k ++ L.drop (endB L k)) P s (Zbu L k) = G := ⟨_, rfl⟩;rw [hG] at HG HZg;obtain ⟨M, er⟩ := G;simp only at HG;generalize hT : P.dropLast ++ [s] = T at *;generalize endB L k = E at *;generalize Zbu L k = S at *;unfold maxLen at hc;have hsub : (E : Int) - (k : Int) = ((E - k : Nat) : Int) := by omega
       have hsub2 : (cap : Int) - (k : Int) = ((cap - k : Nat) : Int) := by omega
       have hnE : (k : Int) ≤ (E : Int) := by omega
       have hEc : (E : Int) ≤ (cap : Int) := by omega
       have hnc : ¬ (cap = k) := by omega
       have hnc2 : ¬ (k = cap) := by omega
       clear HZ hR hP hr h0 hcr hcl2 hpl hTl hG hadd;cases hs : Zse L P k E with
       | true =>
         rw [hs] at HSh;have HK : Hid (z = (L, 12)) := HZs.out hs;clear HZs HZt HZg HG HDl HSub HCl HBe HF hf hs;go_enter func28, ntmps28;go_wp2_with fail;refine HPa.out.mono ?_;rintro e w2 ⟨rfl, hb2⟩;have HA2 := Zhd (HSh.out w2 hb2);have HB2 := Zhd hb2;clear hb2;go_wp2_with fail;refine HA2.out.mono ?_;rintro e w3 ⟨rfl, hb3⟩;have HB3 := Zhd (Zaa HB2.out hb3);clear hb3;go_wp2;go_ret2;rw [HK.out];exact ⟨⟨_, rfl, HL.out _ HB3.out⟩, HB3.out⟩
       | false =>
         rw [hs] at HSh;cases ht : Zar L T with
         | some k0 =>
           rw [ht] at HF;have HK : Hid (z = (L, 4)) := HZt.out hs (by rw [ht]; rfl)
           clear HZs HZt HZg HG HDl HSub HCl hf hs ht;go_enter func28, ntmps28;go_wp2_with fail;refine HPa.out.mono ?_;rintro e w2 ⟨rfl, hb2⟩;have HA2 := Zhd (HSh.out w2 hb2);have HB2 := Zhd hb2;clear hb2;go_wp2_with fail;refine HA2.out.mono ?_;rintro e w3 ⟨rfl, hb3⟩;have HB3 := Zhd (Zaa HB2.out hb3);have HBe3 := Zhd (HBe.out w3 HB3.out);clear hb3 HBe;go_wp2_with fail;refine HBe3.out.mono ?_;rintro e w4 ⟨⟨v4, rfl, ho4⟩, hb4⟩;obtain ⟨A4, c4, rfl, g1, g2, g3⟩ := Zbc ho4;have HB4 := Zhd (Zaa HB3.out hb4);have HF4 := Zhd (HF.out w4 A4 c4 HB4.out g3 g1 g2);clear ho4 g3 hb4 HF HBe3;go_wp2_with fail;refine HF4.out.mono ?_;rintro e w5 ⟨rfl, hb5⟩;have HB5 := Zhd (Zaa HB4.out hb5);clear hb5;go_wp2;go_ret2;rw [HK.out];exact ⟨⟨_, rfl, HL.out _ HB5.out⟩, HB5.out⟩
         | none =>
           rw [ht] at HF;have HK : Hid (z = if er ≠ 0 then (L, er) else (M, er)) := HZg.out M er hs (by rw [ht]; rfl) rfl
           clear HZs HZt HZg hf hs ht;go_enter func28, ntmps28;go_wp2_with fail;refine HPa.out.mono ?_;rintro e w2 ⟨rfl, hb2⟩;have HA2 := Zhd (HSh.out w2 hb2);have HB2 := Zhd hb2;clear hb2;go_wp2_with fail;refine HA2.out.mono ?_;rintro e w3 ⟨rfl, hb3⟩;have HB3 := Zhd (Zaa HB2.out hb3);have HBe3 := Zhd (HBe.out w3 HB3.out);clear hb3 HBe HB2 HA2 HSh HPa;go_wp2_with fail;refine HBe3.out.mono ?_;rintro e w4 ⟨⟨v4, rfl, ho4⟩, hb4⟩;obtain ⟨A4, c4, rfl, g1, g2, g3⟩ := Zbc ho4;have HB4 := Zhd (Zaa HB3.out hb4);have HF4 := Zhd (HF.out w4 A4 c4 HB4.out g3 g1 g2);clear ho4 g3 hb4 HF HBe3 HB3;go_wp2_with fail;refine HF4.out.mono ?_;rintro e w5 ⟨rfl, hb5⟩;have HB5 := Zhd (Zaa HB4.out hb5);have HS5 := Zhd (HSub.out w5 HB5.out);clear hb5 HF4 HB4 HSub g1 g2;go_wp2_with fail;refine HS5.out.mono ?_;rintro e w6 ⟨⟨v6, rfl, ho6⟩, hb6⟩;obtain ⟨A6, c6, rfl, g1, g2, g3⟩ := Zbc ho6;have HB6 := Zhd (Zaa HB5.out hb6);have HS6 := Zhd g3;have HC6 := Zhd (HCl.out w6 HB6.out);clear ho6 g3 hb6 HS5 HB5 HCl;go_wp2_with fail;refine HC6.out.mono ?_;rintro e w7 ⟨⟨v7, rfl, ho7⟩, hb7⟩;obtain ⟨m, hm⟩ : ∃ m, L.length = m + 1 := ⟨L.length - 1, by omega⟩
           have ho7' := ho7;rw [hm] at ho7';obtain ⟨q, cc, rfl⟩ := Zck ho7';rw [← hm] at ho7 ⊢;obtain ⟨A8, c8, e8, hn8, hm8, -⟩ := Zbc ho7;obtain ⟨rfl, rfl⟩ : A8 = some ⟨q, 0, none⟩ ∧ cc = c8 := by
            injection e8 with e1 _ e3
            exact ⟨e1.symm, e3⟩
           have HD := Zhd (HDl.out w7 _ q cc ho7 hn8 hm8);have HB7 := Zhd (Zaa HB6.out hb7);have HB67 := Zhd hb7;have hz6 := HB6.out.size;clear ho7 ho7' hm e8 hb7 HC6 HDl;go_wp2_with fail;refine HD.out.mono ?_;rintro e w8 ⟨rfl, hrd, hb8⟩;have HB68 := Zhd (HB67.out.trans hb8);have HB8 := Zhd (HB6.out.trans (HB68.out.mono hz6));have HS8 := Zhd (HS6.out.below HB68.out);have HR8 := Zhd hrd;have HG8 := Zhd (HG.out w8 q cc A6 c6 HB8.out HR8.out (by omega) hm8 HS8.out g1 g2)
           clear hrd hb8 HD HG HS6 HB67 HB68 HB7;go_wp2_with fail;refine HG8.out.mono ?_;rintro e w9 ⟨⟨v9, rfl, hv9⟩, hb9⟩;have HB9 := Zhd (Zaa HB8.out hb9);have HV9 := Zhd hv9;clear hb9 hv9 HG8 HR8 HS8;by_cases he0 : er = 0
           · subst he0;have q00 : ((0 : Int) != 0) = false := rfl;have HK2 : Hid (z = (M, 0)) := HK.out;clear HK;go_wp2;go_ret2;rw [HK2.out];exact ⟨⟨_, rfl, HV9.out⟩, HB9.out⟩
           · have qe : (er != 0) = true := by rw [bne_iff_ne]; exact he0
             have HK2 : Hid (z = (L, er)) := by show _ = _; rw [HK.out, Yan he0]
             clear HK;go_wp2;go_ret2;rw [HK2.out];exact ⟨⟨_, rfl, HL.out _ HB9.out⟩, HB9.out⟩
end Go.Proofs.Zq
