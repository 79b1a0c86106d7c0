import Derived.Test.YtdamidelojccaaaGreatDoorJ29
set_option linter.unusedVariables false
set_option linter.unusedSimpArgs false
set_option maxHeartbeats 2000000
set_option maxRecDepth 100000
namespace Edt
open Go Go.Lib Tre Sch Lns
def Zcx (L : List Line) (P : List ByteArray) : List ByteArray :=
 match Zar L P with
 | some k => (kidsB L k).map (Zbd L)
 | none => if P.length = 0 then (Zaq L).map (Zbd L) else []
end Edt
namespace Go.Proofs.Zq
open Tryz
open Go Go.RowKit Go.Sort Tre Lx Prs Lns Edt Sch
theorem Zmx {α β : Type} (f : α → β) (l : List α) {k : Nat} (h : k < l.length) : (l.take (k + 1)).map f = (l.take k).map f ++ [f l[k]] := by
 rw [Yau h, Ybs]; rfl
theorem Zqb (v p : Value) (L : List Line) (P : List ByteArray) (w : World) (hL : Lr w v L) (hr : Zab L = true) (hP : Pr w p P) :
 Calls prog 41 #[v, p] w fun e w' => (∃ v', e = .returned v' ∧ w'.ownsRow w.heap.size 9 1 v' (Zcx L P).length (sv (Zcx L P))) ∧ Below w.heap.size w w' := by
 obtain ⟨i0, hi, hz0, hz1, hz2⟩ := info_parts Zdx;obtain ⟨A, cap, rfl, hcap, hc, hR, hnil⟩ := hL;obtain ⟨Ap, cp, rfl, hcp, hc2, hPr⟩ := hP;have hFi := Zbr A cap L Ap cp P w hR hcap hc hr hPr hcp hc2;have h200 := Zas hr;have HR := Zhd hR;by_cases hno : Zar L P = none ∧ P.length ≠ 0
 · have hW : Zcx L P = [] := by unfold Zcx; rw [hno.1]; simp only; rw [Yab hno.2]
   rw [hno.1] at hFi;have HF := Zhd hFi;have hp0 : (0 : Int) < (P.length : Int) := by omega
   rw [hW];clear hR hr hPr hFi hno hW HR;go_enter func41, ntmps41;go_wp2_with fail;refine HF.out.mono ?_;rintro e w2 ⟨rfl, hb2⟩;go_wp2;go_ret;exact ⟨⟨_, rfl, World.ownsRow_nil _ _ _ _⟩, hb2⟩
 · have hcase : (∃ k, Zar L P = some k ∧ k < L.length) ∨ (Zar L P = none ∧ P = []) := by
    cases hf : Zar L P with
    | some k => exact .inl ⟨k, rfl, Zcd hf⟩
    | none => exact .inr ⟨rfl, Classical.byContradiction fun h => hno ⟨hf, fun h0 => h (Yaq h0)⟩⟩
   rcases hcase with ⟨k, hf, hk⟩ | ⟨hf, rfl⟩
   · rw [hf, show Zou (some k) = (k : Int) from rfl] at hFi;have HF := Zhd hFi;have hW : Zcx L P = (kidsB L k).map (Zbd L) := by unfold Zcx; rw [hf]
     have HKd := Zhd (fun (W : World) (hb : Below w.heap.size w W) => Znj A cap L k W (hR.below hb) hcap hc hr hk)
     have HKl : Hid (∀ j (hj : j < (kidsB L k).length), (kidsB L k)[j] < L.length) := fun j hj => by
      have h1 := (Zba.1 (Yat hj)).1;have h2 := (Zbb L k hk).2;omega
     have hkl : (kidsB L k).length ≤ L.length := Yas (kidsTo_len _ _ _ _) (Zbb L k hk).2;rw [hW];unfold Zgp at HKd;clear hR hr hPr hFi hf hno hW;generalize kidsB L k = K at *;go_enter func41, ntmps41;go_wp2_with fail;refine HF.out.mono ?_;rintro e w2 ⟨rfl, hb2⟩;have HB2 := Zhd hb2;have HK2 := Zhd (HKd.out w2 HB2.out);clear hb2 HF HKd;go_wp2_with fail;refine HK2.out.mono ?_;rintro e w3 ⟨Ak, ck, rfl, -, -, hRk, hb3⟩;have HB3 := Zhd (Zaa HB2.out hb3);have HRk := Zhd hRk;have HR3 := Zhd (HR.out.below HB3.out);clear hRk hb3 HK2 HB2 HR;go_wp2;go_loopw [7, 29] (fun vo vj wr => ∃ j : Nat, vj = .int .i64 j ∧ j ≤ K.length ∧ Hid (wr.ownsRow w3.heap.size 9 1 vo ((K.take j).map (Zbd L)).length (sv ((K.take j).map (Zbd L)))) ∧ Hid (Below w3.heap.size w3 wr)) (fun _ vj _ => K.length - (intOf vj).toNat)
     case atStart => exact ⟨0, rfl, Yav _, World.ownsRow_nil _ _ _ _, Yac _ _⟩
     case round =>
      obtain ⟨j, rfl, hj', HO, HB⟩ := hrel;by_cases hlt : j < K.length
      · have hil := HKl.out j hlt;obtain ⟨bk, ok, rfl, habk, haddk, xk⟩ := HRk.out.intAt hlt;have x0 := (HB.out.cell (p := ⟨bk, ok + j, none⟩) habk).trans xk;have HS := Zhd (Zmx (Zbd L) K hlt);have hwd : Zbd L K[j] = L[K[j]].word := Zbi hil;rw [hwd] at HS;obtain ⟨B, O, rfl, hab, hadd, -, y1, -⟩ := HR3.out.line hil;have x1 := (HB.out.cell (p := ⟨B, O + K[j] * 3 + 1, none⟩) hab).trans y1;have hjI : (j : Int) < (K.length : Int) := by omega
        have hiI : (K[j] : Int) < (L.length : Int) := by omega
        have hll : ((K.take j).map (Zbd L)).length ≤ 200 := by rw [Yax, Yad]; omega
        generalize L[K[j]].word = sw at *;generalize K[j] = i at *;clear hwd y1 xk;go_wp2_with (at_builtin; refine Zfn rfl _ _ 33 rfl w3 wr 9 i0 _ 1 16 underlying33 hi hz0 hz1 hz2 rfl (by decide) (by decide) HO.out HB.out rfl 1 1 [.string sw] rfl rfl (by simp; rfl) (by omega) ?_; intro v4 w4 hown4 hb4)
        have ho4 := Zfg hown4;rw [← HS.out] at ho4;have HO4 := Zhd ho4;have HB4 := Zhd hb4;clear ho4 hown4 hb4 HO HB x0 x1;go_wp2_with fail;go_roundw
        case rel => exact ⟨j + 1, by go_num, by omega, HO4, HB4⟩
        case measure => simp [intOf]; omega
      · have ho := HO.out;rw [Ybj (by omega)] at ho
        have HO2 := Zhd ho;have hnI : ¬ ((j : Int) < (K.length : Int)) := by omega
        have HBf := Zhd (Zaa HB3.out HB.out);have hz3 := HB3.out.size;clear ho HO;go_wp2;go_ret;exact ⟨⟨_, rfl, (by have h := HO2.out.mono hz3; rw [Yax] at h; exact h)⟩, HBf.out⟩
   · rw [hf] at hFi;have HF := Zhd hFi;have hW : Zcx L [] = (Zaq L).map (Zbd L) := by unfold Zcx; rw [hf]; rfl
     have HKd := Zhd (fun (W : World) (hb : Below w.heap.size w W) => Zuz A cap L W (hR.below hb) hcap hc hr)
     have HKl : Hid (∀ j (hj : j < (Zaq L).length), (Zaq L)[j] < L.length) := fun j hj => (Zba.1 (Yat hj)).1
     have hkl : (Zaq L).length ≤ L.length := kidsTo_len _ _ _ _;rw [hW];unfold Zgp at HKd;clear hR hr hPr hFi hf hno hW;generalize Zaq L = K at *;go_enter func41, ntmps41;go_wp2_with fail;refine HF.out.mono ?_;rintro e w2 ⟨rfl, hb2⟩;have HB2 := Zhd hb2;have HK2 := Zhd (HKd.out w2 HB2.out);clear hb2 HF HKd;go_wp2_with fail;refine HK2.out.mono ?_;rintro e w3 ⟨Ak, ck, rfl, -, -, hRk, hb3⟩;have HB3 := Zhd (Zaa HB2.out hb3);have HRk := Zhd hRk;have HR3 := Zhd (HR.out.below HB3.out);clear hRk hb3 HK2 HB2 HR;go_wp2;go_loopw [7, 29] (fun vo vj wr => ∃ j : Nat, vj = .int .i64 j ∧ j ≤ K.length ∧ Hid (wr.ownsRow w3.heap.size 9 1 vo ((K.take j).map (Zbd L)).length (sv ((K.take j).map (Zbd L)))) ∧ Hid (Below w3.heap.size w3 wr)) (fun _ vj _ => K.length - (intOf vj).toNat)
     case atStart => exact ⟨0, rfl, Yav _, World.ownsRow_nil _ _ _ _, Yac _ _⟩
     case round =>
      obtain ⟨j, rfl, hj', HO, HB⟩ := hrel;by_cases hlt : j < K.length
      · have hil := HKl.out j hlt;obtain ⟨bk, ok, rfl, habk, haddk, xk⟩ := HRk.out.intAt hlt;have x0 := (HB.out.cell (p := ⟨bk, ok + j, none⟩) habk).trans xk;have HS := Zhd (Zmx (Zbd L) K hlt);have hwd : Zbd L K[j] = L[K[j]].word := Zbi hil;rw [hwd] at HS;obtain ⟨B, O, rfl, hab, hadd, -, y1, -⟩ := HR3.out.line hil;have x1 := (HB.out.cell (p := ⟨B, O + K[j] * 3 + 1, none⟩) hab).trans y1;have hjI : (j : Int) < (K.length : Int) := by omega
        have hiI : (K[j] : Int) < (L.length : Int) := by omega
        have hll : ((K.take j).map (Zbd L)).length ≤ 200 := by rw [Yax, Yad]; omega
        generalize L[K[j]].word = sw at *;generalize K[j] = i at *;clear hwd y1 xk;go_wp2_with (at_builtin; refine Zfn rfl _ _ 33 rfl w3 wr 9 i0 _ 1 16 underlying33 hi hz0 hz1 hz2 rfl (by decide) (by decide) HO.out HB.out rfl 1 1 [.string sw] rfl rfl (by simp; rfl) (by omega) ?_; intro v4 w4 hown4 hb4)
        have ho4 := Zfg hown4;rw [← HS.out] at ho4;have HO4 := Zhd ho4;have HB4 := Zhd hb4;clear ho4 hown4 hb4 HO HB x0 x1;go_wp2_with fail;go_roundw
        case rel => exact ⟨j + 1, by go_num, by omega, HO4, HB4⟩
        case measure => simp [intOf]; omega
      · have ho := HO.out;rw [Ybj (by omega)] at ho
        have HO2 := Zhd ho;have hnI : ¬ ((j : Int) < (K.length : Int)) := by omega
        have HBf := Zhd (Zaa HB3.out HB.out);have hz3 := HB3.out.size;clear ho HO;go_wp2;go_ret;exact ⟨⟨_, rfl, (by have h := HO2.out.mono hz3; rw [Yax] at h; exact h)⟩, HBf.out⟩
end Go.Proofs.Zq
namespace Edt
open Go Go.Lib Tre Sch Lns
def Zvx : ByteArray := ⟨#[42]⟩
def Zmg : List ByteArray → Option Nat
 | [] => none
 | z :: r => if z = Zvx then some 0 else (Zmg r).map (· + 1)
theorem Zrc : ∀ (zs : List ByteArray) (i : Nat), idxFromS zs Zvx i = match Zmg zs with | some k => ((i + k : Nat) : Int) | none => -1
 | [], i => rfl
 | z :: r, i => by
   unfold idxFromS Zmg;by_cases h : z = Zvx
   · rw [Yan h, Yan h]; rfl
   · rw [Yab h, Yab h, Zrc r (i + 1)];cases Zmg r with
     | none => rfl
     | some k => show ((i + 1 + k : Nat) : Int) = ((i + (k + 1) : Nat) : Int); omega
theorem Zmy : ∀ {zs : List ByteArray} {k : Nat}, Zmg zs = some k → k < zs.length
 | [], k, h => by cases h
 | z :: r, k, h => by
   unfold Zmg at h;split at h
   · injection h with h; subst h; simp
   · cases hq : Zmg r with
     | none => rw [hq] at h; cases h
     | some j =>
       rw [hq] at h;injection h with h
       subst h;have := Zmy hq;simp; omega
def Zje (X : List Line) : Nat → List ByteArray → Nat → List (List ByteArray)
 | 0, P, _ => [P]
 | f + 1, P, n => match Zmg (P.drop n) with
   | none => [P]
   | some a => (Zcx X (P.take (n + a))).flatMap fun s => Zje X f (P.set (n + a) s) (n + a + 1)
def Zmf (X : List Line) (P : List ByteArray) (n : Nat) : List (List ByteArray) := Zje X (P.length - n) P n
theorem Zado {P : List ByteArray} {n : Nat} (h : P.length ≤ n) : Zmg (P.drop n) = none := by rw [Ybd h]; rfl
theorem Zti (X : List Line) : ∀ (f g : Nat) (P : List ByteArray) (n : Nat), P.length - n ≤ f → P.length - n ≤ g → Zje X f P n = Zje X g P n
 | 0, 0, _, _, _, _ => rfl
 | 0, g + 1, P, n, h, _ => by unfold Zje; rw [Zado (by omega)]
 | f + 1, 0, P, n, _, h => by unfold Zje; rw [Zado (by omega)]
 | f + 1, g + 1, P, n, h1, h2 => by
   unfold Zje;cases hs : Zmg (P.drop n) with
   | none => rfl
   | some a =>
     have := Zmy hs;rw [Yam] at this;simp only;congr 1;funext s;exact Zti X f g _ _ (by rw [Ycl]; omega) (by rw [Ycl]; omega)
theorem Zahy {X : List Line} {P : List ByteArray} {n : Nat} (h : Zmg (P.drop n) = none) : Zmf X P n = [P] := by
 unfold Zmf;cases hf : P.length - n with
 | zero => rfl
 | succ f => unfold Zje; rw [h]
theorem Zake {X : List Line} {P : List ByteArray} {n a : Nat} (h : Zmg (P.drop n) = some a) : Zmf X P n = (Zcx X (P.take (n + a))).flatMap fun s => Zmf X (P.set (n + a) s) (n + a + 1) := by
 have h2 := Zmy h;rw [Yam] at h2;unfold Zmf;obtain ⟨f, hf⟩ : ∃ f, P.length - n = f + 1 := ⟨P.length - n - 1, by omega⟩
 rw [hf]
 conv => lhs; unfold Zje
 rw [h];simp only;congr 1;funext s;exact Zti X _ _ _ _ (by rw [Ycl]; omega) (Yaf _)
def cntU (X : List Line) (U : List ByteArray) : Nat := (Zaf X).countP (preB U)
theorem Zarb (U : List ByteArray) : preB U U = true := Zbg.2 ⟨[], by rw [Ybg]⟩
theorem Zasr {U V Q : List ByteArray} (h : preB (U ++ V) Q = true) : preB U Q = true := by
 obtain ⟨s, hs⟩ := Zbg.1 h;exact Zbg.2 ⟨V ++ s, by rw [hs, Ybl]⟩
theorem Zawp {X : List Line} {U V : List ByteArray} : cntU X (U ++ V) ≤ cntU X U := List.countP_mono_left fun _ _ h => Zasr h
theorem Zavv {X : List Line} {U : List ByteArray} (h : U ∈ Zaf X) : 0 < cntU X U := List.countP_pos_iff.2 ⟨U, h, Zarb U⟩
theorem Zaxc (X : List Line) (U : List ByteArray) : cntU X U ≤ X.length := by
 have := List.countP_le_length (p := preB U) (l := Zaf X)
 rwa [Zag] at this
theorem Zamj (U : List ByteArray) : ∀ (ws : List ByteArray), ws.Nodup → ∀ l : List (List ByteArray), (ws.map fun s => l.countP (preB (U ++ [s]))).sum ≤ l.countP (preB U)
 | [], _, _ => Yav _
 | s :: ws, hn, l => by
   obtain ⟨h1, h2⟩ := List.nodup_cons.1 hn;rw [List.map_cons, List.sum_cons];have e1 := List.countP_eq_countP_filter_add l (preB U) (preB (U ++ [s]))
   have e2 : (l.filter (preB (U ++ [s]))).countP (preB U) = l.countP (preB (U ++ [s])) := by
    rw [List.countP_filter];refine List.countP_congr fun q _ => ?_
    simp only [Yar];exact ⟨fun h => h.2, fun h => ⟨Zasr h, h⟩⟩
   have ih := Zamj U ws h2 (l.filter fun q => !preB (U ++ [s]) q)
   have e3 : (ws.map fun t => (l.filter fun q => !preB (U ++ [s]) q).countP (preB (U ++ [t]))) = ws.map fun t => l.countP (preB (U ++ [t])) := by
    refine List.map_congr_left fun t ht => ?_
    rw [List.countP_filter];refine List.countP_congr fun q _ => ?_
    simp only [Yar, Yer];refine ⟨fun h => h.1, fun h => ⟨h, ?_⟩⟩
    cases hq : preB (U ++ [s]) q with
    | false => rfl
    | true =>
      obtain ⟨a, ha⟩ := Zbg.1 h;obtain ⟨b, hb⟩ := Zbg.1 hq;rw [ha, Ybl, Ybl] at hb;have hb2 := List.append_cancel_left hb;injection hb2 with hb3
      exact absurd (hb3 ▸ ht) h1
   rw [e3] at ih;omega
section
variable {X : List Line} (hr : Zab X = true)
include hr
theorem Zafb (U : List ByteArray) : (Zcx X U).Nodup ∧ ∀ s ∈ Zcx X U, U ++ [s] ∈ Zaf X := by
 have key : ∀ K : List Nat, K.Pairwise (· < ·) → (∀ k ∈ K, k < X.length ∧ pa X k = U ++ [Zbd X k]) → (K.map (Zbd X)).Nodup ∧ ∀ s ∈ K.map (Zbd X), U ++ [s] ∈ Zaf X := fun K hK hp => by
  refine ⟨?_, fun s hs => ?_⟩
  · unfold List.Nodup;rw [List.pairwise_map];refine hK.imp_of_mem fun {a b} ha hb hab e => ?_
    have h1 := hp a ha;have h2 := hp b hb;have := Zacc hr h1.1 h2.1 (by rw [h1.2, h2.2, e])
    omega
  · obtain ⟨k, hk, rfl⟩ := Yda.1 hs;obtain ⟨h1, h2⟩ := hp k hk;rw [← h2, Zfh h1];exact Yat _
 unfold Zcx;cases hf : Zar X U with
 | some i =>
   obtain ⟨hi, e⟩ := Zej hr hf;refine key _ (Zrn X i) fun k hk => ?_
   obtain ⟨g1, g2, g3⟩ := Zba.1 hk;have hkl : k < X.length := by have := (Zbb X i hi).2; omega
   obtain ⟨s, hs⟩ := Zmu.1 ((Zabd hr hi hkl).2 ⟨g2, g1, g3⟩);have h3 := Zgg hr hkl;rw [hs, List.getLastD_concat] at h3;exact ⟨hkl, by rw [hs, h3, e]⟩
 | none =>
   by_cases h0 : U.length = 0
   · obtain rfl : U = [] := Yaq h0;simp only [Ydx, if_true];refine key _ (Zko X) fun k hk => ?_
     obtain ⟨g1, -, g3⟩ := Zba.1 hk;have h2 := Zbw (Zad hr).2.1 g1;have h3 := Zgg hr g1;rw [g3] at h2;refine ⟨g1, ?_⟩;cases hp : pa X k with
     | nil => rw [hp] at h2; simp at h2
     | cons a r =>
       rw [hp] at h2 h3;obtain rfl : r = [] := Yaq (by simpa using h2)
       rw [← h3]; rfl
   · simp only [Yab h0];exact ⟨List.nodup_nil, fun s hs => by cases hs⟩
theorem Zaco : ∀ (f : Nat) (P : List ByteArray) (n : Nat), (Zje X f P n).length ≤ max 1 (cntU X (P.take n))
 | 0, P, n => by unfold Zje; simp; omega
 | f + 1, P, n => by
   unfold Zje;cases hs : Zmg (P.drop n) with
   | none => simp; omega
   | some a =>
     have ha := Zmy hs;rw [Yam] at ha;obtain ⟨w1, w2⟩ := Zafb hr (P.take (n + a));simp only;rw [List.length_flatMap]
     have h1 : ((Zcx X (P.take (n + a))).map fun s => (Zje X f (P.set (n + a) s) (n + a + 1)).length).sum ≤ ((Zcx X (P.take (n + a))).map fun s => (Zaf X).countP (preB (P.take (n + a) ++ [s]))).sum := by
      have gen : ∀ l : List ByteArray, (∀ s ∈ l, P.take (n + a) ++ [s] ∈ Zaf X) → (l.map fun s => (Zje X f (P.set (n + a) s) (n + a + 1)).length).sum ≤ (l.map fun s => (Zaf X).countP (preB (P.take (n + a) ++ [s]))).sum := by
       intro l
       induction l with
       | nil => intro _; exact Yaf _
       | cons s l ih =>
         intro hl;rw [List.map_cons, List.sum_cons, List.map_cons, List.sum_cons];have g1 := ih fun t ht => hl t (Ycg _ ht)
         have g2 := Zaco f (P.set (n + a) s) (n + a + 1);have g3 : (P.set (n + a) s).take (n + a + 1) = P.take (n + a) ++ [s] := Go.Proofs.Zq.set_take P (n + a) s (by omega)
         rw [g3] at g2;have g4 := Zavv (hl s (Yci ..));have g5 : (Zje X f (P.set (n + a) s) (n + a + 1)).length ≤ cntU X (P.take (n + a) ++ [s]) := by omega
         have g6 : cntU X (P.take (n + a) ++ [s]) = (Zaf X).countP (preB (P.take (n + a) ++ [s])) := rfl;omega
      exact gen _ w2
     have h2 := Zamj (P.take (n + a)) _ w1 (Zaf X)
     have h3 : (Zaf X).countP (preB (P.take (n + a))) ≤ cntU X (P.take n) := by
      have e : P.take (n + a) = P.take n ++ (P.drop n).take a := by rw [← List.take_add]
      rw [e];exact Zawp
     omega
theorem Zqc (P : List ByteArray) (n : Nat) : (Zmf X P n).length ≤ 200 := by
 have h1 := Zaco hr (P.length - n) P n;have h2 := Zaxc X (P.take n);have h3 := (Zad hr).1;unfold Zmf;omega
end
theorem Znh (X : List Line) : ∀ (f : Nat) (P : List ByteArray) (n : Nat), ∀ q ∈ Zje X f P n, q.length = P.length
 | 0, P, n, q, h => by
   unfold Zje at h;rw [Yce] at h; rw [h]
 | f + 1, P, n, q, h => by
   unfold Zje at h;cases hs : Zmg (P.drop n) with
   | none => rw [hs] at h; simp only at h; rw [Yce] at h; rw [h]
   | some a =>
     rw [hs] at h;obtain ⟨s, -, hq⟩ := Ydi.1 h;rw [Znh X f _ _ q hq, Ycl]
end Edt
namespace Go.Proofs.Zq
open Tryz
open Go Go.RowKit Go.Sort Tre Lx Prs Lns Edt Sch
def QOwn (w : World) (x : PV) : Prop := ∃ b o c, x.1 = .slice (some ⟨b, o, none⟩) x.2.length c ∧ x.2.length ≤ c ∧ c ≤ maxLen ∧ Rd w 1 (some ⟨b, o, none⟩) x.2.length (sv x.2) ∧ ∃ cur, w.heap[b]? = some (.cells cur 9 (0, 0))
def QRow (w : World) (base : Nat) (v : Value) (Q : List PV) : Prop := w.ownsRow base 33 1 v Q.length (Q.map Prod.fst) ∧ ∀ x ∈ Q, QOwn w x
theorem QOwn.same {w w' : World} {x : PV} (h : QOwn w x) (hk : ∀ (b : Nat) (cur : Array Value), w.heap[b]? = some (.cells cur 9 (0, 0)) → w'.heap[b]? = some (.cells cur 9 (0, 0))) : QOwn w' x := by
 obtain ⟨b, o, c, h1, h2, h3, h4, cur, h5⟩ := h;have h6 := hk b cur h5;refine ⟨b, o, c, h1, h2, h3, ⟨h4.1, fun h0 => ⟨_, rfl, (Ybc.1 h6).1, fun j u hu => ?_⟩⟩, cur, h6⟩
 have h7 := Zqi h4 j u hu;rw [Zae] at h7 ⊢;rw [World.cell?_of_block (w := w) (a := ⟨b, o + j, none⟩) (by rw [h6, h5])]
 exact h7
theorem QOwn.below {w w' : World} {x : PV} (h : QOwn w x) (hb : Below w.heap.size w w') : QOwn w' x := h.same fun b _ hh => (hb.block b (Ybc.1 hh).1).trans hh
theorem QOwn.keep {w w' : World} {x : PV} (h : QOwn w x) (k : Zbl 33 w w') : QOwn w' x := h.same fun b cur hh => k b cur _ (by decide) hh
theorem QOwn.pr {w : World} {x : PV} (h : QOwn w x) : Pr w x.1 x.2 := by
 obtain ⟨b, o, c, h1, h2, h3, h4, -⟩ := h;exact ⟨_, c, h1, h2, h3, h4⟩
theorem QOwn.cell {w : World} {x : PV} (h : QOwn w x) : x.1.oneCell' = true := by
 obtain ⟨b, o, c, h1, -⟩ := h;rw [h1]; rfl
theorem QOwn.own {w : World} {base : Nat} {v : Value} {P : List ByteArray} (h : w.ownsRow base 9 1 v P.length (sv P)) (h0 : 0 < P.length) : QOwn w (v, P) := by
 obtain ⟨A, c, e, g1, g2, g3⟩ := Zbc h;rcases h.2 with ⟨-, hz⟩ | ⟨g, cap, cur, e2, -, hh, -⟩
 · omega
 · rw [e] at e2;injection e2 with e3 _ e4
   subst e3;exact ⟨g, 0, c, e, g1, g2, g3, cur, hh⟩
theorem QRow.below {w w' : World} {base : Nat} {v : Value} {Q : List PV} (h : QRow w base v Q) (hb : Below w.heap.size w w') : QRow w' base v Q := ⟨Zah h.1 hb, fun x hx => (h.2 x hx).below hb⟩
theorem Zpl (w : World) (base : Nat) : QRow w base (.slice none 0 0) [] := ⟨World.ownsRow_nil _ _ _ _, fun x hx => by cases hx⟩
theorem Zui {w w' : World} {base : Nat} {v' : Value} {Q R : List PV} (h : w'.ownsRow base 33 1 v' (Q.length + R.length) (Q.map Prod.fst ++ R.map Prod.fst)) (hq : ∀ y ∈ Q, QOwn w y) (hx : ∀ y ∈ R, QOwn w y) (k : Zbl 33 w w') : QRow w' base v' (Q ++ R) := by
 refine ⟨by rw [Yaj, Ybs]; exact h, fun y hy => ?_⟩
 rcases Ybm.1 hy with hy | hy
 · exact (hq y hy).keep k
 · exact (hx y hy).keep k
theorem Zny {P : Program} {ops : Array Oper} {rest : List Oper} {o : Oper} {a : Act} {Q : Exit → Act → World → Prop} (hgd : o.guard = none) (s x : Operand) (t : TypeId)
 (ho : o.op = .call { callee := .builtin .append, args := #[s, x], argTypes := #[t, t] })
 (w0 wr : World) (e : TypeId) (i : TypeInfo) (z : Value) (size bytes : Nat) (ht : P.underlying t = some (.slice e)) (hi : P.info? e = some i) (hz : i.zero = some z)
 (hsize : i.size = size) (hby : i.bytes = bytes) (hzs : z.cells.size = size) (hsz : 0 < size) (hb64 : bytes ≤ 64)
 {v : Value} {n : Nat} {xs : List Value} (hown : wr.ownsRow w0.heap.size e size v n xs) (hb : Below w0.heap.size w0 wr) (hs : a.eval s = v)
 (A : Option Addr) (m c : Nat) (news : List Value) (hx : a.eval x = .slice A m c) (hR : Rd wr size A m news) (hnil : A = none → c = 0) (h1 : ∀ u ∈ news, u.oneCell' = true)
 (hN : n + m ≤ 1000000000)
 (h : ∀ v' w', w'.ownsRow w0.heap.size e size v' (n + m) (xs ++ news) → Below w0.heap.size w0 w' → Zbl e wr w' → wpList P ops Q rest (a.put o.dst v') w') :
 wpList P ops Q (o :: rest) a wr := by
 rcases A with _ | ad
 · have hm : m = 0 := by
    rcases Ybn m with h0 | h0
    · exact h0
    · obtain ⟨ad, h, -⟩ := hR.2 h0;cases h
   subst hm;have hn : news = [] := Yaq (by simpa using hR.1)
   subst hn;obtain rfl := hnil rfl;exact wpList_append_own_none hgd s x t ho w0.heap.size e i size ht hi v n xs hs hown hx (h v wr (by simpa using hown) hb (Zbl.refl _ _))
 · exact Zsy hgd s x t ho w0 wr e i z size bytes ht hi hz hsize hby hzs hsz hb64 hown hb hs ad m c news hx hR.1 (Zqi hR) h1 hN h
def Ziu (F : List (List ByteArray)) (w : World) (e : Ending) (w' : World) : Prop :=
 (∃ v Q, e = .returned v ∧ QRow w' w.heap.size v Q ∧ Q.map Prod.snd = F) ∧ Below w.heap.size w w'
theorem Zsb {α β : Type} (f : α → List β) (l : List α) {k : Nat} (h : k < l.length) : (l.take (k + 1)).flatMap f = (l.take k).flatMap f ++ f l[k] := by
 rw [Yau h, Yck]; simp
theorem Zawd (P : List ByteArray) (k : Nat) (s : ByteArray) : sv (P.set k s) = (sv P).set k (.string s) := by unfold sv; rw [List.map_set]
theorem Zyz {X : List Line} (U : List ByteArray) : (Zcx X U).length ≤ X.length := by
 unfold Zcx;cases hf : Zar X U with
 | some i => simp only; rw [Yax]; exact Yas (kidsTo_len _ _ _ _) (Zbb X i (Zcd hf)).2
 | none =>
   simp only;split
   · rw [Yax]; exact kidsTo_len _ _ _ _
   · exact Yav _
theorem Zrk (vt p : Value) (X : List Line) (P : List ByteArray) (n : Nat) (w : World) (hX : Lr w vt X) (hr : Zab X = true) (hP : QOwn w (p, P)) (hn : n ≤ P.length) (h16 : P.length ≤ 16)
 (hrec : ∀ (W : World) (p' : Value) (P' : List ByteArray) (n' : Nat) (z : Int), Below w.heap.size w W → QOwn W (p', P') → P'.length = P.length → n < n' → n' ≤ P.length → z = (n' : Int) → Calls prog 76 #[vt, p', .int .i64 z] W (Ziu (Zmf X P' n') W)) :
 Calls prog 76 #[vt, p, .int .i64 (n : Int)] w (Ziu (Zmf X P n) w) := by
 obtain ⟨i0, hi, hz0, hz1, hz2⟩ := info_parts Zhw;have HPq := Zhd hP;obtain ⟨b, o, c, e1, hc1, hc2, hR, cur, hh⟩ := hP;obtain rfl : p = .slice (some ⟨b, o, none⟩) P.length c := e1;simp only at hc1 hR;have h200 := Zas hr
 have hcells : ∀ W, Below w.heap.size w W → ∀ j, j < P.length → W.cell? ⟨b, o + j, none⟩ = some (.string (P.getD j ByteArray.empty)) := fun W hb j hj => by
  obtain ⟨b', o', e', -, -, hx⟩ := (hR.below hb).strAt hj;cases e';rw [hx, Yap, Yag hj]; rfl
 have HCe := Zhd hcells;have hcm := hc2;unfold maxLen at hcm;have hnc1 : (n : Int) ≤ (c : Int) := by omega
 have hnl1 : (n : Int) ≤ (P.length : Int) := by omega
 have hf1 : (P.length : Int) - (n : Int) = ((P.length - n : Nat) : Int) := by omega
 have hf2 : (c : Int) - (n : Int) = ((c - n : Nat) : Int) := by omega
 unfold Ziu at hrec;cases hst : Zmg (P.drop n) with
 | none =>
   rw [Zahy hst]
   have HQ : Hid (QRow (w.alloc (.cells #[.slice (some ⟨b, o, none⟩) P.length c] 33)) w.heap.size (.slice (some ⟨w.heap.size, 0, none⟩) 1 1) [(.slice (some ⟨b, o, none⟩) P.length c, P)]) := by
    refine ⟨World.ownsRow_lit (e := 33) (size := 1) (base := w.heap.size) w #[.slice (some ⟨b, o, none⟩) P.length c] 1 (Yaf _) (by unfold maxLen; omega) rfl, fun x hx => ?_⟩
    rw [Yce] at hx;rw [hx];exact HPq.out.below ((Yac _ _).alloc (Yaf _) _)
   have HB := Zhd ((Yac w.heap.size w).alloc (Yaf _) (.cells #[.slice (some ⟨b, o, none⟩) P.length c] 33));have hidx : Lib.idxOfS (P.drop n) Zvx = -1 := by unfold Lib.idxOfS; rw [Zrc, hst]
   by_cases hnl : n = P.length
   · have HI := Zhd (fun (a : Option Addr) (c' : Nat) => Tryz.slices_Index_string_empty a c' Zvx w)
     have hem : Lib.idxOfS [] Zvx = -1 := rfl;rw [hem] at HI;have hz0' : P.length - n = 0 := by omega
     rw [hz0'] at hf1;clear hrec hcells HCe hR hst hidx hcm;subst hnl;by_cases hcn : c = P.length
     · subst hcn;go_enter func76, ntmps76;go_wp2_with (go_at_call 107; refine (HI.out _ _).mono ?_; rintro e w2 ⟨rfl, rfl⟩);go_ret;unfold Ziu;exact ⟨⟨_, _, rfl, HQ.out, rfl⟩, HB.out⟩
     · have hcn2 : ¬ (P.length = c) := fun h => hcn h.symm
       go_enter func76, ntmps76;go_wp2_with (go_at_call 107; refine (HI.out _ _).mono ?_; rintro e w2 ⟨rfl, rfl⟩);go_ret;unfold Ziu;exact ⟨⟨_, _, rfl, HQ.out, rfl⟩, HB.out⟩
   · have HI := Zhd (Tryz.slices_Index_string b (o + n) (P.length - n) (c - n) (P.drop n) Zvx w (by rw [Yam]; omega) (by omega) (fun j hj => by
      rw [Yam] at hj;have := hcells w (Yac _ _) (n + j) (by omega)
      rw [Ydg, this, Yap, Yap, Ydb]))
     rw [Ybj (by rw [Yam]; omega), hidx] at HI
     have hcn : ¬ (c = n) := by omega
     have hcn2 : ¬ (n = c) := by omega
     clear hrec hcells HCe hR hst hidx hcm;go_enter func76, ntmps76;go_wp2_with (go_at_call 107; refine HI.out.mono ?_; rintro e w2 ⟨rfl, rfl⟩);go_ret;unfold Ziu;exact ⟨⟨_, _, rfl, HQ.out, rfl⟩, HB.out⟩
 | some a =>
   have ha := Zmy hst;rw [Yam] at ha
   have HI := Zhd (Tryz.slices_Index_string b (o + n) (P.length - n) (c - n) (P.drop n) Zvx w (by rw [Yam]; omega) (by omega) (fun j hj => by
    rw [Yam] at hj;have := hcells w (Yac _ _) (n + j) (by omega)
    rw [Ydg, this, Yap, Yap, Ydb]))
   have hidx : Lib.idxOfS (P.drop n) Zvx = (a : Int) := by unfold Lib.idxOfS; rw [Zrc, hst]; simp
   rw [Ybj (by rw [Yam]; omega), hidx] at HI
   have hfs := Zake (X := X) hst;obtain ⟨k, hk⟩ : ∃ k, n + a = k := ⟨_, rfl⟩;rw [hk] at hfs;have hkl : k < P.length := by omega
   have hsum : (a : Int) + (n : Int) = (k : Int) := by omega
   have HWd := Zhd (Zqb vt (.slice (some ⟨b, o, none⟩) k c) X (P.take k))
   have HPt : Hid (∀ W, Below w.heap.size w W → Pr W (.slice (some ⟨b, o, none⟩) k c) (P.take k)) := fun W hb => by
    refine ⟨_, c, by rw [Yad, Ybb (Yeh hkl)], by rw [Yad]; omega, hc2, ?_⟩
    rw [Yad, Ybb (Yeh hkl)];exact Zfs (hR.below hb) (Yeh hkl)
   have HXl := Zhd (fun (W : World) (hb : Below w.heap.size w W) => hX.below hb)
   have hwl := Zyz (X := X) (P.take k);have HFl := Zhd (fun s => Zqc hr (P.set k s) (k + 1))
   have HRec := Zhd (fun (W : World) (p' : Value) (s : ByteArray) (z : Int) (hb : Below w.heap.size w W) (hq : QOwn W (p', P.set k s)) (hz : z = ((k + 1 : Nat) : Int)) => hrec W p' (P.set k s) (k + 1) z hb hq Ycl (by omega) (by omega) hz)
   have HRt := Zhd hr;have hcn : ¬ (c = n) := by omega
   have hcn2 : ¬ (n = c) := by omega
   have hk0 : (0 : Int) ≤ (k : Int) := by omega
   have hkc : (k : Int) ≤ (c : Int) := by omega
   have hkw : IntKind.i64.wrap (k : Int) = (k : Int) := by rw [IntKind.wrap_i64]; omega
   have hkw1 : IntKind.i64.wrap ((k : Int) + 1) = (k : Int) + 1 := by rw [IntKind.wrap_i64]; omega
   have hkI : (k : Int) < (P.length : Int) := by omega
   have ha0 : ¬ (a : Int) < 0 := by omega
   rw [hfs];clear hrec hcells hst hidx hfs ha hk hR hX hr;go_enter func76, ntmps76;go_wp2_with (go_at_call 107; refine HI.out.mono ?_; rintro e w2 ⟨rfl, rfl⟩);have HW2 := Zhd (HWd.out w2 (HXl.out w2 (Yac _ _)) HRt.out (HPt.out w2 (Yac _ _)));clear HWd HPt HI;refine HW2.out.mono ?_;rintro e w3 ⟨⟨v3, rfl, ho3⟩, hb3⟩;obtain ⟨Aw, cw, e1, -, -, hRw⟩ := Zbc ho3;subst e1;have HB3 := Zhd hb3;have HRw := Zhd hRw;obtain ⟨ws, hws⟩ : ∃ ws, Zcx X (P.take k) = ws := ⟨_, rfl⟩;rw [hws] at HRw hwl ⊢;have HWs := Zhd hws;clear ho3 hb3 hRw HW2 hws hnc1 hnl1 hf1 hf2 hcn hcn2 hsum ha0;go_wp2;go_loopw [8, 29] (fun vo vj wr => ∃ (j : Nat) (Q : List PV), vj = .int .i64 j ∧ j ≤ ws.length ∧ Q.length ≤ 200 * j ∧ Hid (QRow wr w3.heap.size vo Q) ∧ Hid (Q.map Prod.snd = (ws.take j).flatMap fun s => Zmf X (P.set k s) (k + 1)) ∧ Hid (Below w3.heap.size w3 wr)) (fun _ vj _ => ws.length - (intOf vj).toNat)
   case atStart => exact ⟨0, [], rfl, Yav _, Yav _, Zpl _ _, rfl, Yac _ _⟩
   case round =>
    obtain ⟨j, Q, rfl, hj', hQl, HQ, HM, HB⟩ := hrel;by_cases hlt : j < ws.length
    · obtain ⟨bw, ow, rfl, habw, haddw, xw⟩ := HRw.out.strAt hlt;have x0 := (HB.out.cell (p := ⟨bw, ow + j, none⟩) habw).trans xw;have HS := Zhd (Zsb (fun s => Zmf X (P.set k s) (k + 1)) ws hlt)
      have HFs := HFl.out ws[j];have HRs := Zhd (fun W p' => HRec.out W p' ws[j])
      have hjI : (j : Int) < (ws.length : Int) := by omega
      generalize ws[j] = s at *;have HCl := Zhd (Tryz.slices_Clone_string b o P.length c P wr (Yaf _) (by omega) (HCe.out wr (Zaa HB3.out HB.out)))
      clear xw;go_wp2_with fail;refine HCl.out.mono ?_;rintro e w4 ⟨v4, rfl, ho4, -, hb4⟩;rw [Ybw] at ho4;have ho4 : w4.ownsRow wr.heap.size 9 1 v4 P.length (sv P) := ho4;obtain ⟨m, hm⟩ : ∃ m, P.length = m + 1 := ⟨P.length - 1, by omega⟩
      have ho4' := ho4;rw [hm] at ho4';obtain ⟨q, cc, e4⟩ := Zck ho4';rw [← hm] at e4;subst e4;have HB4 := Zhd (Zaa HB.out hb4);have HQ4 := Zhd (HQ.out.below hb4);have hqw : wr.heap.size ≤ q := (ho4.lt q rfl).1;have hqw3 : w3.heap.size ≤ q := Yas HB.out.size hqw
      have y1 : w4.cell? ⟨q, k, none⟩ = some (.string P[k]) := by
       rw [ho4.cellAt k (by omega), Zja hkl]
      have y2 : w4.frozen? ⟨q, k, none⟩ = false := ho4.frozenAt _;have hst5 := (ho4.stored k (.string s)).1;rw [← Zawd] at hst5
      have HP5 : Hid (QOwn (w4.setCell ⟨q, k, none⟩ (.string s)) (.slice (some ⟨q, 0, none⟩) P.length cc, P.set k s)) := by
       have := QOwn.own (P := P.set k s) (by rw [Ycl]; exact hst5) (by rw [Ycl]; omega)
       exact this
      have HB5 := Zhd (HB4.out.setCell (p := ⟨q, k, none⟩) hqw3 (.string s));have hb45 := hb4.setCell (p := ⟨q, k, none⟩) hqw (.string s);have HQ5 := Zhd (HQ.out.below hb45);have HR5 := Zhd (HRs.out (w4.setCell ⟨q, k, none⟩ (.string s)) (.slice (some ⟨q, 0, none⟩) P.length cc) ((k : Int) + 1) (Zaa HB3.out HB5.out) HP5.out rfl);have HB5w := HB5;obtain ⟨w5, hw5⟩ : ∃ w5, w4.setCell ⟨q, k, none⟩ (.string s) = w5 := ⟨_, rfl⟩;rw [hw5] at HB5 HQ5 HR5;clear ho4 ho4' hm hb4 hst5 HP5 hb45 HB4 HQ4 HQ HB HCl HRs HB5w x0;go_wp2_with fail;refine HR5.out.mono ?_;rintro e w6 ⟨⟨v6, Q6, rfl, hq6, hm6⟩, hb6⟩;obtain ⟨A6, c6, e6, -, -, hR6, hnil6, -⟩ := Zct hq6.1;subst e6;have HB6 := Zhd (Zaa HB5.out hb6);have HQ6 := Zhd (HQ5.out.below hb6);have hq6l : Q6.length ≤ 200 := by
       have : (Q6.map Prod.snd).length ≤ 200 := by rw [hm6]; exact HFs
       rwa [Yax] at this
      have HN6 := Zhd hnil6;have HR6 := Zhd hR6;have HO6 := Zhd hq6.2;have HM6 := Zhd hm6;clear hb6 hq6 hm6 hnil6 hR6 HR5 HQ5 HB5 y1 y2 hw5;go_wp2_with (at_builtin; refine Zny rfl _ _ 66 rfl w3 w6 33 i0 _ 1 24 underlying66 hi hz0 hz1 hz2 rfl (by decide) (by decide) HQ6.out.1 HB6.out rfl A6 Q6.length c6 (Q6.map Prod.fst) rfl HR6.out HN6.out (by intro u hu; obtain ⟨y, hy, rfl⟩ := Yda.1 hu; exact (HO6.out y hy).cell) (by omega) ?_; intro v8 w8 hown8 hb8 hk8)
      have HQ8 := Zhd (Zui hown8 HQ6.out.2 HO6.out hk8)
      have HM8 : Hid ((Q ++ Q6).map Prod.snd = (ws.take (j + 1)).flatMap fun s => Zmf X (P.set k s) (k + 1)) := by
       show _ = _;rw [HS.out, Ybs, HM.out, HM6.out]
      have HB8 := Zhd hb8;clear hown8 hb8 hk8 HQ6 HB6 HR6 HN6 HO6 HM6 HS HM;go_wp2_with fail;go_roundw
      case rel => exact ⟨j + 1, Q ++ Q6, by go_num, by omega, by rw [Yaj]; omega, HQ8, HM8, HB8⟩
      case measure => simp [intOf]; omega
    · have hjf : ws.take j = ws := Ybj (by omega)
      rw [hjf] at HM;have hnI : ¬ ((j : Int) < (ws.length : Int)) := by omega
      have HBf := Zhd (Zaa HB3.out HB.out);have hz3 := HB3.out.size;clear hjf;go_wp2;go_ret;unfold Ziu;exact ⟨⟨_, Q, rfl, ⟨HQ.out.1.mono hz3, HQ.out.2⟩, by rw [HWs.out]; exact HM.out⟩, HBf.out⟩
theorem Ztt : ∀ (f : Nat) (vt p : Value) (X : List Line) (P : List ByteArray) (n : Nat) (w : World), P.length - n ≤ f → Lr w vt X → Zab X = true → QOwn w (p, P) → n ≤ P.length → P.length ≤ 16 →
 Calls prog 76 #[vt, p, .int .i64 (n : Int)] w (Ziu (Zmf X P n) w)
 | 0, vt, p, X, P, n, w, hf, hX, hr, hP, hn, h16 => Zrk vt p X P n w hX hr hP hn h16 fun W p' P' n' z _ _ _ h1 h2 _ => by omega
 | f + 1, vt, p, X, P, n, w, hf, hX, hr, hP, hn, h16 => Zrk vt p X P n w hX hr hP hn h16 fun W p' P' n' z hb hq hl h1 h2 hz => by
   rw [hz];exact Ztt f vt p' X P' n' W (by omega) (hX.below hb) hr hq (by omega) (by omega)
end Go.Proofs.Zq
namespace Edt
open Go Go.Lib Tre Sch Lns
theorem Zvs : ∀ {S : List (List ByteArray)} {M : List Line}, S.length = M.length → (∀ (k : Nat) (h1 : k < S.length) (h2 : k < M.length), Zbv M[k] = true ∧ M[k].depth = ((S[k].length - 1 : Nat) : Int) ∧ S[k].getLastD ⟨#[]⟩ = M[k].word) → Zfq S M
 | [], [], _, _ => trivial
 | q :: S, l :: M, hl, h => by
   refine ⟨h 0 (by simp) (by simp), Zvs (by simpa using hl) fun k h1 h2 => ?_⟩
   have := h (k + 1) (by simp; omega) (by simp; omega)
   exact this
 | [], _ :: _, hl, _ => by simp at hl
 | _ :: _, [], hl, _ => by simp at hl
theorem Ztv {L : List Line} (hr : Zab L = true) {i : Nat} (hi : i < L.length) : Zab (subL L i) = true := by
 obtain ⟨hl200, hd, hsrt⟩ := Zad hr;obtain ⟨e1, e2⟩ := Zbb L i hi;obtain ⟨en, hen⟩ : ∃ en, endB L i = en := ⟨_, rfl⟩;have hpl := Zbw hd hi;have hdn := Zcf hd hi;obtain ⟨d, hdd⟩ : ∃ d, (Zan L i).toNat = d := ⟨_, rfl⟩;have hdI : Zan L i = (d : Int) := by omega
 rw [hdd] at hpl;have hpre : ∀ k, i ≤ k → k < en → ∃ s, pa L k = pa L i ++ s := fun k h1 h2 => (Zdo hr hi (by omega)).2 ⟨h1, by rw [hen]; exact h2⟩
 have hfr : ∀ k, i ≤ k → k < en → pa L k = (pa L i).take d ++ (pa L k).drop d := fun k h1 h2 => by
  obtain ⟨s, hs⟩ := hpre k h1 h2;have : (pa L i).take d = (pa L k).take d := by rw [hs, Ycd (by omega)]
  rw [this, Ybk]
 have hlen : (subL L i).length = en - i := by
  unfold subL;rw [Yax, Yad, Yam, hen]; omega
 obtain ⟨S, hS⟩ : ∃ S, S = (List.range (en - i)).map fun j => (pa L (i + j)).drop d := ⟨_, rfl⟩
 have hSl : S.length = en - i := by rw [hS, Yax, Yes]
 have hSk : ∀ j (h : j < S.length), S[j] = (pa L (i + j)).drop d := fun j h => by subst hS; rw [Ydj, List.getElem_range]
 have hmem : ∀ q, q ∈ S ↔ ∃ k, i ≤ k ∧ k < en ∧ q = (pa L k).drop d := fun q => by
  rw [hS, Yda];constructor
  · rintro ⟨j, hj, rfl⟩;rw [Ycz] at hj;exact ⟨i + j, by omega, by omega, rfl⟩
  · rintro ⟨k, h1, h2, rfl⟩;exact ⟨k - i, by rw [Ycz]; omega, by rw [show i + (k - i) = k by omega]⟩
 refine (Zjv (S := S) (Zvs (by rw [hSl, hlen]) fun j h1 h2 => ?_) ⟨?_, fun q hq => ?_⟩ (by rw [hlen]; omega)).1
 · have hk : i + j < L.length := by omega
   have g1 := Zee hd (i + j) hk;have g2 := Zbw hd hk;have g3 := Zgg hr hk;have g4 := Zcf hd hk;obtain ⟨s, hs⟩ := hpre (i + j) (by omega) (by omega)
   have g5 : (pa L (i + j)).length = d + 1 + s.length := by rw [hs, Yaj, hpl]
   have hM : (subL L i)[j] = ⟨L[i + j].depth - Zan L i, L[i + j].word, L[i + j].mark⟩ := by
    have e : subL L i = ((L.drop i).take (endB L i - i)).map fun l => ⟨l.depth - Zan L i, l.word, l.mark⟩ := rfl
    rw [List.getElem_of_eq e h2, Ydj, Yct, Ydl]
   rw [Zbi hk] at g3;rw [Zaw hk] at g2 g4;rw [hM, hSk j h1, hdI];obtain ⟨m1, m2, m3⟩ := Zod g1.1;refine ⟨?_, ?_, ?_⟩
   · unfold Zbv;simp only;rw [Yal (by omega), Yal (by omega), Yal m3, Yal m1, Yal m2]; rfl
   · show L[i + j].depth - (d : Int) = _;rw [Yam]; omega
   · show ((pa L (i + j)).drop d).getLastD ⟨#[]⟩ = L[i + j].word;rw [← g3, Ybu, Ybu, List.getLast?_drop, Yab (by omega)]
 · rw [Yds];intro a b ha hb hab;rw [hSk a ha, hSk b hb];have h1 := Zol hr (show i + a < i + b by omega) (show i + b < L.length by omega)
   rw [hfr (i + a) (by omega) (by omega), hfr (i + b) (by omega) (by omega), Zfk] at h1
   exact h1
 · obtain ⟨k, h1, h2, rfl⟩ := (hmem q).1 hq;have hk : k < L.length := by omega
   obtain ⟨s, hs⟩ := hpre k h1 h2;have hq2 : (pa L k).drop d = (pa L i).drop d ++ s := by rw [hs, List.drop_append_of_le_length (by omega)]
   have hdl : ((pa L i).drop d).length = 1 := by rw [Yam]; omega
   refine ⟨fun e => ?_, ?_⟩
   · rw [hq2] at e;have := congrArg List.length e;rw [Yaj, hdl] at this; simp at this
   · by_cases hs0 : s = []
     · refine .inr ?_;rw [hq2, hs0, Ybg];refine Yaq ?_;rw [Ycn, hdl]
     · refine .inl ((hmem _).2 ?_);have hp : pa L k ∈ Zaf L := by rw [Zfh hk]; exact Yat _
       have hup : (pa L k).dropLast = pa L i ++ s.dropLast := by rw [hs, Ycm hs0]
       rcases ((Zea hr).1.2 _ hp).2 with h | h
       · obtain ⟨m, hm, hm2⟩ := Ybo h;rw [Zag] at hm;have hm3 : pa L m = (pa L k).dropLast := by rw [Zfh hm]; exact hm2
         obtain ⟨g1, g2⟩ := (Zdo hr hi hm).1 ⟨s.dropLast, by rw [hm3, hup]⟩
         refine ⟨m, g1, by rw [← hen]; exact g2, ?_⟩
         rw [hm3, hup, hq2, Ycm hs0, List.drop_append_of_le_length (by omega)]
       · rw [hup] at h;have := congrArg List.length h;rw [Yaj, hpl] at this; simp at this
end Edt
