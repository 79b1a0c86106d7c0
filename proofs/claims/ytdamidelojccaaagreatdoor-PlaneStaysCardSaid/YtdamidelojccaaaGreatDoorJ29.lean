import Derived.Test.YtdamidelojccaaaGreatDoorJ28
set_option linter.unusedVariables false
set_option linter.unusedSimpArgs false
set_option maxHeartbeats 4000000
set_option maxRecDepth 100000
namespace Edt
open Go Go.Lib Tre Sch Lns
def Zavi (m : Int) : Bool := bits .and .i64 m 1 != 0
def offB (L : List Line) (q : List ByteArray) : Bool := (List.range q.length).any fun k => Zavi (stB L (q.take (k + 1)))
def onB (L : List Line) (q : List ByteArray) : Bool := !offB L q
def actP (L : List Line) : List (List ByteArray) := (Zaf L).filter (onB L)
def Zgz (_ : List ByteArray) : Int := 0
def Zaj (L : List Line) : List Line := ofS (actP L) Zgz
theorem Zrp {L : List Line} {q : List ByteArray} {d : Nat} (h : offB L q = false) : offB L (q.take d) = false := by
 unfold offB at *;rw [List.any_eq_false] at *;intro k hk;rw [Ycz, Yad] at hk;have := h k (Ycz.2 (by omega))
 rw [Ycu, Ybb (by omega)]
 exact this
theorem Zxg {L : List Line} {q : List ByteArray} (h : q ≠ []) : offB L q = (offB L q.dropLast || Zavi (stB L q)) := by
 obtain ⟨n, hn⟩ : ∃ n, q.length = n + 1 := ⟨q.length - 1, by have := Ycx.2 h; omega⟩
 have hd : q.dropLast = q.take n := by rw [Ydk, hn]; rfl
 have hdl : q.dropLast.length = n := by rw [Ycn, hn]; rfl
 have e1 : offB L q.dropLast = (List.range n).any fun k => Zavi (stB L (q.take (k + 1))) := by
  unfold offB;rw [hdl, Ycj, List.any_eq_true, List.any_eq_true];constructor
  · rintro ⟨k, hk, hx⟩;refine ⟨k, hk, ?_⟩;rw [Ycz] at hk
    rwa [hd, Ycu, Ybb (by omega)] at hx
  · rintro ⟨k, hk, hx⟩;refine ⟨k, hk, ?_⟩;rw [Ycz] at hk
    rwa [hd, Ycu, Ybb (by omega)]
 have e2 : q.take (n + 1) = q := Ybj (by omega)
 rw [e1];unfold offB;rw [hn, Ydn, List.any_append, List.any_cons, List.any_nil, Bool.or_false, e2]
theorem Zlq {α : Type} (l : List α) (f : α → Bool) {i : Nat} : ∀ {e : Nat}, i ≤ e → (∀ k (hk : k < l.length), i ≤ k → k < e → f l[k] = false) → (l.take e).filter f = (l.take i).filter f
 | 0, h, _ => by rw [show i = 0 by omega]
 | e + 1, h, hf => by
   by_cases hi : i = e + 1
   · rw [hi]
   · have ih := Zlq l f (i := i) (e := e) (by omega) fun k hk h1 h2 => hf k hk h1 (by omega)
     by_cases he : e < l.length
     · rw [Yau he, Yco, List.filter_cons, List.filter_nil, hf e he (by omega) (by omega), ih]; simp
     · rw [← ih, Ybj (by omega), Ybj (by omega)]
section
variable {L : List Line} (hr : Zab L = true)
include hr
theorem pa_ne {i : Nat} (hi : i < L.length) : pa L i ≠ [] := fun e => by
 have := Zbw (Zad hr).2.1 hi;rw [e] at this; simp at this
theorem Zaed : Zws (actP L) := by
 refine Zrb (Zea hr).1 fun q hq h => ?_
 by_cases h0 : q.dropLast = []
 · exact .inl h0
 · refine .inr ?_;have hne : q ≠ [] := fun e => h0 (by rw [e]; rfl)
   unfold onB at *;rw [Zxg hne] at h;simp only [Yer, Yev] at h ⊢;exact h.1
theorem Zed : Zab (Zaj L) = true ∧ Zaf (Zaj L) = actP L ∧ (∀ q, q ∈ actP L → stB (Zaj L) q = 0) ∧ ∀ q, ¬ q ∈ actP L → stB (Zaj L) q = -1 := by
 refine Zrx (Zaed hr) ?_ fun q hq => ⟨Zkj hr (Yde.1 hq).1, Int.le_refl _, (by show (0 : Int) ≤ 3; decide)⟩
 have := Ycc (onB L) (Zaf L);rw [Zag] at this;exact Yas this (Zad hr).1
theorem Zaiq {i j : Nat} (hi : i ≤ j) (hj : j + 1 < L.length) (he : j < endB L i) (hd : Zan L (j + 1) ≤ Zan L i + 1) : (pa L (j + 1)).dropLast = (pa L i).take (Zan L (j + 1)).toNat := by
 obtain ⟨s, hs⟩ := (Zdo hr (by omega : i < L.length) (by omega : j < L.length)).2 ⟨hi, he⟩
 have h1 := Zbw (Zad hr).2.1 (by omega : i < L.length)
 have h2 := Zcf (Zad hr).2.1 (by omega : i < L.length)
 have h3 := Zcf (Zad hr).2.1 hj;rw [Ziv hj, Yed, hs, Ycd (by omega)]
theorem Zavy {i : Nat} (hi : i < L.length) (h : offB L (pa L i) = false) : i + 1 < L.length → offB L (pa L (i + 1)).dropLast = false := fun hj => by
 have h1 := Zkp (Zad hr).2.1 hj;have h2 := (Zbb L i hi).1;rw [Zaiq hr (Yaf i) hj (by omega) h1]
 exact Zrp h
theorem Zard {i : Nat} (hi : i < L.length) (h : offB L (pa L i).dropLast = false) : endB L i < L.length → offB L (pa L (endB L i)).dropLast = false := fun he => by
 obtain ⟨g1, g2⟩ := Zbb L i hi;obtain ⟨j, hj⟩ : ∃ j, endB L i = j + 1 := ⟨endB L i - 1, by omega⟩
 have h1 := Zrz hi he;have h2 := Zbw (Zad hr).2.1 hi;have h3 := Zcf (Zad hr).2.1 hi;rw [hj] at h1 he ⊢;have h4 := Zcf (Zad hr).2.1 he;rw [Zaiq hr (by omega : i ≤ j) he (by omega) (by omega)]
 have e : (pa L i).take (Zan L (j + 1)).toNat = (pa L i).dropLast.take (Zan L (j + 1)).toNat := by
  rw [Ydk, Ycu, Ybb (by omega)]
 rw [e];exact Zrp h
theorem Zaqr {i : Nat} (hi : i < L.length) (h : offB L (pa L i) = true) {k : Nat} (hk : k < L.length) (h1 : i ≤ k) (h2 : k < endB L i) : onB L (pa L k) = false := by
 obtain ⟨s, hs⟩ := (Zdo hr hi hk).2 ⟨h1, h2⟩;unfold onB;cases hq : offB L (pa L k) with
 | true => rfl
 | false =>
   have := Zrp (d := (pa L i).length) hq;rw [hs, List.take_left] at this;rw [this] at h; cases h
theorem Zaoj {i : Nat} (hi : i < L.length) (h : offB L (pa L i) = true) : ((Zaf L).take (endB L i)).filter (onB L) = ((Zaf L).take i).filter (onB L) :=
 Zlq _ _ (by have := (Zbb L i hi).1; omega) fun k hk h1 h2 => by
  have hk' : k < L.length := by rwa [Zag] at hk
  have := Zaqr hr hi h hk' h1 h2
  rwa [Zfh hk'] at this
theorem Zapu {i : Nat} (hi : i < L.length) (h : offB L (pa L i) = false) : ofS (((Zaf L).take (i + 1)).filter (onB L)) Zgz = ofS (((Zaf L).take i).filter (onB L)) Zgz ++ [⟨L[i].depth, L[i].word, 0⟩] := by
 have e1 : (Zaf L).take (i + 1) = (Zaf L).take i ++ [pa L i] := by
  rw [Zfh hi, Yau (by rw [Zag]; exact hi)]
 have e2 : onB L (pa L i) = true := by unfold onB; rw [h]; rfl
 rw [e1, Yco, List.filter_cons, List.filter_nil, e2];unfold ofS;rw [Ybs];congr 1;have h1 := Zbw (Zad hr).2.1 hi;have h2 := Zcf (Zad hr).2.1 hi;have h3 := Zgg hr hi;rw [Zaw hi] at h1 h2;rw [Zbi hi] at h3;show [Zib Zgz (pa L i)] = _;unfold Zib;rw [h3, show (((pa L i).length - 1 : Nat) : Int) = L[i].depth by omega]; rfl
end
end Edt
namespace Go.Proofs.Zq
open Tryz
open Go Go.RowKit Go.Sort Tre Lx Prs Lns Edt
theorem Zvo (w : World) (T : TypeId) (l : Line) : Rd (w.alloc (.cells #[.int .i64 l.depth, .string l.word, .int .i64 l.mark] T)) 3 (some ⟨w.heap.size, 0, none⟩) 1 l.cells := by
 refine ⟨rfl, fun _ => ⟨_, rfl, by simp, fun j u hu => ?_⟩⟩
 rw [Zae, Ybf, World.cell?_alloc_at _ _ _ _ rfl, Ydd];exact hu
theorem Znu (v : Value) (L : List Line) (w : World) (hL : Lr w v L) (hr : Zab L = true) :
 Calls prog 40 #[v] w fun e w' => (∃ v', e = .returned (.tuple #[v', .int .i64 0]) ∧ w'.ownsRow w.heap.size 62 3 v' (Zaj L).length (lines (Zaj L))) ∧ Below w.heap.size w w' := by
 obtain ⟨j0, hj, hy0, hy1, hy2⟩ := info_parts Zha;obtain ⟨A, cap, rfl, hcap, hc, hR, hnil⟩ := hL;have hRi := Zbe A cap L w hR hcap hc;rw [hr] at hRi;have HRi := _root_.Zhd hRi;have HEn := _root_.Zhd (fun (k : Nat) (hk : k < L.length) (W : World) (hb : Below w.heap.size w W) => Zyo A cap L k W (hR.below hb) hcap hc hr hk)
 have HR := _root_.Zhd hR;have h200 := Zas hr;have HRt := _root_.Zhd hr;clear hR hr hRi hnil;unfold maxLen at hc;have mixed : prog.follows .mixedOrders = true := by kernel_rfl
 go_enter func40, ntmps40;go_wp2_with fail;refine HRi.out.mono ?_;rintro e w1 ⟨rfl, hb1⟩;have HB1 := _root_.Zhd hb1;clear HRi hb1;go_wp2;go_loopw [4, 5] (fun vo vi wr => ∃ i : Nat, vi = .int .i64 i ∧ i ≤ L.length ∧ Hid (i < L.length → offB L (pa L i).dropLast = false) ∧ Hid (wr.ownsRow w.heap.size 62 3 vo (ofS (((Zaf L).take i).filter (onB L)) Zgz).length (lines (ofS (((Zaf L).take i).filter (onB L)) Zgz))) ∧ Hid (Below w.heap.size w wr)) (fun _ vi _ => L.length - (intOf vi).toNat)
 case atStart =>
  refine ⟨0, rfl, Yav _, fun h => ?_, World.ownsRow_nil _ _ _ _, HB1.out⟩
  rw [Zsj (Zad HRt.out).2.1 h]; rfl
 case round =>
  clear HB1;obtain ⟨i, rfl, hi, HI, HO, HB⟩ := hrel;by_cases hlt : i < L.length
  · obtain ⟨B, O, rfl, hab, hadd, y0, y1, y2⟩ := HR.out.line hlt
    have HY : Hid (∀ W, Below w.heap.size w W → W.cell? ⟨B, O + i * 3, none⟩ = some (.int .i64 L[i].depth) ∧ W.cell? ⟨B, O + i * 3 + 1, none⟩ = some (.string L[i].word)) := fun W hb =>
     ⟨(hb.cell (p := ⟨B, O + i * 3, none⟩) hab).trans y0, (hb.cell (p := ⟨B, O + i * 3 + 1, none⟩) hab).trans y1⟩
    have x2 := (HB.out.cell (p := ⟨B, O + i * 3 + 2, none⟩) hab).trans y2;clear y0 y1 y2;have hi0 := HI.out hlt;have hlast := Zxg (L := L) (pa_ne HRt.out hlt);rw [hi0, Zxw HRt.out hlt, Bool.false_or] at hlast;have hiI : (i : Int) < (L.length : Int) := by omega
    have hll : (ofS (((Zaf L).take i).filter (onB L)) Zgz).length ≤ i := by
     rw [Zls];exact Yas (Ycc _ _) (by rw [Yad]; omega)
    cases hof : offB L (pa L i) with
    | true =>
      rw [hof] at hlast;have qe : (bits .and .i64 L[i].mark 1 != 0) = true := hlast.symm;have HI2 := _root_.Zhd (Zard HRt.out hlt hi0);have HS := _root_.Zhd (Zaoj HRt.out hlt hof);obtain ⟨g1, g2⟩ := Zbb L i hlt;have HE := _root_.Zhd (HEn.out i hlt wr HB.out);obtain ⟨e1, he1⟩ : ∃ e1, endB L i = e1 + 1 := ⟨endB L i - 1, by omega⟩
      rw [he1] at HE HI2 HS g1 g2;have ho := HO.out;rw [← HS.out] at ho;have HO2 := _root_.Zhd ho;have hw1 : IntKind.i64.wrap (e1 : Int) = (e1 : Int) := by rw [IntKind.wrap_i64]; omega
      generalize L[i].mark = mk at *;clear hlast hof hi0 HI HS HY ho he1 hll HO;go_wp2_with fail;refine HE.out.mono ?_;rintro e w2 ⟨rfl, hb2⟩;have HB2 := _root_.Zhd (Zaa HB.out hb2);have HO3 := _root_.Zhd (Zah HO2.out hb2);clear hb2 HO2 HB HE x2;go_wp2;go_roundw
      case rel => exact ⟨e1 + 1, by go_num, by omega, HI2, HO3, HB2⟩
      case measure => simp [intOf]; omega
    | false =>
      rw [hof] at hlast;have qe : (bits .and .i64 L[i].mark 1 != 0) = false := hlast.symm;have HI2 := _root_.Zhd (Zavy HRt.out hlt hof);have HS := _root_.Zhd (Zapu HRt.out hlt hof);generalize L[i].mark = mk at *;generalize L[i].depth = d at *;generalize L[i].word = sw at *;clear hlast hof hi0 HI;go_wp2_with fail;have hwz := HB.out.size;go_region_held3 (fun W => W.cell? ⟨B, O + i * 3, none⟩ = some (.int .i64 d) ∧ W.cell? ⟨B, O + i * 3 + 1, none⟩ = some (.string sw)) (first | exact z7 | exact HY.out _ HB.out.drew | exact HY.out _ (HB.out.drew.alloc hwz _) | go_keep) (first | (refine Zke rfl _ _ 25 rfl w.heap.size _ 62 j0 _ 3 32 underlying25 hj hy0 hy1 hy2 rfl (by decide) (by decide) ((Zah HO.out (Yac _ _).drew).alloc _) (by simp; omega) (by rfl) (some ⟨wr.heap.size, 0, none⟩) 1 1 (Line.cells ⟨d, sw, 0⟩) rfl (Zvo wr.drew 62 ⟨d, sw, 0⟩) (fun h => by cases h) (cells_one _) (by omega) ?_; intro v7 w7 hown7 hb7 hk7; have HB7 := _root_.Zhd ((HB.out.drew.alloc hwz _).trans hb7); have z7 := HY.out w7 HB7.out; have ho7 := Znp (l := ⟨d, sw, 0⟩) hown7; rw [← HS.out] at ho7; have HO7 := _root_.Zhd ho7; clear hown7 hb7 hk7 ho7))
      all_goals
       clear HY HS HB HO x2;go_wp2;go_roundw
       case rel => exact ⟨i + 1, by go_num, by omega, HI2, HO7, HB7⟩
       case measure => simp [intOf]; omega
  · have hie : i = L.length := by omega
    have ho := HO.out;rw [Ybj (by rw [Zag]; omega)] at ho
    have HF : Hid (wr.ownsRow w.heap.size 62 3 _ (Zaj L).length (lines (Zaj L))) := ho;clear HI HO ho;have hnI : ¬ ((i : Int) < (L.length : Int)) := by omega
    go_wp2;go_ret2;exact ⟨⟨_, rfl, HF.out⟩, HB.out⟩
end Go.Proofs.Zq
namespace Sch
open Go Go.Lib Adr Mtr Tre
def subL (L : List Line) (i : Nat) : List Line := ((L.drop i).take (endB L i - i)).map fun l => ⟨l.depth - Zan L i, l.word, l.mark⟩
def nf (f : Zpd) : Bool := !(decide (f.2 = 7))
section
variable {L : List Line} (hr : Zab L = true)
include hr
end
def shf (d : Int) (l : Line) : Line := ⟨l.depth - d, l.word, l.mark⟩
def shTo (M : List Line) (d : Int) (k : Nat) : List Line := (M.take k).map (shf d) ++ M.drop k
theorem Zacq (M : List Line) (d : Int) (k : Nat) : (shTo M d k).length = M.length := by
 unfold shTo;rw [Yaj, Yax, Yad, Yam]; omega
theorem Zaky (M : List Line) (d : Int) : shTo M d 0 = M := by unfold shTo; simp
theorem Zapr (M : List Line) (d : Int) : shTo M d M.length = M.map (shf d) := by unfold shTo; simp
theorem Zavz {M : List Line} {d : Int} {k : Nat} (h : k < M.length) : (shTo M d k)[k]'(by rw [Zacq]; exact h) = M[k] := by
 unfold shTo;rw [Yec (by rw [Yax, Yad]; omega)]
 simp only [Yax, Yad, Ybb (Yeh h), Yep];rw [Ydl]; rfl
theorem Zakb {M : List Line} {d : Int} {k : Nat} (h : k < M.length) : lines (shTo M d (k + 1)) = (lines (shTo M d k)).set (k * 3) (.int .i64 (M[k].depth - d)) := by
 unfold shTo;rw [Yay h, Yau h, Ybs, Ybl];show lines ((M.take k).map (shf d) ++ ([shf d M[k]] ++ M.drop (k + 1))) = _;rw [Zaz, Zaz, Zaz, Znd];have hl : (lines ((M.take k).map (shf d))).length = k * 3 := by rw [Zac, Yax, Yad, Ybb (Yeh h)]
 have h2 : lines (M[k] :: M.drop (k + 1)) = [.int .i64 M[k].depth, .string M[k].word, .int .i64 M[k].mark] ++ lines (M.drop (k + 1)) := by
  rw [show M[k] :: M.drop (k + 1) = [M[k]] ++ M.drop (k + 1) from rfl, Zaz, Znd]; rfl
 rw [h2, List.set_append_right _ _ (by omega), hl, Yep]
 rfl
theorem Zani (L : List Line) (n : Nat) : ((L.drop n).take (endB L n - n)).map (shf (Zan L n)) = subL L n := rfl
end Sch
namespace Go.Proofs.Zq
open Tryz
open Go Go.RowKit Go.Sort Sch Adr Mtr Tre
theorem Zago (ad : Addr) (n c : Nat) (M : List Line) (w : World) (hR : Rd w 3 (some ad) n (lines M)) (hn : M.length = n) (hb : n ≤ 1000000) :
 Calls prog 54 #[.slice (some ad) n c] w fun e w' => (∃ v, e = .returned v ∧ w'.ownsRow w.heap.size 62 3 v n (lines M)) ∧ Below w.heap.size w w' := by
 obtain ⟨i0, hii, hz0, hz1, hz2⟩ := info_parts Zkn;obtain ⟨wo, hwo⟩ : ∃ wo, w.alloc (.cells #[] 62) = wo := ⟨_, rfl⟩;have hbo : Below w.heap.size w wo := by rw [← hwo]; exact (Yac _ _).alloc (Yaf _) _
 have hown : wo.ownsRow w.heap.size 62 3 (.slice (some ⟨w.heap.size, 0, none⟩) 0 0) 0 [] := by
  rw [← hwo];have := World.ownsRow_lit (e := 62) (size := 3) (base := w.heap.size) w #[] 0 (Yaf _) (by unfold maxLen; omega) rfl
  simpa using this
 have HR := _root_.Zhd (hR.below hbo);have HO := _root_.Zhd hown;have HBo := _root_.Zhd hbo;have HM := _root_.Zhd hn;have HC : Hid (∀ u ∈ lines M, u.oneCell' = true) := Zig _;have heq := fun wx : World => Lib.run_eql_slice_nil (P := prog) wx 25 62 (some ad) n c 0 0 underlying25
 have HN : Hid (0 + n ≤ 1000000000) := by show _ ≤ _; omega
 clear hR hown hbo hn;go_enter func54, ntmps54;go_wp2_with (at_builtin; (refine Zabg rfl _ _ 25 rfl w wo 62 i0 _ 3 32 underlying25 hii hz0 hz1 hz2 rfl (by decide) (by decide) HO.out HBo.out rfl (some ad) n c (lines M) rfl HR.out (fun h => by cases h) HC.out HN.out ?_; intro v1 w3 hown1 hb3))
 have HO3 : Hid (w3.ownsRow w.heap.size 62 3 v1 n (lines M)) := by show World.ownsRow _ _ _ _ _ _ _; simpa using hown1
 clear hown1;go_wp2_with fail;go_ret;exact ⟨⟨_, rfl, HO3.out⟩, hb3⟩
def Zadw (L : List Line) (n : Nat) (w : World) (e : Ending) (w' : World) : Prop :=
 (∃ v, e = .returned v ∧ w'.ownsRow w.heap.size 62 3 v (subL L n).length (lines (subL L n))) ∧ Below w.heap.size w w'
theorem Zyw (A : Option Addr) (cap : Nat) (L : List Line) (n : Nat) (w : World) (hR : Rd w 3 A L.length (lines L)) (hcap : L.length ≤ cap) (hc : cap ≤ maxLen) (hr : Zab L = true) (hn : n < L.length) :
 Calls prog 74 #[.slice A L.length cap, .int .i64 n] w (Zadw L n w) := by
 have HTh := Zgm A cap L n w hR hcap hc;rw [Zfc hr hn] at HTh;have HT := _root_.Zhd HTh;have HEn := _root_.Zhd (fun W (hb : Below w.heap.size w W) => Zyo A cap L n W (hR.below hb) hcap hc hr hn)
 have he := Zbb L n hn;obtain ⟨B, O, rfl, hab, hadd, x0, -, -⟩ := hR.line hn;have h200 := Zas hr;have hdb := Zme hr hn;have HD : Hid (Zan L n = L[n].depth) := Zaw hn;have HSH := _root_.Zhd (Zani L n);have hMR : Rd w 3 (some ⟨B, O + n * 3, none⟩) (endB L n - n) (lines ((L.drop n).take (endB L n - n))) := Zwa (by rw [Yam]; exact Zrf hR (Yeh hn)) (by rw [Yam]; omega)
 have hMl : ((L.drop n).take (endB L n - n)).length = endB L n - n := by rw [Yad, Yam]; omega
 have HMD : Hid (∀ k, (h : k < ((L.drop n).take (endB L n - n)).length) → 0 ≤ ((L.drop n).take (endB L n - n))[k].depth ∧ ((L.drop n).take (endB L n - n))[k].depth < 16) := fun k h => by
  rw [Yct, Ydl]; exact Zme hr _
 have HX0 := _root_.Zhd x0;unfold maxLen at hc;generalize endB L n = E at *;have hsub : (E : Int) - (n : Int) = ((E - n : Nat) : Int) := by omega
 have hsub2 : (cap : Int) - (n : Int) = ((cap - n : Nat) : Int) := by omega
 have hnE : (n : Int) ≤ (E : Int) := by omega
 have hEc : (E : Int) ≤ (cap : Int) := by omega
 have hnc : ¬ (cap = n) := by omega
 have hnc2 : ¬ (n = cap) := by omega
 rw [HD.out] at HSH;generalize L[n].depth = d at *;generalize (L.drop n).take (E - n) = M at *;have HMR := _root_.Zhd hMR;have HML := _root_.Zhd hMl;have hdb1 := hdb.1;have hdb2 := hdb.2;have HRL := _root_.Zhd hR;have hEL : E - n ≤ 1000000 := by omega
 clear hR hMR hMl hdb x0;go_enter func74, ntmps74;go_wp2_with fail;refine HT.out.mono ?_;rintro e w1 ⟨rfl, hb1⟩;have HB1 := _root_.Zhd hb1;clear HT HTh hb1;go_wp2_with fail;refine (HEn.out w1 HB1.out).mono ?_;rintro e w2 ⟨rfl, hb2⟩;have HB2 := _root_.Zhd (Zaa HB1.out hb2);clear HEn HB1 hb2;have HCl := _root_.Zhd (Zago ⟨B, O + n * 3, none⟩ (E - n) (cap - n) M w2 (HMR.out.below HB2.out) HML.out hEL);have HB2z : Hid (w.heap.size ≤ w2.heap.size) := HB2.out.size;go_wp2_with fail;refine HCl.out.mono ?_;rintro e w3 ⟨⟨v, rfl, hown⟩, hb3⟩;have HB3 := _root_.Zhd (Zaa HB2.out hb3);have hown' := Zkv hown HB2z.out
 obtain ⟨g, c5, hv⟩ : ∃ g c5, v = .slice (some ⟨g, 0, none⟩) (E - n) c5 := by
  rcases hown'.2 with ⟨-, h⟩ | ⟨g, cap', cur, h, -⟩
  · omega
  · exact ⟨g, cap', h⟩
 subst hv;have hg := (hown'.lt g rfl).1
 have HO : Hid (w3.ownsRow w.heap.size 62 3 (.slice (some ⟨g, 0, none⟩) (E - n) c5) (E - n) (lines (shTo M d 0))) := by
  show World.ownsRow _ _ _ _ _ _ _;rw [Zaky]; exact hown'
 have hcc : E - n ≤ c5 ∧ c5 ≤ maxLen := by
  rcases hown'.2 with ⟨h, -⟩ | ⟨g', cap', cur, h, -, -, h1, h2, -⟩
  · cases h
  · injection h with h3 h4 h5
    subst h5;exact ⟨h1, h2⟩
 have HCC := _root_.Zhd hcc;clear HCl hown hown' hb3 HB2 HB2z;generalize E - n = m at *;go_wp2;go_loopw [20] (fun vi wr => ∃ k : Nat, k ≤ m ∧ vi = .int .i64 k ∧ Hid (wr.ownsRow w.heap.size 62 3 (.slice (some ⟨g, 0, none⟩) m c5) m (lines (shTo M d k))) ∧ Hid (Below w.heap.size w wr)) (fun vi _ => m - (intOf vi).toNat)
 case atStart => exact ⟨0, Yav _, rfl, HO, HB3⟩
 case round =>
  clear HO HB3;obtain ⟨k, hk, rfl, HO, HB⟩ := hrel;by_cases hlt : k < m
  · have hkM : k < M.length := by rw [HML.out]; exact hlt
    have hkc := HO.out.cellAt (k * 3) (by omega)
    have hfz := HO.out.frozenAt (k * 3);have hxb := HMD.out k hkM;have hst := HO.out.stored (k * 3) (.int .i64 (M[k].depth - d));rw [← Zakb hkM] at hst
    have hget : (lines (shTo M d k))[k * 3]? = some (.int .i64 M[k].depth) := by
     have := Zhr (shTo M d k) k 0 (by rw [Zacq]; exact hkM) (by omega)
     rw [Zavz hkM] at this;simpa [Line.cells] using this
    rw [hget] at hkc;have y0 := (HB.out.cell (p := ⟨B, O + n * 3, none⟩) hab).trans HX0.out;have hadd2 : (⟨g, 0, none⟩ : Addr).add (k * 3) = ⟨g, k * 3, none⟩ := by rw [Zae]; simp
    have hmi : (k : Int) < (m : Int) := by omega
    have hk0 : (0 : Int) ≤ (k : Int) := by omega
    have hni : (n : Int) < (L.length : Int) := by omega
    have hn0 : (0 : Int) ≤ (n : Int) := by omega
    generalize M[k].depth = x at *;obtain ⟨hx1, hx2⟩ := hxb;have HST := _root_.Zhd hst;clear hst hget;go_wp2_with fail;go_still_tail 13, (by kernel_rfl)
    change wpList _ _ _ _ _ wr.drew;have HS2 : Hid ((wr.drew.setCell ⟨g, k * 3, none⟩ (.int .i64 (x - d))).ownsRow w.heap.size 62 3 (.slice (some ⟨g, 0, none⟩) m c5) m (lines (shTo M d (k + 1)))) := HST.out.1.drew;have HB4 : Hid (Below w.heap.size w (wr.drew.setCell ⟨g, k * 3, none⟩ (.int .i64 (x - d)))) := (below_drewN HB.out 1).setCell hg _;clear HST HB HO;go_wp2;go_roundw
    case rel => exact ⟨k + 1, by omega, by go_num, HS2, HB4⟩
    case measure => simp [intOf]; omega
  · obtain rfl : k = m := by omega
    have HF : Hid (Zadw L n w (.returned (.slice (some ⟨g, 0, none⟩) k c5)) wr) := by
     refine ⟨⟨_, rfl, ?_⟩, HB.out⟩;rw [← HSH.out, Yax, HML.out];have := HO.out;rw [← HML.out] at this
     conv at this => rhs; rw [Zapr]
     rw [HML.out] at this;exact this
    clear HO HB;go_wp2;go_ret;exact HF.out
end Go.Proofs.Zq
namespace Edt
open Go Go.Lib Tre Sch Lns
def Zdy : ByteArray := ⟨#[103, 114, 111, 117, 112, 115]⟩
def Zgs : ByteArray := ⟨#[97, 112, 112, 108, 121]⟩
def ownB (s : ByteArray) : Bool := (s.toList == Zdy.toList) || (s.toList == Zgs.toList)
def Zml (q : List ByteArray) : Bool := !ownB (q.headD ⟨#[]⟩)
def expP (L : List Line) : List (List ByteArray) := (actP L).filter Zml
def Zit (L : List Line) : List Line := ofS (expP L) Zgz
theorem Znr {L : List Line} (hr : Zab L = true) : Zab (Zit L) = true ∧ Zaf (Zit L) = expP L ∧ (∀ q, q ∈ expP L → stB (Zit L) q = 0) ∧ ∀ q, ¬ q ∈ expP L → stB (Zit L) q = -1 := by
 have hl1 := Ycc Zml (actP L);have hl2 := Ycc (onB L) (Zaf L);rw [Zag] at hl2;refine Zrx (Zrb (Zaed hr) fun q hq h => ?_) (Yas hl1 (Yas hl2 (Zad hr).1)) fun q hq => ⟨Zkj hr (Yde.1 (Yde.1 hq).1).1, Int.le_refl _, (by show (0 : Int) ≤ 3; decide)⟩
 cases q with
 | nil => exact .inl rfl
 | cons a r =>
   cases r with
   | nil => exact .inl rfl
   | cons b r => exact .inr h
section
variable {L : List Line} (hr : Zab L = true)
include hr
theorem Zaqi : (Zaq L).getD 0 L.length = 0 := by
 have hs := Zko L;rcases Ybn L.length with h0 | h0
 · have : Zaq L = [] := by unfold Zaq kidsTo; rw [h0]; rfl
   rw [this, h0]; rfl
 · have hm : 0 ∈ Zaq L := Zba.2 ⟨h0, Yaf _, Zuc (Zad hr).2.1 h0⟩;cases hk : Zaq L with
   | nil => rw [hk] at hm; cases hm
   | cons a r =>
     rw [hk] at hm hs;rcases Yaw.1 hm with h | h
     · rw [← h]; rfl
     · have := (Ycb.1 hs).1 0 h;omega
theorem Zapy {j : Nat} (hj : j < (Zaq L).length) : endB L (Zaq L)[j] = (Zaq L).getD (j + 1) L.length := by
 have hs := Zko L;have hmem := Yat hj;obtain ⟨g1, -, g3⟩ := Zba.1 hmem;obtain ⟨e1, e2⟩ := Zbb L _ g1;rw [Yds] at hs
 have hin : ∀ k, (Zaq L)[j] < k → k < endB L (Zaq L)[j] → ¬ k ∈ Zaq L := fun k h1 h2 h3 => by
  have h4 := Ztd g1 h1 h2;have h5 := (Zba.1 h3).2.2;omega
 by_cases hn : j + 1 < (Zaq L).length
 · rw [Yap, Yag hn, Yez];have h1 := hs j (j + 1) hj hn (by omega)
   have h2 : endB L (Zaq L)[j] ≤ (Zaq L)[j + 1] := by
    rcases Ybp (Zaq L)[j + 1] (endB L (Zaq L)[j]) with h | h
    · exact absurd (Yat hn) (hin _ h1 h)
    · exact h
   have h3 := (Zba.1 (Yat hn)).1;have h4 : endB L (Zaq L)[j] < L.length := by omega
   have h5 := Zrz g1 h4;have h6 := (Zcf (Zad hr).2.1 h4).1;have h7 : endB L (Zaq L)[j] ∈ Zaq L := Zba.2 ⟨h4, Yav _, by omega⟩
   obtain ⟨k, hk, hk2⟩ := Ybo h7;rcases Nat.lt_trichotomy k (j + 1) with h | h | h
   · rcases Ybp k j with h8 | h8
     · have := hs k j hk hj h8;omega
     · have h9 : k = j := by omega
       subst h9;omega
   · subst h;omega
   · have := hs (j + 1) k hn hk h;omega
 · rw [Yap, List.getElem?_eq_none (by omega), Option.getD_none]
   rcases Ybp (endB L (Zaq L)[j]) L.length with h4 | h4
   · have h5 := Zrz g1 h4;have h6 := (Zcf (Zad hr).2.1 h4).1;have h7 : endB L (Zaq L)[j] ∈ Zaq L := Zba.2 ⟨h4, Yav _, by omega⟩
     obtain ⟨k, hk, hk2⟩ := Ybo h7;rcases Ybp k j with h8 | h8
     · have := hs k j hk hj h8;omega
     · have h9 : k = j := by omega
       subst h9;omega
   · omega
theorem Zaqn {i k : Nat} (hi : i < L.length) (hd : Zan L i = 0) (hk : k < L.length) (h1 : i ≤ k) (h2 : k < endB L i) : (pa L k).headD ⟨#[]⟩ = Zbd L i := by
 obtain ⟨s, hs⟩ := (Zdo hr hi hk).2 ⟨h1, h2⟩;have h3 := Zbw (Zad hr).2.1 hi;have h4 := Zgg hr hi;rw [hd] at h3;cases hp : pa L i with
 | nil => rw [hp] at h3; simp at h3
 | cons a r =>
   rw [hp] at h3 h4 hs;have hr0 : r = [] := Yaq (by simpa using h3)
   subst hr0;rw [hs, ← h4]; rfl
end
theorem Zaep {α : Type} (l : List α) (f : α → Bool) {i e : Nat} (h : i ≤ e) (hf : ∀ k (hk : k < l.length), i ≤ k → k < e → f l[k] = true) : (l.take e).filter f = (l.take i).filter f ++ (l.drop i).take (e - i) := by
 have e1 : l.take e = l.take i ++ (l.drop i).take (e - i) := by
  rw [← List.take_add];congr 1;omega
 rw [e1, Yco];congr 1;rw [List.filter_eq_self];intro x hx;obtain ⟨k, hk, rfl⟩ := Ybo hx;rw [Yad, Yam] at hk;rw [Yct, Ydl];exact hf _ _ (by omega) (by omega)
theorem Zaqg {L : List Line} (hr : Zab L = true) {j : Nat} (hj : j < (Zaq (Zaj L)).length) :
 ofS (((actP L).take ((Zaq (Zaj L)).getD (j + 1) (Zaj L).length)).filter Zml) Zgz = ofS (((actP L).take (Zaq (Zaj L))[j]).filter Zml) Zgz ++ if ownB (Zbd (Zaj L) (Zaq (Zaj L))[j]) then [] else subL (Zaj L) (Zaq (Zaj L))[j] := by
 obtain ⟨a1, a2, -, -⟩ := Zed hr;obtain ⟨g1, -, g3⟩ := Zba.1 (Yat hj);obtain ⟨e1, e2⟩ := Zbb _ _ g1;rw [← Zapy a1 hj];obtain ⟨i, hi⟩ : ∃ i, (Zaq (Zaj L))[j] = i := ⟨_, rfl⟩;obtain ⟨en, hen⟩ : ∃ en, endB (Zaj L) i = en := ⟨_, rfl⟩;rw [hi] at g1 g3 e1 e2 ⊢;have hth := fun k (hk : k < (Zaj L).length) h1 h2 => Zaqn a1 g1 g3 (k := k) hk h1 h2
 rw [hen] at hth e1 e2 ⊢;have hsl : (actP L).length = (Zaj L).length := by rw [← Zag (Zaj L), a2]
 have hpk : ∀ k (hk : k < (actP L).length), (actP L)[k] = pa (Zaj L) k := fun k hk => by
  rw [Zfh (by omega : k < (Zaj L).length)]
  exact List.getElem_of_eq a2.symm _
 cases ho : ownB (Zbd (Zaj L) i) with
 | true =>
   rw [Yan rfl, Ybg];congr 1;refine Zlq (actP L) Zml (i := i) (e := en) (by omega) fun k hk h1 h2 => ?_
   rw [hpk];unfold Zml;rw [hth k (by omega) h1 h2, ho]; rfl
 | false =>
   rw [Yab (by simp), Zaep (actP L) Zml (i := i) (e := en) (by omega) (fun k hk h1 h2 => by
    rw [hpk];unfold Zml;rw [hth k (by omega) h1 h2, ho]; rfl)]
   unfold ofS;rw [Ybs];congr 1;unfold subL;rw [g3, hen]
   have hid : ((Zaj L).drop i).take (en - i) = (((actP L).drop i).take (en - i)).map (Zib Zgz) := by
    rw [List.map_take, List.map_drop]; rfl
   rw [hid, Yeo];refine List.map_congr_left fun q _ => ?_
   show Zib Zgz q = ⟨(Zib Zgz q).depth - 0, (Zib Zgz q).word, (Zib Zgz q).mark⟩;rw [Int.sub_zero]
end Edt
namespace Go.Proofs.Zq
open Tryz
open Go Go.RowKit Go.Sort Tre Lx Prs Lns Edt Sch
theorem Zakc (s : ByteArray) (w : World) : Calls prog 73 #[.string s] w fun e w' => e = .returned (.bool (ownB s)) ∧ w' = w := by
 unfold ownB;have hg : Zdy.toList = [103, 114, 111, 117, 112, 115] := by rw [Lib.toList_data]; rfl
 have ha : Zgs.toList = [97, 112, 112, 108, 121] := by rw [Lib.toList_data]; rfl
 rw [hg, ha];cases h1 : (s.toList == [103, 114, 111, 117, 112, 115]) with
 | true =>
   go_enter func73, ntmps73;go_wp2;go_ret;exact ⟨rfl, rfl⟩
 | false =>
   cases h2 : (s.toList == [97, 112, 112, 108, 121]) with
   | true =>
     go_enter func73, ntmps73;go_wp2;go_ret;exact ⟨rfl, rfl⟩
   | false =>
     go_enter func73, ntmps73;go_wp2;go_ret;exact ⟨rfl, rfl⟩
theorem subL_len {L : List Line} {i : Nat} (hi : i < L.length) : 0 < (subL L i).length ∧ (subL L i).length ≤ L.length := by
 obtain ⟨g1, g2⟩ := Zbb L i hi;unfold subL;rw [Yax, Yad, Yam];omega
theorem Zoy (v : Value) (L : List Line) (w : World) (hL : Lr w v L) (hr : Zab L = true) :
 Calls prog 39 #[v] w fun e w' => (∃ v', e = .returned (.tuple #[v', .int .i64 0]) ∧ w'.ownsRow w.heap.size 62 3 v' (Zit L).length (lines (Zit L))) ∧ Below w.heap.size w w' := by
 obtain ⟨j0, hj, hy0, hy1, hy2⟩ := info_parts Zha;have HA := _root_.Zhd (Znu v L w hL hr);have ha := (Zed hr).1;have HSt := _root_.Zhd (fun j (hj : j < (Zaq (Zaj L)).length) => Zaqg hr hj)
 have HZ := _root_.Zhd (Zaqi ha);have HF : Hid (ofS ((actP L).filter Zml) Zgz = Zit L) := rfl;have hsl : (actP L).length = (Zaj L).length := (Zls _ _).symm;have HSl := _root_.Zhd hsl;have HX := _root_.Zhd (fun (A : Option Addr) (c : Nat) (W : World) (h1 : Rd W 3 A (Zaj L).length (lines (Zaj L))) (h2 : (Zaj L).length ≤ c) (h3 : c ≤ maxLen) => Zuz A c (Zaj L) W h1 h2 h3 ha)
 have HSb := _root_.Zhd (fun (A : Option Addr) (c : Nat) (n : Nat) (W : World) (h1 : Rd W 3 A (Zaj L).length (lines (Zaj L))) (h2 : (Zaj L).length ≤ c) (h3 : c ≤ maxLen) (hn : n < (Zaj L).length) => Zyw A c (Zaj L) n W h1 h2 h3 ha hn)
 have h200 := Zas ha;unfold Zgp at HX;unfold Zadw at HSb;have HKl : Hid (∀ j (hj : j < (Zaq (Zaj L)).length), (Zaq (Zaj L))[j] < (Zaj L).length) := fun j hj => (Zba.1 (Yat hj)).1
 have hkl : (Zaq (Zaj L)).length ≤ (Zaj L).length := kidsTo_len _ _ _ _;clear hL hr ha hsl;generalize hac : Zaj L = a at *;generalize actP L = S at *;clear hac;go_enter func39, ntmps39;go_wp2_with fail;refine HA.out.mono ?_;rintro e w1 ⟨⟨v1, rfl, ho1⟩, hb1⟩;obtain ⟨A, c, e1, g1, g2, g3⟩ := Zbc ho1;subst e1;have HB1 := _root_.Zhd hb1;have HR1 := _root_.Zhd g3;have HK1 := _root_.Zhd (HX.out A c w1 g3 g1 g2);clear HA ho1 hb1 g3 HX;go_wp2_with fail;refine HK1.out.mono ?_;rintro e w2 ⟨Ak, ck, rfl, -, -, hRk, hb2⟩;have HB2 := _root_.Zhd (Zaa HB1.out hb2);have HR2 := _root_.Zhd (HR1.out.below hb2);have HRk := _root_.Zhd hRk;clear hRk hb2 HR1 HK1 HB1;obtain ⟨K, hK⟩ : ∃ K, Zaq a = K := ⟨_, rfl⟩;rw [hK] at HSt HZ HRk HKl hkl ⊢;clear hK;go_wp2;go_loopw [6, 20] (fun vo vj wr => ∃ j : Nat, vj = .int .i64 j ∧ j ≤ K.length ∧ Hid (wr.ownsRow w2.heap.size 62 3 vo (ofS ((S.take (K.getD j a.length)).filter Zml) Zgz).length (lines (ofS ((S.take (K.getD j a.length)).filter Zml) Zgz))) ∧ Hid (Below w2.heap.size w2 wr)) (fun _ vj _ => K.length - (intOf vj).toNat)
 case atStart =>
  refine ⟨0, rfl, Yav _, ?_, Yac _ _⟩;show World.ownsRow _ _ _ _ _ _ _;rw [HZ.out];exact World.ownsRow_nil _ _ _ _
 case round =>
  obtain ⟨j, rfl, hj', HO, HB⟩ := hrel;by_cases hlt : j < K.length
  · have hst := HSt.out j hlt;have hil := HKl.out j hlt;obtain ⟨bk, ok, rfl, habk, haddk, xk⟩ := HRk.out.intAt hlt;have x0 := (HB.out.cell (p := ⟨bk, ok + j, none⟩) habk).trans xk;have hgd : K.getD j a.length = K[j] := by rw [Yap, Yag hlt]; rfl
    rw [hgd] at HO;generalize K[j] = i at *;obtain ⟨B, O, rfl, hab, hadd, -, y1, -⟩ := HR2.out.line hil;have x1 := (HB.out.cell (p := ⟨B, O + i * 3 + 1, none⟩) hab).trans y1;have hwd : Zbd a i = a[i].word := Zbi hil;rw [hwd] at hst;have HOw := _root_.Zhd (Zakc a[i].word wr);have hjI : (j : Int) < (K.length : Int) := by omega
    have hiI : (i : Int) < (a.length : Int) := by omega
    generalize a[i].word = sw at *
    have hol : (ofS ((S.take i).filter Zml) Zgz).length ≤ 200 := by
     rw [Zls];exact Yas (Ycc _ _) (by rw [Yad, HSl.out]; omega)
    clear hgd hwd y1 xk;cases hon : ownB sw with
    | true =>
      rw [hon, Yan rfl, Ybg] at hst;rw [hon] at HOw;have ho := HO.out;rw [← hst] at ho;have HO2 := _root_.Zhd ho;clear hst hon ho HO;go_wp2_with fail;refine HOw.out.mono ?_;rintro e w3 ⟨rfl, rfl⟩;go_wp2;go_roundw
      case rel => exact ⟨j + 1, by go_num, by omega, HO2, HB⟩
      case measure => simp [intOf]; omega
    | false =>
      rw [hon, Yab (by simp)] at hst
      rw [hon] at HOw;have HSu := _root_.Zhd (HSb.out (some ⟨B, O, none⟩) c i wr (HR2.out.below HB.out) g1 g2 hil);obtain ⟨hs1, hs2⟩ := subL_len hil;generalize subL a i = M at *;have HS2 := _root_.Zhd hst;clear hst hon;go_wp2_with fail;refine HOw.out.mono ?_;rintro e w3 ⟨rfl, rfl⟩;go_wp2_with fail;refine HSu.out.mono ?_;rintro e w4 ⟨⟨v4, rfl, ho4⟩, hb4⟩;obtain ⟨m, hm⟩ : ∃ m, M.length = m + 1 := ⟨M.length - 1, by omega⟩
      have ho4' := ho4;rw [hm] at ho4';obtain ⟨q, cc, e4⟩ := Zck ho4';rw [← hm] at e4;subst e4;have HB4 := _root_.Zhd (Zaa HB.out hb4);have HO4 := _root_.Zhd (Zah HO.out hb4);have HSr := _root_.Zhd (Zqi (Zkb ho4).1);have hml := Zac M;clear ho4' hm ho4 hb4 HO HB HSu HOw;go_wp2_with (at_builtin; refine Zsy rfl _ _ 25 rfl w2 w4 62 j0 _ 3 32 underlying25 hj hy0 hy1 hy2 rfl (by decide) (by decide) HO4.out HB4.out rfl ⟨q, 0, none⟩ M.length cc (lines M) rfl hml HSr.out (Zif M) (by omega) ?_; intro v5 w5 hown5 hb5 hk5)
      have ho5 : w5.ownsRow w2.heap.size 62 3 v5 (ofS ((S.take i).filter Zml) Zgz ++ M).length (lines (ofS ((S.take i).filter Zml) Zgz ++ M)) := by rw [Yaj, Zaz]; exact hown5
      rw [← HS2.out] at ho5;have HO5 := _root_.Zhd ho5;have HB5 := _root_.Zhd hb5;clear ho5 hown5 hb5 hk5 HO4 HB4 HSr hml;go_wp2_with fail;go_roundw
      case rel => exact ⟨j + 1, by go_num, by omega, HO5, HB5⟩
      case measure => simp [intOf]; omega
  · have hje : K.getD j a.length = a.length := by
     rw [Yap, List.getElem?_eq_none (by omega)]; rfl
    have ho := HO.out;rw [hje, Ybj (by rw [HSl.out]; omega), HF.out] at ho
    have HO2 := _root_.Zhd ho;have hnI : ¬ ((j : Int) < (K.length : Int)) := by omega
    have HBf := _root_.Zhd (Zaa HB2.out HB.out);have hz2 := HB2.out.size;clear ho hje HO;go_wp2;go_ret2;exact ⟨⟨_, rfl, HO2.out.mono hz2⟩, HBf.out⟩
end Go.Proofs.Zq
