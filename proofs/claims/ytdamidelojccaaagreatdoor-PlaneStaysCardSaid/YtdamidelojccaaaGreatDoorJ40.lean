import Derived.Test.YtdamidelojccaaaGreatDoorJ39
set_option linter.unusedVariables false
set_option linter.unusedSimpArgs false
set_option maxHeartbeats 2000000
set_option maxRecDepth 100000
namespace Go.Proofs.Zq
open Tryz
open Go Go.ChangeShapes Go.WideShapes Go.Deep Go.RowKit Edt Tre
structure OpM where
 o : Opp
 who : Int
 A : Option Addr
 c : Nat
def OpM.cells (x : OpM) : List Value := [.int .i64 x.o.kind, .int .i64 x.who, .slice x.A x.o.path.length x.c, .string x.o.word, .int .i64 x.o.bit, .int .i64 x.o.n, .string x.o.text]
def opcs (L : List OpM) : List Value := L.flatMap OpM.cells
theorem Zmc (L : List OpM) : (opcs L).length = L.length * 7 := by
 unfold opcs
 induction L with
 | nil => rfl
 | cons x L ih => rw [Ybt, Yaj, ih, Ybi, Nat.add_mul]; simp [OpM.cells]; omega
theorem Zvu (L : List OpM) (i j : Nat) (hi : i < L.length) (hj : j < 7) : (opcs L)[i * 7 + j]? = (L[i].cells)[j]? := by
 unfold opcs
 induction L generalizing i with
 | nil => simp at hi
 | cons x L ih =>
   have he : x.cells.length = 7 := rfl;cases i with
   | zero => rw [Ybt, Ycf (by rw [he]; omega)]; simp
   | succ i =>
     rw [Ybt, Ybh (by rw [he]; omega), show (i + 1) * 7 + j - x.cells.length = i * 7 + j by rw [he]; omega]
     simpa using ih i (by simpa using hi)
def OpM.Ok (w : World) (x : OpM) : Prop := Rd w 1 x.A x.o.path.length (sv x.o.path) ∧ x.o.path.length ≤ x.c ∧ x.c ≤ maxLen ∧ -9223372036854775808 ≤ x.o.n ∧ x.o.n ≤ 9223372036854775807
theorem OpM.Ok.below {w w' : World} {x : OpM} (h : x.Ok w) (hb : Below w.heap.size w w') : x.Ok w' := ⟨h.1.below hb, h.2⟩
def Ops (w : World) (A : Option Addr) (L : List OpM) : Prop := Rd w 7 A L.length (opcs L) ∧ ∀ x ∈ L, x.Ok w
theorem Ops.below {w w' : World} {A : Option Addr} {L : List OpM} (h : Ops w A L) (hb : Below w.heap.size w w') : Ops w' A L := ⟨h.1.below hb, fun x hx => (h.2 x hx).below hb⟩
section
variable {H : Type} {enc : TypeId × Value → H} {P : Program} {w : World} {base : Nat} {spare : Nat → Bool} {held : Bool}
theorem Zaoe {e : TypeId} {fs : Array Field} {n : Nat} {b : Addr} {x : DataW H × List MemPlace} {cs : List Value} (he : P.underlying e = some (.struct fs)) (hone : oneCellFields P fs = true) (hC : P.cellsOf e = fs.size)
 (hc : w.cells? base b (P.cellsOf e) = some cs) (ht : DataW.trod enc P w base spare held n e cs = some x) (j : Nat) (f : Field) (hj : fs[j]? = some f) :
 ∃ v y m, w.cell? (b.add j) = some v ∧ DataW.trod enc P w base spare held m f.type [v] = some y := by
 obtain ⟨ys, m, -, -, -, hyl, hf⟩ := DataW.trod_struct he ht;obtain ⟨-, hl, hat⟩ := World.cells?_some hc;obtain ⟨ho, hk⟩ := hone_of hone j f hj;have hjs : j < fs.size := (Ybc.1 hj).1;have hjc : j < cs.length := by omega
 have hd : (cs.drop j).take 1 = [cs[j]] := by rw [Yay hjc]; rfl
 have h1 := hf j f hj;rw [ho, hk, hd] at h1;exact ⟨cs[j], ys[j]'(by omega), m, (hat j (by omega)).trans (Yag hjc), h1.trans (Yag (by omega))⟩
theorem Zave {t e : TypeId} {n : Nat} {v : Value} {y : DataW H × List MemPlace} (ht : P.underlying t = some (.slice e)) (he : P.underlying e = some .string) (hC : P.cellsOf e = 1) (h : DataW.trod enc P w base spare held n t [v] = some y) :
 ∃ (A : Option Addr) (cap : Nat) (L : List ByteArray), v = .slice A L.length cap ∧ L.length ≤ cap ∧ cap ≤ maxLen ∧ Rd w 1 A L.length (sv L) := by
 rcases open_slice1 ht hC h with ⟨hcs, -⟩ | ⟨a, len, cap, m, n, V, D, Pl, hcs, -, hl, hm, hmm, -, hi⟩
 · injection hcs with hcs
   exact ⟨none, 0, [], hcs, Yaf _, by unfold maxLen; omega, Rd.nil⟩
 · injection hcs with hcs
   have hlm : len ≤ m := by rw [hmm]; split <;> omega
   have each : ∀ i, ∃ x : ByteArray, i < len → w.cell? (a.add i) = some (.string x) := by
    intro i;by_cases hlt : i < len
    · obtain ⟨h1, h2⟩ := hi i (by omega)
      obtain ⟨s1, e1, -⟩ := DataW.trod_string he h2;injection e1 with e1
      exact ⟨s1, fun _ => by rw [h1, e1]⟩
    · exact ⟨⟨#[]⟩, fun h => absurd h hlt⟩
   obtain ⟨f, hfx⟩ := Classical.axiomOfChoice each;refine ⟨some a, cap, (List.range len).map f, by rw [hcs]; simp, by simpa using hl, hm, by rw [Zid, Nat.mul_one], fun hn => ?_⟩
   have hn' : 0 < len := by simpa using hn
   refine ⟨a, rfl, Lib.lt_of_cell (a := a) (by have := hfx 0 hn'; simpa [Addr.add] using this), fun j u hu => ?_⟩
   have hj : j < len := by
    have := (Yba.1 hu).1;rw [Zid] at this;simpa using this
   rw [Zja (by simpa using hj)] at hu
   rw [← hu, hfx j hj]; simp
theorem open_ops {r : Reach} {b0 : Nat} {t e tp : TypeId} {f0 f1 f2 f3 f4 f5 f6 : Field} {v : Value} {d : DataW H} {p : List MemPlace} (ht : P.underlying t = some (.slice e)) (he : P.underlying e = some (.struct #[f0, f1, f2, f3, f4, f5, f6]))
 (hone : oneCellFields P #[f0, f1, f2, f3, f4, f5, f6] = true) (hC : P.cellsOf e = 7) (u0 : P.underlying f0.type = some (.int .i64)) (u1 : P.underlying f1.type = some (.int .i64)) (u2 : P.underlying f2.type = some (.slice tp)) (u3 : P.underlying f3.type = some .string) (u4 : P.underlying f4.type = some (.int .i64)) (u5 : P.underlying f5.type = some (.int .i64)) (u6 : P.underlying f6.type = some .string)
 (us : P.underlying tp = some .string) (uc : P.cellsOf tp = 1) (hv : Value.okWide P w r b0 t v) (h : DataW.Trod enc P w base spare held t v d p) :
 ∃ (A : Option Addr) (cap : Nat) (L : List OpM), v = .slice A L.length cap ∧ L.length ≤ cap ∧ cap ≤ maxLen ∧ Ops w A L := by
 obtain ⟨a0, len, cap, rfl⟩ := okWide_slice ht hv;obtain ⟨fuel, hf⟩ := h;rcases open_slice ht hf with ⟨hcs, -⟩ | ⟨a, len', cap', m, n, D, Pl, hcs, -, hl, hm, hmm, -, hi⟩
 · simp [Value.cells] at hcs;obtain ⟨rfl, rfl, rfl⟩ := hcs;exact ⟨none, 0, [], rfl, Yaf _, by unfold maxLen; omega, Rd.nil, fun x hx => by cases hx⟩
 · simp [Value.cells] at hcs;obtain ⟨rfl, rfl, rfl⟩ := hcs;have hlm : len ≤ m := by rw [hmm]; split <;> omega
   have each : ∀ i, ∃ x : OpM, i < len → x.Ok w ∧ ∀ j, j < 7 → w.cell? (a.add (i * 7 + j)) = (x.cells)[j]? := by
    intro i;by_cases hlt : i < len
    · obtain ⟨cs, hc, htr⟩ := hi i (by omega)
      have F := Zaoe he hone hC hc htr;obtain ⟨v0, y0, m0, c0, t0⟩ := F 0 f0 rfl;obtain ⟨v1, y1, m1, c1, t1⟩ := F 1 f1 rfl;obtain ⟨v2, y2, m2, c2, t2⟩ := F 2 f2 rfl;obtain ⟨v3, y3, m3, c3, t3⟩ := F 3 f3 rfl;obtain ⟨v4, y4, m4, c4, t4⟩ := F 4 f4 rfl;obtain ⟨v5, y5, m5, c5, t5⟩ := F 5 f5 rfl;obtain ⟨v6, y6, m6, c6, t6⟩ := F 6 f6 rfl;obtain ⟨k0, e0, -⟩ := DataW.trod_int u0 t0;obtain ⟨k1, e1, -⟩ := DataW.trod_int u1 t1;obtain ⟨A2, q2, P2, e2, p1, p2, p3⟩ := Zave u2 us uc t2;obtain ⟨s3, e3, -⟩ := DataW.trod_string u3 t3;obtain ⟨k4, e4, -⟩ := DataW.trod_int u4 t4;obtain ⟨k5, e5, -, wf⟩ := DataW.trod_int u5 t5;obtain ⟨s6, e6, -⟩ := DataW.trod_string u6 t6;injection e0 with e0
      injection e1 with e1
      injection e3 with e3
      injection e4 with e4
      injection e5 with e5
      injection e6 with e6
      subst e0 e1 e2 e3 e4 e5 e6;rw [Zalx, hC] at c0 c1 c2 c3 c4 c5 c6;have hb : -9223372036854775808 ≤ k5 ∧ k5 ≤ 9223372036854775807 := by
       unfold Lit.wf at wf;rw [Yar, Yao, Yao, show IntKind.i64.min = -9223372036854775808 by decide, show IntKind.i64.max = 9223372036854775807 by decide] at wf
       exact wf
      refine ⟨⟨⟨k0, P2, s3, k4, k5, s6⟩, k1, A2, q2⟩, fun _ => ⟨⟨p3, p1, p2, hb.1, hb.2⟩, fun j hj => ?_⟩⟩
      match j, hj with
      | 0, _ => exact c0
      | 1, _ => exact c1
      | 2, _ => exact c2
      | 3, _ => exact c3
      | 4, _ => exact c4
      | 5, _ => exact c5
      | 6, _ => exact c6
    · exact ⟨⟨⟨0, [], ⟨#[]⟩, 0, 0, ⟨#[]⟩⟩, 0, none, 0⟩, fun h => absurd h hlt⟩
   obtain ⟨f, hfx⟩ := Classical.axiomOfChoice each;refine ⟨some a, cap, (List.range len).map f, by simp, by simpa using hl, hm, ⟨by rw [Zmc], fun hn => ?_⟩, fun x hx => ?_⟩
   · have hn' : 0 < len := by simpa using hn
     refine ⟨a, rfl, Lib.lt_of_cell (a := a) (by have := (hfx 0 hn').2 0 (by decide); simpa [Addr.add, OpM.cells] using this), fun j u hu => ?_⟩
     have hj : j < ((List.range len).map f).length * 7 := by
      have := (Yba.1 hu).1
      rwa [Zmc] at this
     have hj' : j < len * 7 := by simpa using hj
     obtain ⟨i, q, rfl, hq⟩ : ∃ i q, j = i * 7 + q ∧ q < 7 := ⟨j / 7, j % 7, by omega, by omega⟩
     have hil : i < len := by omega
     rw [Zvu _ i q (by simpa using hil) hq] at hu
     simp only [Ydj, List.getElem_range] at hu;rw [← hu];exact (hfx i hil).2 q hq
   · obtain ⟨i, hi, rfl⟩ := Yda.1 hx;exact (hfx i (Ycz.1 hi)).1
end
open Go.Sort Lx Prs Lns Sch
def opA (kind n : Int) (text : ByteArray) : Opp := ⟨kind, [], ⟨#[]⟩, 0, n, text⟩
def awS1 : Ps := (doS Zts (opA 1 0 ⟨#[]⟩) 0).1
def awS2 : Ps := (doS awS1 (opA 11 0 ⟨#[104, 111, 115, 116, 115, 59]⟩) 0).1
def awS3 : Ps := (doS awS2 (opA 14 5 ⟨#[]⟩) 0).1
def awS4 : Ps := (doS awS3 (opA 15 5 ⟨#[]⟩) 0).1
theorem aw_1 : (doS Zts (opA 1 0 ⟨#[]⟩) 0).2.1 = 0 := by decide +kernel
theorem aw_2 : (doS awS1 (opA 11 0 ⟨#[104, 111, 115, 116, 115, 59]⟩) 0).2.1 = 0 := by decide +kernel
theorem aw_3 : (doS awS2 (opA 14 5 ⟨#[]⟩) 0).2.1 = 0 := by decide +kernel
theorem aw_4 : awS3.run.length = 1 := by decide +kernel
theorem aw_5 : (doS awS3 (opA 15 5 ⟨#[]⟩) 0).2.2 = 2 := by decide +kernel
theorem aw_6 : awS4.run.length = 0 := by decide +kernel
theorem aw_7 : Zay awS4 = 2 := by decide +kernel
theorem aw_8 : (doS awS4 (opA 11 0 ⟨#[97, 32, 98]⟩) 0).2 = (2, 2) := by decide +kernel
theorem aw_9 : (doS awS4 (opA 3 0 ⟨#[]⟩) 1).2.1 = 3 := by decide +kernel
theorem aw_a : (Zagc awS4 0).length = 1 := by decide +kernel
def opsA : List OpM := [⟨opA 1 0 ⟨#[]⟩, 0, none, 0⟩, ⟨opA 11 0 ⟨#[104, 111, 115, 116, 115, 59]⟩, 0, none, 0⟩, ⟨opA 14 5 ⟨#[]⟩, 0, none, 0⟩]
attribute [local irreducible] doS
def awS : Nat → Ps
 | 0 => Zts
 | 1 => awS1
 | 2 => awS2
 | _ => awS3
theorem Zacj : ∀ k (h : k < 3), awS (k + 1) = (doS (awS k) opsA[k].o opsA[k].who).1
 | 0, _ => rfl
 | 1, _ => rfl
 | 2, _ => rfl
theorem Zaul : ∀ k (h : k < 3), (doS (awS k) opsA[k].o opsA[k].who).2.1 = 0
 | 0, _ => aw_1
 | 1, _ => aw_2
 | 2, _ => aw_3
theorem Zadx : ∀ k : Nat, k ≤ 3 → PsOk (k : Int) (awS k)
 | 0, _ => Zadz
 | k + 1, h => by
   rw [Zacj k h];have := (Zaah (Zadx k (by omega)) opsA[k].o opsA[k].who).1
   exact this
theorem Zsg : PsOk 4 awS4 := (Zaah (Zadx 3 (by decide)) (opA 15 5 ⟨#[]⟩) 0).1
theorem Zavt (w : World) : ∀ x ∈ opsA, x.Ok w := by
 intro x hx;have : x.A = none ∧ x.o.path = [] ∧ x.c = 0 ∧ -9223372036854775808 ≤ x.o.n ∧ x.o.n ≤ 9223372036854775807 := by
  simp only [opsA, Yaw, Ybv, or_false] at hx;rcases hx with rfl | rfl | rfl <;> exact ⟨rfl, rfl, rfl, by decide, by decide⟩
 obtain ⟨h1, h2, h3, h4⟩ := this;refine ⟨?_, ?_, ?_, h4⟩
 · rw [h2]; exact Rd.nil
 · rw [h2]; exact Yav _
 · rw [h3]; exact Yav _
theorem Zaqw {W : World} {b : Nat} {T : TypeId} (h : Bl W b (opcs opsA).toArray T) : Ops W (some ⟨b, 0, none⟩) opsA := by
 refine ⟨⟨?_, fun _ => ⟨_, rfl, h.lt, fun j v hv => ?_⟩⟩, Zavt W⟩
 · rfl
 · have h1 := h.cell j;rw [Ydd, hv] at h1;rw [Zae, Ybf];exact h1
end Go.Proofs.Zq
namespace Edt
open Go Go.Lib Tre Sch Lns Go.Proofs.Zq
def opOk (o : Opp) : Bool := Zhn o.path && decide (o.word.size ≤ 100) && decide (o.text.size ≤ 400)
def fewO (L : List OpM) (most : Nat) : Int := if (L.take most).all (fun x => opOk x.o) then ((min L.length most : Nat) : Int) else -1
theorem Zaoq {L : List OpM} {m : Nat} (h : fewO L m < 0) : fewO L m = -1 := by
 unfold fewO at h ⊢;split
 · rename_i h1; rw [Yan h1] at h; omega
 · rfl
theorem Zara {L : List OpM} {m : Nat} (h : ¬ fewO L m < 0) : fewO L m = ((min L.length m : Nat) : Int) ∧ ∀ x ∈ L.take m, opOk x.o = true := by
 unfold fewO at h ⊢;split
 · rename_i h1; exact ⟨rfl, fun x hx => Ybr.1 h1 x hx⟩
 · rename_i h1; rw [Yab h1] at h; exact absurd (by decide) h
end Edt
namespace Go.Proofs.Zq
open Tryz
open Go Go.RowKit Go.Sort Tre Edt
theorem Zvz {a b : Int} (h : a = b) : Ending.returned (.int .i64 b) = .returned (.int .i64 a) := by rw [h]
theorem Ops.at {w : World} {A : Option Addr} {L : List OpM} (h : Ops w A L) {k : Nat} (hk : k < L.length) : ∃ b o, A = some ⟨b, o, none⟩ ∧ b < w.heap.size ∧ ∀ j, j < 7 → w.cell? ⟨b, o + k * 7 + j, none⟩ = (L[k].cells)[j]? := by
 obtain ⟨ad, e, hb, hx⟩ := h.1.2 (by omega)
 have hl : (opcs L).length = L.length * 7 := Zmc L;have hsp : ad.spot = none := by
  have h0 := hx 0 _ (show (opcs L)[0]? = some _ from (Zvu L 0 0 (by omega) (by decide)).trans rfl)
  have h2 := World.cell?_spot h0;have h3 : ad.add 0 = ad := by simp [Addr.add]
  rwa [h3] at h2
 obtain ⟨b, o, sp⟩ := ad;obtain rfl : sp = none := hsp;refine ⟨b, o, e, hb, fun j hj => ?_⟩
 have hg := Zvu L k j hk hj;have hs : ∃ u, (L[k].cells)[j]? = some u := ⟨_, Yag (show j < L[k].cells.length from hj)⟩
 obtain ⟨u, hu⟩ := hs;have := hx (k * 7 + j) u (hg.trans hu);rw [Zae] at this;rw [hu, ← this, Ydg]
theorem Zasd (A : Option Addr) (c : Nat) (L : List OpM) (most : Nat) (w : World) (hO : Ops w A L) (hc : L.length ≤ c) (hm : c ≤ maxLen) (h1000 : most ≤ 1000) :
 Calls prog 4 #[.slice A L.length c, .int .i64 (most : Nat)] w fun e w' => e = .returned (.int .i64 (fewO L most)) ∧ Below w.heap.size w w' := by
 unfold maxLen at hm;have HO := Zhd hO;obtain ⟨n, hn⟩ : ∃ n, min L.length most = n := ⟨_, rfl⟩;have hnl : n ≤ L.length := by omega
 have hmin : min (L.length : Int) (most : Int) = (n : Int) := by omega
 have HX : Hid (fewO L most = if (L.take n).all (fun x => opOk x.o) then (n : Int) else -1) := by
  show _ = _;unfold fewO;rw [hn, ← hn, show L.take (min L.length most) = L.take most by rw [List.take_eq_take_iff]; omega]
 have hn0 : (0 : Int) ≤ (n : Int) := by omega
 have hnI : (n : Int) ≤ (L.length : Int) := by omega
 have hcI : (L.length : Int) ≤ (c : Int) := by omega
 clear hO hn;go_enter func4, ntmps4;go_wp2_with fail;go_loopw [16] (fun vk W => ∃ k : Nat, k ≤ n ∧ vk = .int .i64 k ∧ Hid (fewO L most = if ((L.take n).drop k).all (fun x => opOk x.o) then (n : Int) else -1) ∧ Hid (Below w.heap.size w W)) (fun vk _ => n - (intOf vk).toNat)
 case atStart => exact ⟨0, Yav _, rfl, HX, Yac _ _⟩
 case round =>
  clear HX;obtain ⟨k, hk, rfl, HQ, HB⟩ := hrel;by_cases hlt : k < n
  · have hkl : k < L.length := by omega
    obtain ⟨b, o, rfl, hb, hx⟩ := (HO.out.below HB.out).at hkl;have hok := (HO.out.below HB.out).2 L[k] (Yat hkl)
    have hst : Hid (fewO L most = if (opOk L[k].o && ((L.take n).drop (k + 1)).all (fun x => opOk x.o)) = true then (n : Int) else -1) := by
     show _ = _;rw [HQ.out, Yay (by rw [Yad]; omega), Ycv, Yct]
    generalize L[k] = x at *;obtain ⟨⟨kd, pp, wd, bt, nn, tx⟩, who, Ap, cp⟩ := x;obtain ⟨hp1, hp2, hp3, -⟩ := hok;have x0 : wr.cell? ⟨b, o + k * 7, none⟩ = some (.int .i64 kd) := hx 0 (by decide)
    have x1 : wr.cell? ⟨b, o + k * 7 + 1, none⟩ = some (.int .i64 who) := hx 1 (by decide)
    have x2 : wr.cell? ⟨b, o + k * 7 + 2, none⟩ = some (.slice Ap pp.length cp) := hx 2 (by decide)
    have x3 : wr.cell? ⟨b, o + k * 7 + 3, none⟩ = some (.string wd) := hx 3 (by decide)
    have x4 : wr.cell? ⟨b, o + k * 7 + 4, none⟩ = some (.int .i64 bt) := hx 4 (by decide)
    have x5 : wr.cell? ⟨b, o + k * 7 + 5, none⟩ = some (.int .i64 nn) := hx 5 (by decide)
    have x6 : wr.cell? ⟨b, o + k * 7 + 6, none⟩ = some (.string tx) := hx 6 (by decide)
    obtain ⟨w5, hw5⟩ : ∃ x, wr.alloc (.cells #[.int .i64 kd, .int .i64 who, .slice Ap pp.length cp, .string wd, .int .i64 bt, .int .i64 nn, .string tx] 35) = x := ⟨_, rfl⟩;have hb5 : Below wr.heap.size wr w5 := by rw [← hw5]; exact (Yac _ _).alloc (Yaf _) _
    have HX5 : Hid (Bl w5 wr.heap.size #[.int .i64 kd, .int .i64 who, .slice Ap pp.length cp, .string wd, .int .i64 bt, .int .i64 nn, .string tx] 35) := by show Bl _ _ _ _; rw [← hw5]; exact Bl.new _ _ _
    have HB5 := Zhd (Zaa HB.out hb5);have HS := Zhd (Zanw Ap cp pp w5 (hp1.below hb5) hp2 hp3);have y2 : w5.cell? ⟨wr.heap.size, 2, none⟩ = some (.slice Ap pp.length cp) := (HX5.out.cell 2).trans rfl;have hki : (k : Int) < (n : Int) := by omega
    clear hp1 hx hb5 HQ;cases hs : Zhn pp with
    | false =>
      rw [hs] at HS;have HN : Hid (fewO L most = -1) := by show _ = _; rw [hst.out, Yab (by unfold opOk; simp only; rw [hs]; simp)]
      clear hst hs;go_wp2_with fail;refine HS.out.mono ?_;rintro e w6 ⟨rfl, hb6⟩;have HB6 := Zhd (Zaa HB5.out hb6);clear hb6;go_wp2_with fail;go_ret;exact ⟨Zvz HN.out, HB6.out⟩
    | true =>
      rw [hs] at HS;by_cases h1 : 100 < wd.size
      · have HN : Hid (fewO L most = -1) := by show _ = _; rw [hst.out, Yab (by unfold opOk; simp only; rw [Yae (show ¬ wd.size ≤ 100 by omega)]; simp)]
        have h1I : (100 : Int) < (wd.size : Int) := by omega
        clear hst hs;go_wp2_with fail;refine HS.out.mono ?_;rintro e w6 ⟨rfl, hb6⟩;have y3 : w6.cell? ⟨wr.heap.size, 3, none⟩ = some (.string wd) := ((HX5.out.below hb6).cell 3).trans rfl;have HB6 := Zhd (Zaa HB5.out hb6);clear hb6;go_wp2_with fail;go_ret;exact ⟨Zvz HN.out, HB6.out⟩
      · have h1I : ¬ (100 : Int) < (wd.size : Int) := by omega
        by_cases h2 : 400 < tx.size
        · have HN : Hid (fewO L most = -1) := by show _ = _; rw [hst.out, Yab (by unfold opOk; simp only; rw [Yae (show ¬ tx.size ≤ 400 by omega)]; simp)]
          have h2I : (400 : Int) < (tx.size : Int) := by omega
          clear hst hs;go_wp2_with fail;refine HS.out.mono ?_;rintro e w6 ⟨rfl, hb6⟩;have y3 : w6.cell? ⟨wr.heap.size, 3, none⟩ = some (.string wd) := ((HX5.out.below hb6).cell 3).trans rfl;have y6 : w6.cell? ⟨wr.heap.size, 6, none⟩ = some (.string tx) := ((HX5.out.below hb6).cell 6).trans rfl;have HB6 := Zhd (Zaa HB5.out hb6);clear hb6;go_wp2_with fail;go_ret;exact ⟨Zvz HN.out, HB6.out⟩
        · have h2I : ¬ (400 : Int) < (tx.size : Int) := by omega
          have HN : Hid (fewO L most = if ((L.take n).drop (k + 1)).all (fun x => opOk x.o) = true then (n : Int) else -1) := by
           show _ = _;rw [hst.out];unfold opOk;simp only;rw [hs, Yal (show wd.size ≤ 100 by omega), Yal (show tx.size ≤ 400 by omega)]
           rfl
          clear hst hs;go_wp2_with fail;refine HS.out.mono ?_;rintro e w6 ⟨rfl, hb6⟩;have y3 : w6.cell? ⟨wr.heap.size, 3, none⟩ = some (.string wd) := ((HX5.out.below hb6).cell 3).trans rfl;have y6 : w6.cell? ⟨wr.heap.size, 6, none⟩ = some (.string tx) := ((HX5.out.below hb6).cell 6).trans rfl;have HB6 := Zhd (Zaa HB5.out hb6);clear hb6;go_wp2_with fail;go_roundw
          case rel => exact ⟨k + 1, by omega, by go_num, HN, HB6⟩
          case measure => simp [intOf]; omega
  · have HN : Hid (fewO L most = (n : Int)) := by show _ = _; rw [HQ.out, Ybd (by rw [Yad]; omega)]; rfl
    have hke : k = n := by omega
    subst hke;go_wp2_with fail;go_ret;exact ⟨Zvz HN.out, HB.out⟩
open Lx Prs Lns Sch
theorem Zaxu : (doS (awS 3) (opA 15 5 ⟨#[]⟩) 0).2.2 = 2 := aw_5
def Aw (w : World) (b1 b2 k : Nat) (W : World) : Prop := ∃ C, Bl W b1 C 31 ∧ PlC W C (awS k) ∧ Bl W b2 (opcs opsA).toArray 35 ∧ Below w.heap.size w W
theorem Zakf (w : World) : PlC w zcc Zts where
 size := rfl
 run := ⟨_, rfl, Zcs w⟩
 revs := ⟨none, 0, 0, rfl, Yaf _, Yav _, fun _ => rfl, [], rfl, rfl, Rd.nil, fun _ h => (Ybv h).elim, fun _ h => by cases h⟩
 opn := of3 rfl rfl rfl
 base := of3 ⟨_, rfl, Zcs w⟩ ⟨_, rfl, Zcs w⟩ ⟨_, rfl, Zcs w⟩
 mine := of3 ⟨_, rfl, Zcs w⟩ ⟨_, rfl, Zcs w⟩ ⟨_, rfl, Zcs w⟩
 lock := rfl
 clock := rfl
 dead := rfl
 back := ⟨_, rfl, Zcs w⟩
theorem Zavn : ∀ k (h : k < 3), opsA[k].A = none ∧ opsA[k].o.path = [] ∧ opsA[k].c = 0 ∧ opsA[k].o.text.size ≤ 1000000
 | 0, _ => ⟨rfl, rfl, rfl, Yav _⟩
 | 1, _ => ⟨rfl, rfl, rfl, show 6 ≤ 1000000 by decide⟩
 | 2, _ => ⟨rfl, rfl, rfl, Yav _⟩
theorem Zalu (w : World) (hE : Env w) : Calls prog 5 #[] w fun e w' => e = .returned (.bool true) ∧ Below w.heap.size w w' := by
 have HN := Zaip w;go_enter func5, ntmps5;go_upto_region 1 with fail
 refine wp_region_lit ?_;go_wp2_with fail;go_at_call 6;refine HN.mono ?_;rintro e w1 ⟨rfl, hb1⟩;rename_i hKx;refine hKx _ _ ?_;clear hKx;try simp only [Act.put, Yaa, Yah, Yai]
 refine Zaej (C := zcc) rfl rfl (by rfl) (by rfl) ?_
 intro w2 hb2 B1;have HB2 := Zhd (Zaa hb1 hb2);have hge : w.heap.size ≤ w1.heap.size := hb1.size;clear hb1 hb2;try simp only [Act.put, Yaa, Yah, Yai]
 obtain ⟨w3, hw3⟩ : ∃ x, w2.alloc (.cells (opcs opsA).toArray 35) = x := ⟨_, rfl⟩;have hlit : (opcs opsA).toArray = #[.int .i64 1, .int .i64 0, .slice none 0 0, .string ⟨#[]⟩, .int .i64 0, .int .i64 0, .string ⟨#[]⟩, .int .i64 11, .int .i64 0, .slice none 0 0, .string ⟨#[]⟩, .int .i64 0, .int .i64 0, .string ⟨#[104, 111, 115, 116, 115, 59]⟩, .int .i64 14, .int .i64 0, .slice none 0 0, .string ⟨#[]⟩, .int .i64 0, .int .i64 5, .string ⟨#[]⟩] := rfl;have hs2 : w1.heap.size < w2.heap.size := B1.lt;have B3 : Bl w3 w1.heap.size zcc 31 := by rw [← hw3]; exact B1.alloc _
 have B3o : Bl w3 w2.heap.size (opcs opsA).toArray 35 := by rw [← hw3]; exact Bl.new _ _ _
 have HB3 : Hid (Below w.heap.size w w3) := by show Below _ _ _; rw [← hw3]; exact HB2.out.alloc HB2.out.size _
 rw [hlit] at hw3;have HE := Zhd (fun (W : World) (hb : Below w.heap.size w W) => hE.below hb)
 have HL : Hid (Aw w w1.heap.size w2.heap.size 0 w3) := ⟨zcc, B3, Zakf _, B3o, HB3.out⟩;clear B1 B3 B3o HB2 HB3 hlit hE HN;go_wp2_with fail;go_loopw [18] (fun vk W => ∃ k : Nat, k ≤ 3 ∧ vk = .int .i64 k ∧ Hid (Aw w w1.heap.size w2.heap.size k W)) (fun vk _ => 3 - (intOf vk).toNat)
 case atStart => exact ⟨0, by decide, rfl, HL⟩
 case round =>
  clear HL;obtain ⟨k, hk, rfl, HA⟩ := hrel;by_cases hlt : k < 3
  · obtain ⟨C, Bp, hP, Bo, hb⟩ := HA.out;have hO := Zaqw Bo;obtain ⟨b, o, hbo, hbl, hx⟩ := hO.at (k := k) hlt;obtain ⟨rfl, rfl⟩ : w2.heap.size = b ∧ 0 = o := by injection hbo with e; injection e with e1 e2; exact ⟨e1, e2⟩
    have hxo := hO.2 opsA[k] (Yat _);have HST := Zhd (Zacj k hlt);have HER := Zhd (Zaul k hlt);have hx0 := Zavn k hlt;generalize opsA[k] = x at *;obtain ⟨xo, xw, xA, xc⟩ := x;obtain ⟨rfl, hp, rfl, htx⟩ := hx0;have x0 : wr.cell? ⟨w2.heap.size, k * 7, none⟩ = some (.int .i64 xo.kind) := by simpa [OpM.cells] using hx 0 (by decide)
    have x1 : wr.cell? ⟨w2.heap.size, k * 7 + 1, none⟩ = some (.int .i64 xw) := by simpa [OpM.cells] using hx 1 (by decide)
    have x2 : wr.cell? ⟨w2.heap.size, k * 7 + 2, none⟩ = some (.slice none xo.path.length 0) := by simpa [OpM.cells] using hx 2 (by decide)
    have x3 : wr.cell? ⟨w2.heap.size, k * 7 + 3, none⟩ = some (.string xo.word) := by simpa [OpM.cells] using hx 3 (by decide)
    have x4 : wr.cell? ⟨w2.heap.size, k * 7 + 4, none⟩ = some (.int .i64 xo.bit) := by simpa [OpM.cells] using hx 4 (by decide)
    have x5 : wr.cell? ⟨w2.heap.size, k * 7 + 5, none⟩ = some (.int .i64 xo.n) := by simpa [OpM.cells] using hx 5 (by decide)
    have x6 : wr.cell? ⟨w2.heap.size, k * 7 + 6, none⟩ = some (.string xo.text) := by simpa [OpM.cells] using hx 6 (by decide)
    have hkI : (k : Int) < 3 := by omega
    have HD : Hid (∀ W, Below wr.heap.size wr W → Calls prog 7 #[.agg C, .agg #[.int .i64 xo.kind, .int .i64 xw, .slice none xo.path.length 0, .string xo.word, .int .i64 xo.bit, .int .i64 xo.n, .string xo.text]] W (Zdk (doS (awS k) xo xw) W)) := fun W hb' =>
     Zxd C (awS k) xo xw none 0 W (hP.below hb') (HE.out _ (Zaa hb hb')) (hxo.1.below hb') hxo.2.1 hxo.2.2.1 (by rw [hp]; decide) htx hxo.2.2.2 k (Zadx k (by omega)) (by omega)
    obtain ⟨wx, hwx⟩ : ∃ x, wr.alloc (.cells #[.int .i64 xo.kind, .int .i64 xw, .slice none xo.path.length 0, .string xo.word, .int .i64 xo.bit, .int .i64 xo.n, .string xo.text] 35) = x := ⟨_, rfl⟩;have hbx : Below wr.heap.size wr wx := by rw [← hwx]; exact (Yac _ _).alloc (Yaf _) _
    have Bx : Bl wx wr.heap.size #[.int .i64 xo.kind, .int .i64 xw, .slice none xo.path.length 0, .string xo.word, .int .i64 xo.bit, .int .i64 xo.n, .string xo.text] 35 := by rw [← hwx]; exact Bl.new _ _ _
    have y0 : wx.cell? ⟨wr.heap.size, 0, none⟩ = some (.int .i64 xo.kind) := (Bx.cell _).trans rfl;have y1 : wx.cell? ⟨wr.heap.size, 1, none⟩ = some (.int .i64 xw) := (Bx.cell _).trans rfl;have y2 : wx.cell? ⟨wr.heap.size, 2, none⟩ = some (.slice none xo.path.length 0) := (Bx.cell _).trans rfl;have y3 : wx.cell? ⟨wr.heap.size, 3, none⟩ = some (.string xo.word) := (Bx.cell _).trans rfl;have y4 : wx.cell? ⟨wr.heap.size, 4, none⟩ = some (.int .i64 xo.bit) := (Bx.cell _).trans rfl;have y5 : wx.cell? ⟨wr.heap.size, 5, none⟩ = some (.int .i64 xo.n) := (Bx.cell _).trans rfl;have y6 : wx.cell? ⟨wr.heap.size, 6, none⟩ = some (.string xo.text) := (Bx.cell _).trans rfl;have Bpx := Bp.below hbx;have Box := Bo.below hbx;have HBx := Zhd (Zaa hb hbx);have HDx := Zhd (HD.out wx hbx);have hcs := hP.size;have hns := hP.nostr;clear hb hbx Bp Bo hP hO hx HD hxo HA hp htx;go_upto_region 5 with fail
    clear x0 x1 x2 x3 x4 x5 x6;refine wp_region_lit ?_;refine wpList_load_mid rfl 31 _ rfl w1.heap.size 0 (by rfl) C.toList _ Bpx.range underlying31 rfl (by rw [Yaz, hcs]; exact Zao) ?_
    rw [show C.toList.toArray = C from rfl];try simp only [Act.put, Yaa, Yah, Yai]
    go_wp2_with fail;go_at_call 7;refine HDx.out.mono ?_;rintro e w5 ⟨⟨v5, rfl, hv5⟩, hb5⟩;rw [← HST.out] at hv5;rw [HER.out];obtain ⟨C2, rfl, hC2⟩ := hv5.cells;have hc2 := hC2.size;rename_i hKx;refine hKx _ _ ?_;clear hKx;try simp only [Act.put, Yaa, Yah, Yai]
    refine Zew (v := .tuple #[.agg C2, .agg #[.int .i64 0, .int .i64 (doS (awS k) xo xw).2.2]]) rfl (by rfl) ?_
    try simp only [Act.put, Yaa, Yah, Yai]
    refine Zpt (C := C2) (R := #[.int .i64 0, .int .i64 (doS (awS k) xo xw).2.2]) hc2 hC2.one rfl rfl (by rfl) (by rfl) (by rfl) (by rfl) (by rfl) (by rfl) ?_
    intro W' hbw B4 B5;have x0 : W'.cell? ⟨w5.heap.size + 1, 0, none⟩ = some (.int .i64 0) := (B5.cell _).trans rfl;have hb6 := Zaa hb5 hbw;have Bp6 := Bpx.below hb6;have Bo6 := Box.below hb6;have hC6 := hC2.below hbw;have HB6 := Zhd (Zaa HBx.out hb6);have hn1 : w1.heap.size ≠ w2.heap.size := by omega
    clear hb5 hbw hb6 Bpx Box hC2 B5 HBx HDx y0 y1 y2 y3 y4 y5 y6;try simp only [Act.put, Yaa, Yah, Yai]
    go_upto_region 8 with fail
    refine wp_region_lit ?_;refine Zadj B4 hc2 hC6.one Bp6 hcs (by rfl) (by rfl) (by rfl) ?_
    intro W'' hoff hbel Bp7;have HA7 : Hid (Aw w w1.heap.size w2.heap.size (k + 1) W'') := ⟨C2, Bp7, hC6.off Bp6 (by decide) hns hoff, (hoff.2 _ (Ne.symm hn1) Bo6.lt).trans Bo6, hbel _ hge HB6.out⟩
    try simp only [Act.put, Yaa, Yah, Yai]
    go_wp2_with fail;go_roundw
    case rel => exact ⟨k + 1, by omega, by go_num, HA7⟩
    case measure => simp [intOf]; omega
  · obtain rfl : k = 3 := by omega
    obtain ⟨C, Bp, hP, -, hb⟩ := HA.out;obtain ⟨v0, e0, hl0⟩ := hP.run;obtain ⟨A0, n0, rfl, -⟩ := id hl0;have hr0 : awS3.run.length = 1 := aw_4;rw [show (awS 3).run.length = 1 from aw_4] at e0;have x0 : wr.cell? ⟨w1.heap.size, 0, none⟩ = some (.slice A0 1 n0) := (Bp.cell 0).trans e0;have hcs := hP.size;have HD := Zhd (Zxd C (awS 3) (opA 15 5 ⟨#[]⟩) 0 none 0 wr hP (HE.out _ hb) Rd.nil (Yaf _) (Yav _) (by decide) (by decide) (by decide) 3 (Zadx 3 (by decide)) (by decide))
    have HB := Zhd hb;have hns := hP.nostr;clear hb hl0 e0 hP HA;go_upto_region 11 with fail
    clear x0;refine wp_region_lit ?_;refine wpList_load_mid rfl 31 _ rfl w1.heap.size 0 (by rfl) C.toList _ Bp.range underlying31 rfl (by rw [Yaz, hcs]; exact Zao) ?_
    rw [show C.toList.toArray = C from rfl];try simp only [Act.put, Yaa, Yah, Yai]
    go_wp2_with fail;go_at_call 7;refine HD.out.mono ?_;rintro e w5 ⟨⟨v5, rfl, hv5⟩, hb5⟩;obtain ⟨C2, rfl, hC2⟩ := hv5.cells;have hc2 := hC2.size;rw [show (doS (awS 3) (opA 15 5 ⟨#[]⟩) 0).1 = awS4 from rfl] at hC2;rw [Zaxu];generalize (doS (awS 3) (opA 15 5 ⟨#[]⟩) 0).2.1 = er;rename_i hKx;refine hKx _ _ ?_;clear hKx;try simp only [Act.put, Yaa, Yah, Yai]
    refine Zew (v := .tuple #[.agg C2, .agg #[.int .i64 er, .int .i64 2]]) rfl (by rfl) ?_
    try simp only [Act.put, Yaa, Yah, Yai]
    refine Zaok (C := C2) (R := #[.int .i64 er, .int .i64 2]) (Z := C) (q := w1.heap.size) hc2 hC2.one rfl rfl (Bp.below hb5) hcs (by rfl) (by rfl) (by rfl) (by rfl) (by rfl) (by rfl) ?_
    intro w6 hoff hbel Bp6 Br6;have hwge : w.heap.size ≤ w5.heap.size := Yas HB.out.size hb5.size;have HB6 := Zhd (hbel _ hge hwge (Zaa HB.out hb5));have hC6 : PlC w6 C2 awS4 := hC2.off (Bp.below hb5) (by decide) hns hoff
    clear hb5 hbel hC2 HB HD Bp;try simp only [Act.put, Yaa, Yah, Yai]
    have HD2 := Zhd (Zxd C2 awS4 (opA 11 0 ⟨#[97, 32, 98]⟩) 0 none 0 w6 hC6 (HE.out _ HB6.out) Rd.nil (Yaf _) (Yav _) (by decide) (by decide) (by decide) 4 Zsg (by decide))
    go_upto_region 12 with fail
    refine wp_region_lit ?_;refine wpList_load_mid rfl 31 _ rfl w1.heap.size 0 (by rfl) C2.toList _ Bp6.range underlying31 rfl (by rw [Yaz, hc2]; exact Zao) ?_
    rw [show C2.toList.toArray = C2 from rfl];try simp only [Act.put, Yaa, Yah, Yai]
    go_wp2_with fail;go_at_call 7;refine HD2.out.mono ?_;rintro e w7 ⟨⟨v7, rfl, hv7⟩, hb7⟩;obtain ⟨C3, rfl, hC3⟩ := hv7.cells;have hc3 := hC3.size;rw [aw_8];rename_i hKx;refine hKx _ _ ?_;clear hKx;try simp only [Act.put, Yaa, Yah, Yai]
    refine Zew (v := .tuple #[.agg C3, .agg #[.int .i64 2, .int .i64 2]]) rfl (by rfl) ?_
    try simp only [Act.put, Yaa, Yah, Yai]
    refine Zpt (C := C3) (R := #[.int .i64 2, .int .i64 2]) hc3 hC3.one rfl rfl (by rfl) (by rfl) (by rfl) (by rfl) (by rfl) (by rfl) ?_
    intro w8 hb8 _ Br8;have hb68 := Zaa hb7 hb8;have Bp8 := Bp6.below hb68;have Bq8 := Br6.below hb68;have HB8 := Zhd (Zaa HB6.out hb68);have hC8 := hC6.below hb68;clear hb7 hb8 hb68 hC3 HD2 HB6 Bp6 Br6 hC6;try simp only [Act.put, Yaa, Yah, Yai]
    have HD3 := Zhd (Zxd C2 awS4 (opA 3 0 ⟨#[]⟩) 1 none 0 w8 hC8 (HE.out _ HB8.out) Rd.nil (Yaf _) (Yav _) (by decide) (by decide) (by decide) 4 Zsg (by decide))
    go_upto_region 13 with fail
    refine wp_region_lit ?_;refine wpList_load_mid rfl 31 _ rfl w1.heap.size 0 (by rfl) C2.toList _ Bp8.range underlying31 rfl (by rw [Yaz, hc2]; exact Zao) ?_
    rw [show C2.toList.toArray = C2 from rfl];try simp only [Act.put, Yaa, Yah, Yai]
    go_wp2_with fail;go_at_call 7;refine HD3.out.mono ?_;rintro e w9 ⟨⟨v9, rfl, hv9⟩, hb9⟩;obtain ⟨C4, rfl, hC4⟩ := hv9.cells;have hc4 := hC4.size;rw [aw_9];generalize (doS awS4 (opA 3 0 ⟨#[]⟩) 1).2.2 = en;rename_i hKx;refine hKx _ _ ?_;clear hKx;try simp only [Act.put, Yaa, Yah, Yai]
    refine Zew (v := .tuple #[.agg C4, .agg #[.int .i64 3, .int .i64 en]]) rfl (by rfl) ?_
    try simp only [Act.put, Yaa, Yah, Yai]
    refine Zpt (C := C4) (R := #[.int .i64 3, .int .i64 en]) hc4 hC4.one rfl rfl (by rfl) (by rfl) (by rfl) (by rfl) (by rfl) (by rfl) ?_
    intro wa hb9a _ Bs;have hb8a := Zaa hb9 hb9a;have Bpa := Bp8.below hb8a;have Bqa := Bq8.below hb8a;have Bra := Br8.below hb8a;have HBa := Zhd (Zaa HB8.out hb8a);have hCa := hC8.below hb8a;clear hb9 hb9a hb8a hC4 HD3 HB8 Bp8 Bq8 Br8 hC8;try simp only [Act.put, Yaa, Yah, Yai]
    obtain ⟨va, ea, hla⟩ := hCa.run;obtain ⟨A9, n9, rfl, -⟩ := id hla;rw [show awS4.run.length = 0 from aw_6] at ea;have p0 : wa.cell? ⟨w1.heap.size, 0, none⟩ = some (.slice A9 0 n9) := (Bpa.cell 0).trans ea;obtain ⟨a0, a1, a2, a3, a4, a5, a6, a7, a8, a9, aa, ab, ac, ad, ae, rfl⟩ := Zati hc2;obtain rfl : a0 = .slice A9 0 n9 := by injection ea
    have p1 : wa.cell? ⟨w1.heap.size, 1, none⟩ = some a1 := (Bpa.cell _).trans rfl;have p2 : wa.cell? ⟨w1.heap.size, 2, none⟩ = some a2 := (Bpa.cell _).trans rfl;have p3 : wa.cell? ⟨w1.heap.size, 3, none⟩ = some a3 := (Bpa.cell _).trans rfl;have p4 : wa.cell? ⟨w1.heap.size, 4, none⟩ = some a4 := (Bpa.cell _).trans rfl;have p5 : wa.cell? ⟨w1.heap.size, 5, none⟩ = some a5 := (Bpa.cell _).trans rfl;have p6 : wa.cell? ⟨w1.heap.size, 6, none⟩ = some a6 := (Bpa.cell _).trans rfl;have p7 : wa.cell? ⟨w1.heap.size, 7, none⟩ = some a7 := (Bpa.cell _).trans rfl;have p8 : wa.cell? ⟨w1.heap.size, 8, none⟩ = some a8 := (Bpa.cell _).trans rfl;have p9 : wa.cell? ⟨w1.heap.size, 9, none⟩ = some a9 := (Bpa.cell _).trans rfl;have pa : wa.cell? ⟨w1.heap.size, 10, none⟩ = some aa := (Bpa.cell _).trans rfl;have pb : wa.cell? ⟨w1.heap.size, 11, none⟩ = some ab := (Bpa.cell _).trans rfl;have pc : wa.cell? ⟨w1.heap.size, 12, none⟩ = some ac := (Bpa.cell _).trans rfl;have pd : wa.cell? ⟨w1.heap.size, 13, none⟩ = some ad := (Bpa.cell _).trans rfl;have pe : wa.cell? ⟨w1.heap.size, 14, none⟩ = some ae := (Bpa.cell _).trans rfl;have q1 : wa.cell? ⟨w5.heap.size, 1, none⟩ = some (.int .i64 2) := (Bqa.cell _).trans rfl;have r0 : wa.cell? ⟨w7.heap.size + 1, 0, none⟩ = some (.int .i64 2) := (Bra.cell _).trans rfl;have r1 : wa.cell? ⟨w7.heap.size + 1, 1, none⟩ = some (.int .i64 2) := (Bra.cell _).trans rfl;have s0 : wa.cell? ⟨w9.heap.size + 1, 0, none⟩ = some (.int .i64 3) := (Bs.cell _).trans rfl;have HF : Hid (∀ W, Below wa.heap.size wa W → W.cell? ⟨w1.heap.size, 0, none⟩ = some (.slice A9 0 n9) ∧ W.cell? ⟨w1.heap.size, 1, none⟩ = some (a1) ∧ W.cell? ⟨w1.heap.size, 2, none⟩ = some (a2) ∧ W.cell? ⟨w1.heap.size, 3, none⟩ = some (a3) ∧ W.cell? ⟨w1.heap.size, 4, none⟩ = some (a4) ∧ W.cell? ⟨w1.heap.size, 5, none⟩ = some (a5) ∧ W.cell? ⟨w1.heap.size, 6, none⟩ = some (a6) ∧ W.cell? ⟨w1.heap.size, 7, none⟩ = some (a7) ∧ W.cell? ⟨w1.heap.size, 8, none⟩ = some (a8) ∧ W.cell? ⟨w1.heap.size, 9, none⟩ = some (a9) ∧ W.cell? ⟨w1.heap.size, 10, none⟩ = some (aa) ∧ W.cell? ⟨w1.heap.size, 11, none⟩ = some (ab) ∧ W.cell? ⟨w1.heap.size, 12, none⟩ = some (ac) ∧ W.cell? ⟨w1.heap.size, 13, none⟩ = some (ad) ∧ W.cell? ⟨w1.heap.size, 14, none⟩ = some (ae) ∧ W.cell? ⟨w7.heap.size + 1, 0, none⟩ = some (.int .i64 2) ∧ W.cell? ⟨w7.heap.size + 1, 1, none⟩ = some (.int .i64 2) ∧ W.cell? ⟨w9.heap.size + 1, 0, none⟩ = some (.int .i64 3)) := fun W hb => ⟨((Bpa.below hb).cell _).trans rfl, ((Bpa.below hb).cell _).trans rfl, ((Bpa.below hb).cell _).trans rfl, ((Bpa.below hb).cell _).trans rfl, ((Bpa.below hb).cell _).trans rfl, ((Bpa.below hb).cell _).trans rfl, ((Bpa.below hb).cell _).trans rfl, ((Bpa.below hb).cell _).trans rfl, ((Bpa.below hb).cell _).trans rfl, ((Bpa.below hb).cell _).trans rfl, ((Bpa.below hb).cell _).trans rfl, ((Bpa.below hb).cell _).trans rfl, ((Bpa.below hb).cell _).trans rfl, ((Bpa.below hb).cell _).trans rfl, ((Bpa.below hb).cell _).trans rfl, ((Bra.below hb).cell _).trans rfl, ((Bra.below hb).cell _).trans rfl, ((Bs.below hb).cell _).trans rfl⟩
    have HLA : Hid (∀ W, Below wa.heap.size wa W → _) := fun W hb => Zkf _ awS4 W (hCa.below hb) Zsg.len5
    rw [aw_7] at HLA;have HCO := Zhd (fun (W : World) (hb : Below wa.heap.size wa W) => Zaab _ awS4 0 W (hCa.below hb) Zsg.run Zsg.mine)
    clear hCa Bpa Bqa Bra Bs hla ea;go_wp2_with fail;refine (HLA.out _ (Yac _ _)).mono ?_;rintro e wb ⟨rfl, hbb⟩;clear p0 p1 p2 p3 p4 p5 p6 p7 p8 p9 pa pb pc pd pe r0 r1 s0 q1;obtain ⟨p0, p1, p2, p3, p4, p5, p6, p7, p8, p9, pa, pb, pc, pd, pe, r0, r1, s0⟩ := HF.out wb hbb;go_wp2_with fail;refine (HCO.out _ hbb).mono ?_;rintro e wc ⟨⟨v, Q, rfl, hQ, hmq⟩, hbc⟩;have hq1 : Q.length = 1 := by rw [← aw_a, ← hmq, Yax]
    obtain ⟨Aq, cq, rfl, -⟩ := Zct hQ.1;rw [hq1];have HBc := Zhd (Zaa HBa.out (Zaa hbb hbc));clear p0 p1 p2 p3 p4 p5 p6 p7 p8 p9 pa pb pc pd pe r0 r1 s0 hQ hmq hbb hbc;go_wp2_with fail;go_ret;exact ⟨rfl, HBc.out⟩
end Go.Proofs.Zq
