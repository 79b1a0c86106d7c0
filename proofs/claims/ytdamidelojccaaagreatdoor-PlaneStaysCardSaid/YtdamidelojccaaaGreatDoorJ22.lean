import Derived.Test.YtdamidelojccaaaGreatDoorJ21
set_option linter.unusedVariables false
set_option linter.unusedSimpArgs false
set_option maxHeartbeats 4000000
set_option maxRecDepth 100000
namespace Go.Proofs.Zq
open Tryz
open Go Go.RowKit Go.Sort Tre Lx Prs Lns Edt
theorem Zjt (w : World) (t e ty : TypeId) (z : Value) (ht : prog.underlying t = some (.slice e)) (hv : ∀ w, (zeroValue e).run prog w = .ok z w) (b o n c : Nat) (hn : 0 < n)
 (hc : ∀ j, j < (Builtin.zeroCells z.cells n).toList.length → (w.cell? ⟨b, o + j, none⟩).isSome = true) (hf : ∀ j, j < (Builtin.zeroCells z.cells n).toList.length → w.frozen? ⟨b, o + j, none⟩ = false) (h1 : ∀ u ∈ (Builtin.zeroCells z.cells n).toList, u.oneCell' = true) :
 (Builtin.clear_ #[t] ty #[.slice (some ⟨b, o, none⟩) n c]).run prog w = .ok (.tuple #[]) (w.setCells b o (Builtin.zeroCells z.cells n).toList) := by
 have hst := run_storeCells_cells (P := prog) b o (Builtin.zeroCells z.cells n).toList 0 w (by simpa using hc) (by simpa using hf) h1
 simp only [Yef] at hst;obtain ⟨m, rfl⟩ : ∃ m, n = m + 1 := ⟨n - 1, by omega⟩
 simp [Builtin.clear_, run_underlying ht, hv, hst]
theorem Zuw (w : World) : (zeroValue 62).run prog w = .ok (.agg #[.int .i64 0, .string ⟨#[]⟩, .int .i64 0]) w := by
 obtain ⟨i0, hii, hz0, hz1, hz2⟩ := info_parts Zkn;simp [zeroValue, typeInfo, hii, hz0]
theorem Zahk (n : Nat) : (Builtin.zeroCells (Value.agg #[.int .i64 0, .string ⟨#[]⟩, .int .i64 0]).cells n).toList.length = n * 3 ∧ ∀ u ∈ (Builtin.zeroCells (Value.agg #[.int .i64 0, .string ⟨#[]⟩, .int .i64 0]).cells n).toList, u.oneCell' = true := by
 refine ⟨by rw [Yaz]; simp [Builtin.zeroCells, Value.cells], fun u hu => ?_⟩
 have hz : (Value.agg #[.int .i64 0, .string ⟨#[]⟩, .int .i64 0]).cells = #[.int .i64 0, .string ⟨#[]⟩, .int .i64 0] := rfl;rw [hz] at hu;simp only [Builtin.zeroCells] at hu;simp at hu;obtain ⟨q, -, rfl⟩ := hu;have : q % 3 = 0 ∨ q % 3 = 1 ∨ q % 3 = 2 := by omega
 rcases this with h | h | h <;> simp [h, Value.oneCell']
theorem Zal {B : Nat} {w0 : World} {g : Nat} (hg : B ≤ g) : ∀ (vs : List Value) (o : Nat) {W : World}, Below B w0 W → Below B w0 (W.setCells g o vs)
 | [], _, _, h => h
 | v :: r, o, _, h => Zal hg r (o + 1) (h.setCell (p := ⟨g, o, none⟩) hg v)
theorem Zhb (b : Nat) : ∀ (vs : List Value) (o : Nat) (W : World), (W.setCells b o vs).heap.size = W.heap.size
 | [], _, _ => rfl
 | v :: r, o, W => by
   rw [World.setCells, Zhb b r]; simp
theorem Ziw (b : Nat) (x : Addr) : ∀ (vs : List Value) (o : Nat) (W : World), (W.setCells b o vs).frozen? x = W.frozen? x
 | [], _, _ => rfl
 | v :: r, o, W => by
   rw [World.setCells, Ziw b x r]; simp
theorem Zqv (M : List Line) (i : Nat) : lines M = lines (M.take i) ++ lines (M.drop i) := by rw [← Zaz, Ybk]
theorem Zlo (M : List Line) {i : Nat} (hi : i ≤ M.length) : (lines (M.take i)).length = i * 3 := by rw [Zac, Yad, Ybb hi]
theorem Zux (M : List Line) {i j : Nat} (hi : i ≤ M.length) : lines (M.take i ++ M.drop j) = (lines M).take (i * 3) ++ lines (M.drop j) := by
 rw [Zaz, Zqv M i, Ydt (Zlo M hi)]
theorem Zsr (M : List Line) {j : Nat} (hj : j ≤ M.length) : lines (M.drop j) = (lines M).drop (j * 3) := by
 rw [Zqv M j, List.drop_left' (Zlo M hj)]
theorem Zaxf {w : World} {g i j q : Nat} {M : List Line} {zs : List Value} (hi : i ≤ j) (hj : j ≤ M.length) (_ : zs.length = (M.length - (i + (M.length - j))) * 3)
 (hc : ∀ k u, (lines M)[k]? = some u → w.cell? ⟨g, k, none⟩ = some u) (hg : g < w.heap.size) :
 Rd ((((w.drewN q).setCells g (i * 3) (lines (M.drop j))).setCells g ((i + (M.length - j)) * 3) zs)) 3 (some ⟨g, 0, none⟩) (i + (M.length - j)) (lines (M.take i ++ M.drop j)) := by
 have hll := Zac M;have hdl : (lines (M.drop j)).length = (M.length - j) * 3 := by rw [Zac, Yam]
 refine ⟨by rw [Zac, Yaj, Yad, Yam, Ybb (by omega)], fun _ => ⟨_, rfl, by rw [Zhb, Zhb]; exact hg, fun k u hu => ?_⟩⟩
 rw [Zae, Ybf];have hk : k < (lines (M.take i ++ M.drop j)).length := (Yba.1 hu).1;rw [Zac, Yaj, Yad, Yam, Ybb (by omega)] at hk
 rw [World.cell?_setCells_out g zs _ _ ⟨g, k, none⟩ (fun _ _ => .inl (by show k < _; omega))]
 rw [Zux M (by omega)] at hu
 by_cases h : k < i * 3
 · rw [Ycf (by rw [Yad]; omega), Ycp, Yan h] at hu
   rw [World.cell?_setCells_out g _ _ _ ⟨g, k, none⟩ (fun _ _ => .inl h)]
   exact hc k u hu
 · rw [Ybh (by rw [Yad]; omega), Yad, Ybb (by omega)] at hu
   have h2 : k - i * 3 < (lines (M.drop j)).length := (Yba.1 hu).1
   have h3 := World.cell?_setCells_in g (lines (M.drop j)) (i * 3) (w.drewN q) (fun t ht => by
    rw [hdl] at ht;have hlt : i * 3 + t < (lines M).length := by omega
    have := hc (i * 3 + t) _ (Yag hlt);show (w.cell? _).isSome = true;rw [this]; rfl) (k - i * 3) h2
   rw [show i * 3 + (k - i * 3) = k by omega] at h3
   rw [h3, ← Yag h2, hu]
def Zte (g cap i j base : Nat) (M : List Line) (w : World) (e : Ending) (w' : World) : Prop :=
 e = .returned (.slice (some ⟨g, 0, none⟩) (i + (M.length - j)) cap) ∧ Rd w' 3 (some ⟨g, 0, none⟩) (i + (M.length - j)) (lines (M.take i ++ M.drop j)) ∧ Below base w w'
theorem Zaml (g cap i j base : Nat) (M : List Line) (w : World) (ho : w.ownsRow base 62 3 (.slice (some ⟨g, 0, none⟩) M.length cap) M.length (lines M)) (hi : i < j) (hj : j ≤ M.length) (hcap : M.length ≤ cap) (hcm : cap ≤ maxLen) (hM : M.length ≤ 1000000) :
 Calls prog 53 #[.slice (some ⟨g, 0, none⟩) M.length cap, .int .i64 (i : Int), .int .i64 (j : Int)] w (Zte g cap i j base M w) := by
 obtain ⟨hbg, hgl⟩ := ho.lt g rfl;have hll := Zac M
 have hc : ∀ k u, (lines M)[k]? = some u → w.cell? ⟨g, k, none⟩ = some u := fun k u hu => by
  have hk := (Yba.1 hu).1;rw [ho.cellAt k (by omega)]; exact hu
 have hfr : ∀ k, w.frozen? ⟨g, k, none⟩ = false := fun k => ho.frozenAt k
 obtain ⟨i0, hii, hz0, hz1, hz2⟩ := info_parts Zkn;have hzl := Zahk (M.length - (i + (M.length - j)));have HD : Hid (∀ q, Rd ((((w.drewN q).setCells g (i * 3) (lines (M.drop j))).setCells g ((i + (M.length - j)) * 3) (Builtin.zeroCells (Value.agg #[.int .i64 0, .string ⟨#[]⟩, .int .i64 0]).cells (M.length - (i + (M.length - j)))).toList)) 3 (some ⟨g, 0, none⟩) (i + (M.length - j)) (lines (M.take i ++ M.drop j))) := fun q => Zaxf (by omega) hj hzl.1 hc hgl
 have hcl : ∀ q ty, (Builtin.clear_ #[25] ty #[.slice (some ⟨g, (i + (M.length - j)) * 3, none⟩) (M.length - (i + (M.length - j))) (cap - (i + (M.length - j)))]).run prog ((w.drewN q).setCells g (i * 3) (lines (M.drop j))) = .ok (.tuple #[]) (((w.drewN q).setCells g (i * 3) (lines (M.drop j))).setCells g ((i + (M.length - j)) * 3) (Builtin.zeroCells (Value.agg #[.int .i64 0, .string ⟨#[]⟩, .int .i64 0]).cells (M.length - (i + (M.length - j)))).toList) := fun q ty =>
  Zjt _ 25 62 ty _ underlying25 Zuw g _ _ _ (by omega)
   (fun k hk => by
    rw [hzl.1] at hk;rw [World.cell?_setCells_out g _ _ _ ⟨g, _, none⟩ (fun _ _ => .inr (by rw [Zac, Yam]; show _ ≤ (i + (M.length - j)) * 3 + k; omega))]
    have hlt : (i + (M.length - j)) * 3 + k < (lines M).length := by omega
    show (w.cell? _).isSome = true;rw [hc _ _ (Yag hlt)]; rfl)
   (fun k hk => by rw [Ziw]; exact hfr _) hzl.2
 have HB : Hid (∀ q, Below base w ((((w.drewN q).setCells g (i * 3) (lines (M.drop j))).setCells g ((i + (M.length - j)) * 3) (Builtin.zeroCells (Value.agg #[.int .i64 0, .string ⟨#[]⟩, .int .i64 0]).cells (M.length - (i + (M.length - j)))).toList))) := fun q => Zal hbg _ _ (Zal hbg _ _ (Zam (Yac _ _) q))
 have hne : ((i : Int) == (j : Int)) = false := by rw [Yak]; omega
 have HCd : Hid (∀ k u, (lines (M.drop j))[k]? = some u → w.cell? ⟨g, j * 3 + k, none⟩ = some u) := fun k u hu => by
  rw [Zsr M hj, Ydb] at hu;exact hc _ _ hu
 have HSp : Hid (∀ q k, k < (lines (M.drop j)).length → ((w.drewN q).cell? ⟨g, i * 3 + k, none⟩).isSome = true ∧ (w.drewN q).frozen? ⟨g, i * 3 + k, none⟩ = false) := fun q k hk => by
  rw [Zac, Yam] at hk;have hlt : i * 3 + k < (lines M).length := by omega
  refine ⟨?_, hfr _⟩;show (w.cell? _).isSome = true;rw [hc _ _ (Yag hlt)]; rfl
 have hdl : (lines (M.drop j)).length = (M.length - j) * 3 := by rw [Zac, Yam]
 have HLc := Zhd (Zig (M.drop j));unfold maxLen at hcm;have f1 : (i : Int) ≤ (j : Int) := by omega
 have f2 : (j : Int) ≤ (M.length : Int) := by omega
 have f3 : (M.length : Int) ≤ (cap : Int) := by omega
 have f4 : (j : Int) - (i : Int) = ((j - i : Nat) : Int) := by omega
 have f5 : (M.length : Int) - (j : Int) = ((M.length - j : Nat) : Int) := by omega
 have f6 : (M.length : Int) - (i : Int) = ((M.length - i : Nat) : Int) := by omega
 have f7 : (cap : Int) - (j : Int) = ((cap - j : Nat) : Int) := by omega
 have f8 : (i : Int) ≤ (cap : Int) := by omega
 have f9 : ¬ (M.length = i) := by omega
 obtain ⟨r, hr⟩ : ∃ r, i + (M.length - j) = r := ⟨_, rfl⟩;have hri : (i : Int) + ((M.length - j : Nat) : Int) = (r : Int) := by omega
 have g1 : (r : Int) ≤ (M.length : Int) := by omega
 have g2 : (M.length : Int) - (r : Int) = ((M.length - r : Nat) : Int) := by omega
 have g3 : (cap : Int) - (r : Int) = ((cap - r : Nat) : Int) := by omega
 have g4 : ¬ (cap = r) := by omega
 have g5 : ¬ (r = cap) := by omega
 have g6 : r ≤ cap := by omega
 rw [hr] at HD hcl HB;obtain ⟨w9, hw9⟩ : ∃ w9, w.drew.setCells g (0 + i * 3) (lines (M.drop j)) = w9 := ⟨_, rfl⟩;obtain ⟨w10, hw10⟩ : ∃ w10, w9.setCells g (r * 3) (Builtin.zeroCells (Value.agg #[.int .i64 0, .string ⟨#[]⟩, .int .i64 0]).cells (M.length - r)).toList = w10 := ⟨_, rfl⟩
 have hcl9 : ∀ ty, (Builtin.clear_ #[25] ty #[.slice (some ⟨g, r * 3, none⟩) (M.length - r) (cap - r)]).run prog w9 = .ok (.tuple #[]) w10 := fun ty => by
  rw [← hw10, ← hw9, Ybf];exact hcl 1 ty
 have HE : Hid (Zte g cap i j base M w (.returned (.slice (some ⟨g, 0, none⟩) r cap)) w10) := by
  show Zte _ _ _ _ _ _ _ _ _;unfold Zte;rw [hr, ← hw10, ← hw9, Ybf];exact ⟨rfl, HD.out 1, HB.out 1⟩
 clear ho hc hfr hzl hll hcl HD HB hw10;by_cases hjc : j = cap
 · have hjM : j = M.length := by omega
   subst hjM;subst hjc;have hri2 : r = i := by omega
   subst hri2;have hd0 : lines (M.drop M.length) = [] := by rw [Ydh]; rfl
   have hw0 : w.drew = w9 := by rw [← hw9, hd0]; rfl
   have hf2 : ¬ (r = M.length) := by omega
   clear hw9 hd0 hr hri HSp HCd HLc hdl f4 f5 f6 f7 g2 g3 g4 g5 hcap f3;have f6 : (M.length : Int) - (r : Int) = ((M.length - r : Nat) : Int) := by omega
   go_enter func53, ntmps53;go_upto_region 5 with fail
   go_region_law ((refine step_append_room rfl _ _ 25 rfl 62 i0 3 underlying25 hii hz1 g 0 r M.length (by rfl) ⟨g, 0, none⟩ 0 0 [] (by rfl) rfl (fun k u hu => by cases hu) (fun u hu => by cases hu) (by omega) (fun k hk => absurd hk (Yeq _)) ?_; change _ w.drew; rw [hw0]))
   all_goals go_wp2
   all_goals go_ret
   all_goals exact HE.out
 · have hjc2 : ¬ (cap = j) := fun e => hjc e.symm
   go_enter func53, ntmps53;go_upto_region 5 with fail
   go_region_law ((refine step_append_room rfl _ _ 25 rfl 62 i0 3 underlying25 hii hz1 g 0 i cap (by rfl) ⟨g, j * 3, none⟩ (M.length - j) (cap - j) (lines (M.drop j)) (by rfl) hdl (fun k u hu => by rw [Zae]; exact HCd.out k u hu) HLc.out (by omega) (fun k hk => by rw [Ybf]; exact HSp.out 1 k hk) ?_; rw [hw9, hr]))
   all_goals go_wp2
   all_goals go_ret
   all_goals exact HE.out
end Go.Proofs.Zq
namespace Edt
open Go Go.Lib Tre Lns
def delB (L : List Line) (P : List ByteArray) : List Line × Int :=
 if P.length = 0 then (L, 1) else match Zar L P with
  | none => (L, 3)
  | some k => if Zse L P k (endB L k) then (L, 12) else (L.take k ++ L.drop (endB L k), 0)
theorem Zats {L : List Line} {P : List ByteArray} (h : P.length = 0) : delB L P = (L, 1) := by unfold delB; rw [Yan h]
theorem Zaov {L : List Line} {P : List ByteArray} (h : P.length ≠ 0) (hf : Zar L P = none) : delB L P = (L, 3) := by unfold delB; rw [Yab h, hf]
theorem Zask {L : List Line} {P : List ByteArray} {k : Nat} (h : P.length ≠ 0) (hf : Zar L P = some k) (hs : Zse L P k (endB L k) = true) : delB L P = (L, 12) := by unfold delB; rw [Yab h, hf]; simp only; rw [Yan hs]
theorem Zauk {L : List Line} {P : List ByteArray} {k : Nat} (h : P.length ≠ 0) (hf : Zar L P = some k) (hs : Zse L P k (endB L k) = false) : delB L P = (L.take k ++ L.drop (endB L k), 0) := by unfold delB; rw [Yab h, hf]; simp only; rw [Yab (by rw [hs]; simp)]
end Edt
namespace Go.Proofs.Zq
open Tryz
open Go Go.RowKit Go.Sort Tre Lx Prs Lns Edt
theorem Zahm (A : Option Addr) (cap : Nat) (L : List Line) (Ap : Option Addr) (cp : Nat) (P : List ByteArray) (w : World) (hR : Rd w 3 A L.length (lines L)) (hcap : L.length ≤ cap) (hc : cap ≤ maxLen) (hnil : A = none → cap = 0) (hr : Zab L = true) (hP : Rd w 1 Ap P.length (sv P)) (hcp : P.length ≤ cp) (hc2 : cp ≤ maxLen) :
 Calls prog 26 #[.slice A L.length cap, .slice Ap P.length cp] w (Zhc (delB L P) w) := by
 have HPa := Zhd (Zps A cap L Ap cp P w hR hcap hc hr hP hcp hc2);have HL : Hid (∀ W, Below w.heap.size w W → Lr W (.slice A L.length cap) L) := fun W hb => ⟨A, cap, rfl, hcap, hc, hR.below hb, hnil⟩
 have h200 := Zas hr;obtain ⟨z, hz⟩ : ∃ z, delB L P = z := ⟨_, rfl⟩;have HZ := Zhd hz;unfold Zhc;rw [hz];clear hz;by_cases h0 : P.length = 0
 · have HK : Hid (z = (L, 1)) := by show _ = _; rw [← HZ.out, Zats h0]
   rw [Zmz h0] at HPa;clear HZ hR hP hr h0;go_enter func26, ntmps26;go_wp2_with fail;refine HPa.out.mono ?_;rintro e w2 ⟨rfl, hb2⟩;go_wp2;go_ret2;rw [HK.out];exact ⟨⟨_, rfl, HL.out _ hb2⟩, hb2⟩
 · cases hf : Zar L P with
   | none =>
     have HK : Hid (z = (L, 3)) := by show _ = _; rw [← HZ.out, Zaov h0 hf]
     rw [Zjo h0 hf] at HPa;clear HZ hR hP hr h0 hf;go_enter func26, ntmps26;go_wp2_with fail;refine HPa.out.mono ?_;rintro e w2 ⟨rfl, hb2⟩;go_wp2;go_ret2;rw [HK.out];exact ⟨⟨_, rfl, HL.out _ hb2⟩, hb2⟩
   | some k =>
     have hk := Zcd hf;have he := Zbb L k hk;rw [Zjk h0 hf] at HPa;have HS := Zhd (fun (W : World) (hb : Below w.heap.size w W) => Zadl A cap L Ap cp P k (endB L k) W (hR.below hb) hcap hc hr (hP.below hb) hcp hc2 hk (by omega) (by omega))
     have HCl := Zhd (fun (W : World) (hb : Below w.heap.size w W) => Zef A cap L W (hR.below hb) hnil (by omega))
     unfold Zcc at HCl;cases hs : Zse L P k (endB L k) with
     | true =>
       have HK : Hid (z = (L, 12)) := by show _ = _; rw [← HZ.out, Zask h0 hf hs]
       rw [hs] at HS;clear HZ hR hP hr h0 hf hs HCl;go_enter func26, ntmps26;go_wp2_with fail;refine HPa.out.mono ?_;rintro e w2 ⟨rfl, hb2⟩;have HS2 := Zhd (HS.out w2 hb2);have HB2 := Zhd hb2;clear hb2 HPa HS;go_wp2_with fail;refine HS2.out.mono ?_;rintro e w3 ⟨rfl, hb3⟩;have HB3 := Zhd (Zaa HB2.out hb3);go_wp2;go_ret2;rw [HK.out];exact ⟨⟨_, rfl, HL.out _ HB3.out⟩, HB3.out⟩
     | false =>
       have HK : Hid (z = (L.take k ++ L.drop (endB L k), 0)) := by show _ = _; rw [← HZ.out, Zauk h0 hf hs]
       rw [hs] at HS;clear HZ hR hP hr h0 hf hs;generalize endB L k = E at *;go_enter func26, ntmps26;go_wp2_with fail;refine HPa.out.mono ?_;rintro e w2 ⟨rfl, hb2⟩;have HS2 := Zhd (HS.out w2 hb2);have HB2 := Zhd hb2;clear hb2 HPa HS;go_wp2_with fail;refine HS2.out.mono ?_;rintro e w3 ⟨rfl, hb3⟩;have HB3 := Zhd (Zaa HB2.out hb3);have HC3 := Zhd (HCl.out w3 HB3.out);clear hb3 HS2 HCl;go_wp2_with fail;refine HC3.out.mono ?_;rintro e w4 ⟨⟨v4, rfl, ho4⟩, hb4⟩;obtain ⟨m, hm⟩ : ∃ m, L.length = m + 1 := ⟨L.length - 1, by omega⟩
       have ho4' := ho4;rw [hm] at ho4';obtain ⟨q, cc, rfl⟩ := Zck ho4';rw [← hm] at ho4 ⊢;obtain ⟨A4, c4, e4, hn4, hm4, -⟩ := Zbc ho4;obtain ⟨rfl, rfl⟩ : A4 = some ⟨q, 0, none⟩ ∧ cc = c4 := by
        injection e4 with e1 _ e3
        exact ⟨e1.symm, e3⟩
       have HD := Zhd (Zaml q cc k E w3.heap.size L w4 ho4 (by omega) (by omega) hn4 hm4 (by omega))
       have HB4 := Zhd (Zaa HB3.out hb4);unfold Zte at HD;have hlen : (L.take k ++ L.drop E).length = k + (L.length - E) := by rw [Yaj, Yad, Yam]; omega
       clear ho4 ho4' hm e4 hb4 HC3;have hz3 := HB3.out.size;go_wp2_with fail;refine HD.out.mono ?_;rintro e w5 ⟨rfl, hrd, hb5⟩;have HB5 := Zhd (HB4.out.trans (hb5.mono hz3));have HR5 : Hid (Lr w5 (.slice (some ⟨q, 0, none⟩) (k + (L.length - E)) cc) (L.take k ++ L.drop E)) := ⟨_, cc, by rw [hlen], by rw [hlen]; omega, hm4, by rw [hlen]; exact hrd, fun h => by cases h⟩
       clear hrd hb5 HD hlen;go_wp2;go_ret2;rw [HK.out];exact ⟨⟨_, rfl, HR5.out⟩, HB5.out⟩
end Go.Proofs.Zq
namespace Edt
open Go Go.Lib Tre Lns
def Zzb (l : Line) (b : Int) (on : Bool) : Line := ⟨l.depth, l.word, if on then bits .or .i64 l.mark b else bits .andNot .i64 l.mark b⟩
def Zgr (L : List Line) (P : List ByteArray) (b : Int) (on : Bool) : List Line × Int :=
 if b ≠ 1 ∧ b ≠ 2 then (L, 1) else if P.length = 0 then (L, 1) else match Zar L P with
  | none => (L, 3)
  | some k => if Zos L P || (decide (b = 1) && (bits .and .i64 (Zdq L k).mark 2 != 0)) then (L, 12) else (L.set k (Zzb (Zdq L k) b on), 0)
theorem Zarv {L : List Line} {P : List ByteArray} {b : Int} {on : Bool} (h1 : b ≠ 1) (h2 : b ≠ 2) : Zgr L P b on = (L, 1) := by unfold Zgr; rw [Yan ⟨h1, h2⟩]
theorem Zape {L : List Line} {P : List ByteArray} {b : Int} {on : Bool} (hb : b = 1 ∨ b = 2) (h : P.length = 0) : Zgr L P b on = (L, 1) := by unfold Zgr; rw [Yab (by omega), Yan h]
theorem Zano {L : List Line} {P : List ByteArray} {b : Int} {on : Bool} (hb : b = 1 ∨ b = 2) (h : P.length ≠ 0) (hf : Zar L P = none) : Zgr L P b on = (L, 3) := by unfold Zgr; rw [Yab (by omega), Yab h, hf]
theorem Zajj {L : List Line} {P : List ByteArray} {b : Int} {on : Bool} {k : Nat} (hb : b = 1 ∨ b = 2) (h : P.length ≠ 0) (hf : Zar L P = some k) (hk : k < L.length) : Zgr L P b on = if Zos L P || (decide (b = 1) && (bits .and .i64 L[k].mark 2 != 0)) then (L, 12) else (L.set k (Zzb L[k] b on), 0) := by unfold Zgr; rw [Yab (by omega), Yab h, hf]; simp only; rw [Zdf hk]
end Edt
namespace Go.Proofs.Zq
open Tryz
open Go Go.RowKit Go.Sort Tre Lx Prs Lns Edt
theorem Zatt {w : World} {base q n cc k : Nat} {L : List Line} {m : Int} (hn : L.length = n) (ho : w.ownsRow base 62 3 (.slice (some ⟨q, 0, none⟩) n cc) n (lines L)) (hk : k < L.length) :
 Rd (w.setCell ⟨q, k * 3 + 2, none⟩ (.int .i64 m)) 3 (some ⟨q, 0, none⟩) n (lines (L.set k ⟨L[k].depth, L[k].word, m⟩)) := by
 have hll := Zac L;obtain ⟨-, hgl⟩ := ho.lt q rfl
 have hc : ∀ t u, (lines L)[t]? = some u → w.cell? ⟨q, t, none⟩ = some u := fun t u hu => by
  have ht := (Yba.1 hu).1;rw [ho.cellAt t (by omega)]; exact hu
 refine ⟨by rw [Zac, Ycl, hn], fun _ => ⟨_, rfl, by simpa using hgl, fun t u hu => ?_⟩⟩
 rw [Zae, Ybf];have ht : t < L.length * 3 := by
  have := (Yba.1 hu).1
  rwa [Zac, Ycl] at this
 have hti : t / 3 < L.length := by omega
 have e1 := Zhr (L.set k ⟨L[k].depth, L[k].word, m⟩) (t / 3) (t % 3) (by rw [Ycl]; exact hti) (by omega)
 have e2 := Zhr L (t / 3) (t % 3) hti (by omega)
 rw [show t / 3 * 3 + t % 3 = t by omega] at e1 e2
 rw [e1, List.getElem_set] at hu;by_cases h : t = k * 3 + 2
 · have hq : k = t / 3 := by omega
   rw [Yan hq, show t % 3 = 2 by omega] at hu
   have hlt : k * 3 + 2 < (lines L).length := by omega
   have hsome := hc _ _ (Yag hlt);rw [h, World.cell?_setCell_same _ _ _ hsome];simpa [Line.cells] using hu
 · rw [World.cell?_setCell_other _ _ _ _ (fun e => h (by injection e with _ e2 _; omega))]
   by_cases hq : k = t / 3
   · rw [Yan hq] at hu;refine hc t u ?_;rw [e2];have h3 : t % 3 = 0 ∨ t % 3 = 1 := by omega
     subst hq;rcases h3 with h3 | h3 <;> rw [h3] at hu ⊢ <;> simpa [Line.cells] using hu
   · rw [Yab hq] at hu;exact hc t u (by rw [e2]; exact hu)
theorem Zaim (A : Option Addr) (cap : Nat) (L : List Line) (Ap : Option Addr) (cp : Nat) (P : List ByteArray) (b : Int) (on : Bool) (w : World) (hR : Rd w 3 A L.length (lines L)) (hcap : L.length ≤ cap) (hc : cap ≤ maxLen) (hnil : A = none → cap = 0) (hr : Zab L = true) (hP : Rd w 1 Ap P.length (sv P)) (hcp : P.length ≤ cp) (hc2 : cp ≤ maxLen) :
 Calls prog 27 #[.slice A L.length cap, .slice Ap P.length cp, .int .i64 b, .bool on] w (Zhc (Zgr L P b on) w) := by
 have HPa := Zhd (Zps A cap L Ap cp P w hR hcap hc hr hP hcp hc2);have HL : Hid (∀ W, Below w.heap.size w W → Lr W (.slice A L.length cap) L) := fun W hb => ⟨A, cap, rfl, hcap, hc, hR.below hb, hnil⟩
 have h200 := Zas hr;obtain ⟨z, hz⟩ : ∃ z, Zgr L P b on = z := ⟨_, rfl⟩;have HZ := Zhd hz;unfold Zhc;rw [hz];clear hz;by_cases hb : b = 1 ∨ b = 2
 · have hq12 : (b != 1) = true → (b != 2) = false := fun h => by rw [bne_iff_ne] at h; rcases hb with e | e; exact absurd e h; rw [e]; rfl
   by_cases h0 : P.length = 0
   · have HK : Hid (z = (L, 1)) := by show _ = _; rw [← HZ.out, Zape hb h0]
     rw [Zmz h0] at HPa;clear HZ hR hP hr h0 hq12;rcases hb with rfl | rfl
     all_goals
      go_enter func27, ntmps27;go_wp2_with fail;refine HPa.out.mono ?_;rintro e w2 ⟨rfl, hb2⟩;go_wp2;go_ret2;rw [HK.out];exact ⟨⟨_, rfl, HL.out _ hb2⟩, hb2⟩
   · cases hf : Zar L P with
     | none =>
       have HK : Hid (z = (L, 3)) := by show _ = _; rw [← HZ.out, Zano hb h0 hf]
       rw [Zjo h0 hf] at HPa;clear HZ hR hP hr h0 hf hq12;rcases hb with rfl | rfl
       all_goals
        go_enter func27, ntmps27;go_wp2_with fail;refine HPa.out.mono ?_;rintro e w2 ⟨rfl, hb2⟩;go_wp2;go_ret2;rw [HK.out];exact ⟨⟨_, rfl, HL.out _ hb2⟩, hb2⟩
     | some k =>
       have hk := Zcd hf;have HZ2 := Zhd (HZ.out.symm.trans (Zajj (on := on) hb h0 hf hk));rw [Zjk h0 hf] at HPa;have HAb := Zhd (fun (W : World) (hbw : Below w.heap.size w W) => Zym A cap L Ap cp P W (hR.below hbw) hcap hc hr (hP.below hbw) hcp hc2 h0)
       have HCl := Zhd (fun (W : World) (hbw : Below w.heap.size w W) => Zef A cap L W (hR.below hbw) hnil (by omega))
       unfold Zcc at HCl;obtain ⟨B, O, rfl, hab, hadd, -, -, y2⟩ := hR.line hk;have hk1 : (k : Int) < (L.length : Int) := by omega
       have HY : Hid (∀ W, Below w.heap.size w W → W.cell? ⟨B, O + k * 3 + 2, none⟩ = some (.int .i64 L[k].mark)) := fun W hbw => (hbw.cell (p := ⟨B, O + k * 3 + 2, none⟩) hab).trans y2
       have HMk := Zhd (fun (W : World) (base q cc : Nat) (ho : W.ownsRow base 62 3 (.slice (some ⟨q, 0, none⟩) L.length cc) L.length (lines L)) (m : Int) => Zatt (m := m) rfl ho hk)
       have HLk := Zhd (Zhr L k 2 hk (by omega))
       unfold Zzb at HZ2;clear HZ hP hr h0 hf y2;generalize endB L k = E at *;obtain ⟨ln, hln⟩ : ∃ ln, L[k] = ln := ⟨_, rfl⟩;rw [hln] at HZ2 HY HMk HLk;obtain ⟨ld, lw, lm⟩ := ln;simp only at HZ2 HY HMk HLk;clear hln hR;cases hab2 : Zos L P with
       | true =>
         rw [hab2] at HZ2 HAb;have HK : Hid (z = (L, 12)) := by show _ = _; rw [HZ2.out]; rfl
         clear HZ2 HY HMk HCl HLk hab2 hq12;rcases hb with rfl | rfl
         all_goals
          go_enter func27, ntmps27;go_wp2_with fail;refine HPa.out.mono ?_;rintro e w2 ⟨rfl, hb2⟩;have HA2 := Zhd (HAb.out w2 hb2);have HB2 := Zhd hb2;clear hb2;go_wp2_with fail;refine HA2.out.mono ?_;rintro e w3 ⟨rfl, hb3⟩;have HB3 := Zhd (Zaa HB2.out hb3);go_wp2;go_ret2;rw [HK.out];exact ⟨⟨_, rfl, HL.out _ HB3.out⟩, HB3.out⟩
       | false =>
         rw [hab2] at HZ2 HAb;clear hab2 hq12;rcases hb with rfl | rfl
         · cases hq : (bits .and .i64 lm 2 != 0) with
           | true =>
             rw [hq] at HZ2;have HK : Hid (z = (L, 12)) := by show _ = _; rw [HZ2.out]; rfl
             clear HZ2;go_enter func27, ntmps27;go_wp2_with fail;refine HPa.out.mono ?_;rintro e w2 ⟨rfl, hb2⟩;have HA2 := Zhd (HAb.out w2 hb2);have HB2 := Zhd hb2;clear hb2;go_wp2_with fail;refine HA2.out.mono ?_;rintro e w3 ⟨rfl, hb3⟩;have HB3 := Zhd (Zaa HB2.out hb3);have y2 := HY.out w3 HB3.out;clear hb3 HA2;go_wp2;go_ret2;rw [HK.out];exact ⟨⟨_, rfl, HL.out _ HB3.out⟩, HB3.out⟩
           | false =>
             rw [hq] at HZ2;cases on with
             | true =>
               have HK : Hid (z = (L.set k ⟨ld, lw, bits .or .i64 lm 1⟩, 0)) := by show _ = _; rw [HZ2.out]; rfl
               clear HZ2;go_enter func27, ntmps27;go_wp2_with fail;refine HPa.out.mono ?_;rintro e w2 ⟨rfl, hb2⟩;have HA2 := Zhd (HAb.out w2 hb2);have HB2 := Zhd hb2;clear hb2;go_wp2_with fail;refine HA2.out.mono ?_;rintro e w3 ⟨rfl, hb3⟩;have HB3 := Zhd (Zaa HB2.out hb3);have y2 := HY.out w3 HB3.out;clear hb3 HA2;have HC3 := Zhd (HCl.out w3 HB3.out);go_wp2_with fail;refine HC3.out.mono ?_;rintro e w4 ⟨⟨v4, rfl, ho4⟩, hb4⟩;obtain ⟨m, hm⟩ : ∃ m, L.length = m + 1 := ⟨L.length - 1, by omega⟩
               have ho4' := ho4;rw [hm] at ho4';obtain ⟨q, cc, rfl⟩ := Zck ho4';rw [← hm] at ho4 ⊢;obtain ⟨A4, c4, e4, hn4, hm4, -⟩ := Zbc ho4;obtain ⟨rfl, rfl⟩ : A4 = some ⟨q, 0, none⟩ ∧ cc = c4 := by
                injection e4 with e1 _ e3
                exact ⟨e1.symm, e3⟩
               have x2 : w4.cell? ⟨q, k * 3 + 2, none⟩ = some (.int .i64 lm) := by
                rw [ho4.cellAt (k * 3 + 2) (by have := Zac L; omega)]
                exact HLk.out.trans rfl
               have hfz : w4.frozen? ⟨q, k * 3 + 2, none⟩ = false := ho4.frozenAt _;have HR4 := Zhd (HMk.out w4 _ q cc ho4 (bits .or .i64 lm 1));have HB4 := Zhd ((Zaa HB3.out hb4).setCell (p := ⟨q, k * 3 + 2, none⟩) (Yas HB3.out.size (ho4.lt q rfl).1) (.int .i64 (bits .or .i64 lm 1)));have hls : (L.set k ⟨ld, lw, bits .or .i64 lm 1⟩).length = L.length := Ycl;clear ho4 ho4' hm e4 hb4 HC3 y2;go_wp2;go_ret2;rw [HK.out];exact ⟨⟨.slice (some ⟨q, 0, none⟩) L.length cc, rfl, some ⟨q, 0, none⟩, cc, by rw [hls], by rw [hls]; exact hn4, hm4, by rw [hls]; exact HR4.out, fun h => by cases h⟩, HB4.out⟩
             | false =>
               have HK : Hid (z = (L.set k ⟨ld, lw, bits .andNot .i64 lm 1⟩, 0)) := by show _ = _; rw [HZ2.out]; rfl
               clear HZ2;go_enter func27, ntmps27;go_wp2_with fail;refine HPa.out.mono ?_;rintro e w2 ⟨rfl, hb2⟩;have HA2 := Zhd (HAb.out w2 hb2);have HB2 := Zhd hb2;clear hb2;go_wp2_with fail;refine HA2.out.mono ?_;rintro e w3 ⟨rfl, hb3⟩;have HB3 := Zhd (Zaa HB2.out hb3);have y2 := HY.out w3 HB3.out;clear hb3 HA2;have HC3 := Zhd (HCl.out w3 HB3.out);go_wp2_with fail;refine HC3.out.mono ?_;rintro e w4 ⟨⟨v4, rfl, ho4⟩, hb4⟩;obtain ⟨m, hm⟩ : ∃ m, L.length = m + 1 := ⟨L.length - 1, by omega⟩
               have ho4' := ho4;rw [hm] at ho4';obtain ⟨q, cc, rfl⟩ := Zck ho4';rw [← hm] at ho4 ⊢;obtain ⟨A4, c4, e4, hn4, hm4, -⟩ := Zbc ho4;obtain ⟨rfl, rfl⟩ : A4 = some ⟨q, 0, none⟩ ∧ cc = c4 := by
                injection e4 with e1 _ e3
                exact ⟨e1.symm, e3⟩
               have x2 : w4.cell? ⟨q, k * 3 + 2, none⟩ = some (.int .i64 lm) := by
                rw [ho4.cellAt (k * 3 + 2) (by have := Zac L; omega)]
                exact HLk.out.trans rfl
               have hfz : w4.frozen? ⟨q, k * 3 + 2, none⟩ = false := ho4.frozenAt _;have HR4 := Zhd (HMk.out w4 _ q cc ho4 (bits .andNot .i64 lm 1));have HB4 := Zhd ((Zaa HB3.out hb4).setCell (p := ⟨q, k * 3 + 2, none⟩) (Yas HB3.out.size (ho4.lt q rfl).1) (.int .i64 (bits .andNot .i64 lm 1)));have hls : (L.set k ⟨ld, lw, bits .andNot .i64 lm 1⟩).length = L.length := Ycl;clear ho4 ho4' hm e4 hb4 HC3 y2;go_wp2;go_ret2;rw [HK.out];exact ⟨⟨.slice (some ⟨q, 0, none⟩) L.length cc, rfl, some ⟨q, 0, none⟩, cc, by rw [hls], by rw [hls]; exact hn4, hm4, by rw [hls]; exact HR4.out, fun h => by cases h⟩, HB4.out⟩
         · have q21 : ((2 : Int) == 1) = false := rfl;cases on with
           | true =>
             have HK : Hid (z = (L.set k ⟨ld, lw, bits .or .i64 lm 2⟩, 0)) := by show _ = _; rw [HZ2.out]; rfl
             clear HZ2;go_enter func27, ntmps27;go_wp2_with fail;refine HPa.out.mono ?_;rintro e w2 ⟨rfl, hb2⟩;have HA2 := Zhd (HAb.out w2 hb2);have HB2 := Zhd hb2;clear hb2;go_wp2_with fail;refine HA2.out.mono ?_;rintro e w3 ⟨rfl, hb3⟩;have HB3 := Zhd (Zaa HB2.out hb3);have y2 := HY.out w3 HB3.out;clear hb3 HA2;have HC3 := Zhd (HCl.out w3 HB3.out);go_wp2_with fail;refine HC3.out.mono ?_;rintro e w4 ⟨⟨v4, rfl, ho4⟩, hb4⟩;obtain ⟨m, hm⟩ : ∃ m, L.length = m + 1 := ⟨L.length - 1, by omega⟩
             have ho4' := ho4;rw [hm] at ho4';obtain ⟨q, cc, rfl⟩ := Zck ho4';rw [← hm] at ho4 ⊢;obtain ⟨A4, c4, e4, hn4, hm4, -⟩ := Zbc ho4;obtain ⟨rfl, rfl⟩ : A4 = some ⟨q, 0, none⟩ ∧ cc = c4 := by
              injection e4 with e1 _ e3
              exact ⟨e1.symm, e3⟩
             have x2 : w4.cell? ⟨q, k * 3 + 2, none⟩ = some (.int .i64 lm) := by
              rw [ho4.cellAt (k * 3 + 2) (by have := Zac L; omega)]
              exact HLk.out.trans rfl
             have hfz : w4.frozen? ⟨q, k * 3 + 2, none⟩ = false := ho4.frozenAt _;have HR4 := Zhd (HMk.out w4 _ q cc ho4 (bits .or .i64 lm 2));have HB4 := Zhd ((Zaa HB3.out hb4).setCell (p := ⟨q, k * 3 + 2, none⟩) (Yas HB3.out.size (ho4.lt q rfl).1) (.int .i64 (bits .or .i64 lm 2)));have hls : (L.set k ⟨ld, lw, bits .or .i64 lm 2⟩).length = L.length := Ycl;clear ho4 ho4' hm e4 hb4 HC3 y2;go_wp2;go_ret2;rw [HK.out];exact ⟨⟨.slice (some ⟨q, 0, none⟩) L.length cc, rfl, some ⟨q, 0, none⟩, cc, by rw [hls], by rw [hls]; exact hn4, hm4, by rw [hls]; exact HR4.out, fun h => by cases h⟩, HB4.out⟩
           | false =>
             have HK : Hid (z = (L.set k ⟨ld, lw, bits .andNot .i64 lm 2⟩, 0)) := by show _ = _; rw [HZ2.out]; rfl
             clear HZ2;go_enter func27, ntmps27;go_wp2_with fail;refine HPa.out.mono ?_;rintro e w2 ⟨rfl, hb2⟩;have HA2 := Zhd (HAb.out w2 hb2);have HB2 := Zhd hb2;clear hb2;go_wp2_with fail;refine HA2.out.mono ?_;rintro e w3 ⟨rfl, hb3⟩;have HB3 := Zhd (Zaa HB2.out hb3);have y2 := HY.out w3 HB3.out;clear hb3 HA2;have HC3 := Zhd (HCl.out w3 HB3.out);go_wp2_with fail;refine HC3.out.mono ?_;rintro e w4 ⟨⟨v4, rfl, ho4⟩, hb4⟩;obtain ⟨m, hm⟩ : ∃ m, L.length = m + 1 := ⟨L.length - 1, by omega⟩
             have ho4' := ho4;rw [hm] at ho4';obtain ⟨q, cc, rfl⟩ := Zck ho4';rw [← hm] at ho4 ⊢;obtain ⟨A4, c4, e4, hn4, hm4, -⟩ := Zbc ho4;obtain ⟨rfl, rfl⟩ : A4 = some ⟨q, 0, none⟩ ∧ cc = c4 := by
              injection e4 with e1 _ e3
              exact ⟨e1.symm, e3⟩
             have x2 : w4.cell? ⟨q, k * 3 + 2, none⟩ = some (.int .i64 lm) := by
              rw [ho4.cellAt (k * 3 + 2) (by have := Zac L; omega)]
              exact HLk.out.trans rfl
             have hfz : w4.frozen? ⟨q, k * 3 + 2, none⟩ = false := ho4.frozenAt _;have HR4 := Zhd (HMk.out w4 _ q cc ho4 (bits .andNot .i64 lm 2));have HB4 := Zhd ((Zaa HB3.out hb4).setCell (p := ⟨q, k * 3 + 2, none⟩) (Yas HB3.out.size (ho4.lt q rfl).1) (.int .i64 (bits .andNot .i64 lm 2)));have hls : (L.set k ⟨ld, lw, bits .andNot .i64 lm 2⟩).length = L.length := Ycl;clear ho4 ho4' hm e4 hb4 HC3 y2;go_wp2;go_ret2;rw [HK.out];exact ⟨⟨.slice (some ⟨q, 0, none⟩) L.length cc, rfl, some ⟨q, 0, none⟩, cc, by rw [hls], by rw [hls]; exact hn4, hm4, by rw [hls]; exact HR4.out, fun h => by cases h⟩, HB4.out⟩
 · have h1 : (b != 1) = true := by rw [bne_iff_ne]; omega
   have h2 : (b != 2) = true := by rw [bne_iff_ne]; omega
   have HK : Hid (z = (L, 1)) := by show _ = _; rw [← HZ.out, Zarv (by omega) (by omega)]
   have HLw := HL.out w (Yac _ _);clear HZ hR hP hr hb;go_enter func27, ntmps27;go_wp2;go_ret2;rw [HK.out];exact ⟨⟨_, rfl, HLw⟩, Yac _ _⟩
theorem Ztl (Ap : Option Addr) (cp : Nat) (P : List ByteArray) (s : ByteArray) (w : World) (hP : Rd w 1 Ap P.length (sv P)) (hcp : P.length ≤ cp) (_hc2 : cp ≤ maxLen) (h0 : P.length ≠ 0) (h16 : P.length ≤ 1000000) :
 Calls prog 56 #[.slice Ap P.length cp, .string s] w fun e w' => (∃ v, e = .returned v ∧ w'.ownsRow w.heap.size 9 1 v P.length (sv (P.dropLast ++ [s]))) ∧ Below w.heap.size w w' := by
 obtain ⟨i0, hi, hz0, hz1, hz2⟩ := info_parts Zdx;obtain ⟨m, hm⟩ : ∃ m, P.length = m + 1 := ⟨P.length - 1, by omega⟩
 obtain ⟨ad, rfl, -, hx⟩ := hP.2 (by omega)
 have hsv : ∀ j, j < P.length → (sv P)[j]? = some (.string (P.getD j ByteArray.empty)) := fun j hj => by
  unfold sv;rw [Ycs, Yap, Yag hj]; rfl
 have hs : ad.spot = none := by
  have h00 := hx 0 _ (hsv 0 (by omega))
  have h2 := World.cell?_spot h00;have h3 : ad.add 0 = ad := by simp [Addr.add]
  rwa [h3] at h2
 obtain ⟨b, o, sp⟩ := ad;obtain rfl : sp = none := hs
 have HCl := Zhd (Tryz.slices_Clone_string b o m cp P w (by omega) (by omega) (fun j hj => by
  have := hx j _ (hsv j hj)
  rwa [Zae] at this))
 have hi1 : (m : Int) ≤ (cp : Int) := by omega
 have hi0 : (0 : Int) ≤ (m : Int) := by omega
 unfold maxLen at _hc2;have hm63 : (m : Int) + 1 ≤ 9223372036854775807 := by omega
 have hdl : P.dropLast = P.take m := by rw [Ydk, hm]; rfl
 have HE : Hid (sv (P.dropLast ++ [s]) = sv (P.take m) ++ [.string s]) := by show _ = _; rw [hdl, Zasu]; rfl
 rw [hm];clear hP hx hsv hdl;go_enter func56, ntmps56;go_wp2_with fail;refine HCl.out.mono ?_;rintro e w2 ⟨v2, rfl, ho2, -, hb2⟩;have HO2 : Hid (w2.ownsRow w.heap.size 9 1 v2 m (sv (P.take m))) := ho2;have HB2 := Zhd hb2;clear ho2 hb2;go_wp2_with (at_builtin; refine Zfn rfl _ _ 33 rfl w w2 9 i0 _ 1 16 underlying33 hi hz0 hz1 hz2 rfl (by decide) (by decide) HO2.out HB2.out rfl 1 1 [.string s] rfl rfl (by simp; rfl) (by omega) ?_; intro v3 w3 hown3 hb3)
 go_wp2_with fail;go_ret;exact ⟨⟨_, rfl, by rw [HE.out]; exact hown3⟩, hb3⟩
theorem Zaip (w : World) :
 Calls prog 6 #[] w fun e w' => e = .returned (.agg #[.slice none 0 0, .slice none 0 0, .bool false, .slice none 0 0, .slice none 0 0, .bool false, .slice none 0 0, .slice none 0 0, .bool false, .slice none 0 0, .slice none 0 0, .int .i64 0, .int .i64 0, .int .i64 0, .slice none 0 0]) ∧ Below w.heap.size w w' := by
 have hb := Zhd ((Yac w.heap.size w).alloc (Yaf _) (.cells #[.slice none 0 0, .slice none 0 0, .bool false, .slice none 0 0, .slice none 0 0, .bool false, .slice none 0 0, .slice none 0 0, .bool false, .slice none 0 0, .slice none 0 0, .int .i64 0, .int .i64 0, .int .i64 0, .slice none 0 0] 31));go_enter func6, ntmps6;go_wp2
 first
  | (go_ret; exact ⟨rfl, hb.out⟩)
  | exact bodyPost_ret (v := .agg #[.slice none 0 0, .slice none 0 0, .bool false, .slice none 0 0, .slice none 0 0, .bool false, .slice none 0 0, .slice none 0 0, .bool false, .slice none 0 0, .slice none 0 0, .int .i64 0, .int .i64 0, .int .i64 0, .slice none 0 0]) (by simp [results, results6, go_sem]) rfl ⟨rfl, hb.out⟩
theorem Zadt (v0 v2 v3 v4 v5 v6 v7 v8 v9 v10 v11 v12 v13 v14 : Value) (Ar : Option Addr) (n cr : Nat) (num : Int) (w : World) (h : (n = 0 ∧ num = 0) ∨ ∃ b o, Ar = some ⟨b, o, none⟩ ∧ 0 < n ∧ n ≤ 1000000 ∧ b < w.heap.size ∧ w.cell? ⟨b, o + (n - 1) * 2, none⟩ = some (.int .i64 num)) :
 Calls prog 10 #[.agg #[v0, .slice Ar n cr, v2, v3, v4, v5, v6, v7, v8, v9, v10, v11, v12, v13, v14]] w fun e w' => e = .returned (.int .i64 num) ∧ Below w.heap.size w w' := by
 have hb := Zhd ((Yac w.heap.size w).alloc (Yaf _) (.cells #[v0, .slice Ar n cr, v2, v3, v4, v5, v6, v7, v8, v9, v10, v11, v12, v13, v14] 31));rcases h with ⟨rfl, rfl⟩ | ⟨b, o, rfl, h0, h1, hbl, hc⟩
 · go_enter func10, ntmps10;go_wp2;go_ret;exact ⟨rfl, hb.out⟩
 · obtain ⟨m, rfl⟩ : ∃ m, n = m + 1 := ⟨n - 1, by omega⟩
   have hc : w.cell? ⟨b, o + m * 2, none⟩ = some (.int .i64 num) := hc;have hm63 : (m : Int) + 1 ≤ 9223372036854775807 := by omega
   have hm0 : (0 : Int) ≤ (m : Int) := by omega
   have hne1 : (((m : Int) + 1) == 0) = false := by rw [Yak]; omega
   have hlt : (m : Int) < (m : Int) + 1 := by omega
   have hwr : IntKind.i64.wrap (m : Int) = m := IntWalk.i64_in _ (by omega)
   clear h0 h1;go_enter func10, ntmps10;go_wp2;go_ret;exact ⟨rfl, hb.out⟩
end Go.Proofs.Zq
