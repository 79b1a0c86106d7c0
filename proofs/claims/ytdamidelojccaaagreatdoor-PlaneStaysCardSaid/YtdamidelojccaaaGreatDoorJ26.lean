import Derived.Test.YtdamidelojccaaaGreatDoorJ25
set_option linter.unusedVariables false
set_option linter.unusedSimpArgs false
set_option maxHeartbeats 2000000
set_option maxRecDepth 100000
namespace Edt
open Go Go.Lib Tre Lns
def decI (b m t : Int) : Int := if m = t ∨ t = b then m else if m = b then t else -2
def decB (B M T : List Line) (P : List ByteArray) : Int := decI (stB B P) (stB M P) (stB T P)
def conB (B M T : List Line) (P : List ByteArray) : Bool :=
 decide (decB B M T P = -2) || (decide (decB B M T P ≠ -1) && decide (1 < P.length) && decide (decB B M T P.dropLast = -1))
theorem Zatl {L : List Line} {P : List ByteArray} {k : Nat} (hk : k < L.length) (h : Zar L P = some k) : stB L P = L[k].mark := by
 unfold stB; rw [h]; simp only; rw [Zdf hk]
theorem Zaxt {L : List Line} {P : List ByteArray} (h : Zar L P = none) : stB L P = -1 := by unfold stB; rw [h]
theorem Zate {b m t : Int} (h : m = t) : decI b m t = m := by unfold decI; rw [Yan (.inl h)]
theorem Zawa {b m t : Int} (h : t = b) : decI b m t = m := by unfold decI; rw [Yan (.inr h)]
theorem Zaks {b m t : Int} (h1 : m ≠ t) (h2 : t ≠ b) (h : m = b) : decI b m t = t := by unfold decI; rw [Yab (fun e => e.elim h1 h2), Yan h]
theorem Zari {b m t : Int} (h1 : m ≠ t) (h2 : t ≠ b) (h : m ≠ b) : decI b m t = -2 := by unfold decI; rw [Yab (fun e => e.elim h1 h2), Yab h]
end Edt
namespace Go.Proofs.Zq
open Tryz
open Go Go.RowKit Go.Sort Tre Lx Prs Lns Edt
def Pr (w : World) (v : Value) (P : List ByteArray) : Prop := ∃ A c, v = .slice A P.length c ∧ P.length ≤ c ∧ c ≤ maxLen ∧ Rd w 1 A P.length (sv P)
theorem Pr.below {w w' : World} {v : Value} {P : List ByteArray} (h : Pr w v P) (hb : Below w.heap.size w w') : Pr w' v P := by
 obtain ⟨A, c, h1, h2, h3, h4⟩ := h;exact ⟨A, c, h1, h2, h3, h4.below hb⟩
theorem Pr.own {w : World} {base : Nat} {v : Value} {P : List ByteArray} (h : w.ownsRow base 9 1 v P.length (sv P)) : Pr w v P := by
 obtain ⟨A, c, h1, h2, h3, h4⟩ := Zbc h;exact ⟨A, c, h1, h2, h3, h4⟩
theorem Zqh (v p : Value) (L : List Line) (P : List ByteArray) (w : World) (hL : Lr w v L) (hr : Zab L = true) (hP : Pr w p P) :
 Calls prog 71 #[v, p] w fun e w' => e = .returned (.int .i64 (stB L P)) ∧ Below w.heap.size w w' := by
 obtain ⟨A, cap, rfl, hcap, hc, hR, hnil⟩ := hL;obtain ⟨Ap, cp, rfl, hcp, hc2, hPr⟩ := hP;have HF := Zhd (Zbr A cap L Ap cp P w hR hcap hc hr hPr hcp hc2);cases hf : Zar L P with
 | none =>
   rw [hf] at HF;rw [Zaxt hf];clear hR hPr hf;go_enter func71, ntmps71;go_wp2_with fail;refine HF.out.mono ?_;rintro e w2 ⟨rfl, hb2⟩;go_wp2;go_ret;exact ⟨rfl, hb2⟩
 | some k =>
   rw [hf, show Zou (some k) = (k : Int) from rfl] at HF;have hk := Zcd hf;have h200 := Zas hr;rw [Zatl hk hf];obtain ⟨B, O, rfl, hab, hadd, -, -, y2⟩ := hR.line hk;have HY : Hid (∀ W, Below w.heap.size w W → W.cell? ⟨B, O + k * 3 + 2, none⟩ = some (.int .i64 L[k].mark)) := fun W hbw => (hbw.cell (p := ⟨B, O + k * 3 + 2, none⟩) hab).trans y2
   have hk1 : (k : Int) < (L.length : Int) := by omega
   generalize L[k].mark = m at *;clear hR hPr hf y2;go_enter func71, ntmps71;go_wp2_with fail;refine HF.out.mono ?_;rintro e w2 ⟨rfl, hb2⟩;have y2 := HY.out w2 hb2;go_wp2;go_ret;exact ⟨rfl, hb2⟩
theorem Zlt (v1 v2 v3 p : Value) (B M T : List Line) (P : List ByteArray) (w : World) (h1 : Lr w v1 B) (h2 : Lr w v2 M) (h3 : Lr w v3 T) (hr1 : Zab B = true) (hr2 : Zab M = true) (hr3 : Zab T = true) (hP : Pr w p P) :
 Calls prog 38 #[.agg #[v1, v2, v3], p] w fun e w' => e = .returned (.int .i64 (decB B M T P)) ∧ Below w.heap.size w w' := by
 obtain ⟨wa, hwa⟩ : ∃ wa, w.alloc (.cells #[v1, v2, v3] 89) = wa := ⟨_, rfl⟩;have hba : Below w.heap.size w wa := by rw [← hwa]; exact (Yac w.heap.size w).alloc (Yaf _) _
 have hsz : w.heap.size < wa.heap.size := by rw [← hwa]; simp
 have hcell : ∀ j, wa.cell? ⟨w.heap.size, j, none⟩ = (#[v1, v2, v3] : Array Value)[j]? := fun j => by rw [← hwa]; exact World.cell?_alloc_at _ _ _ _ rfl
 have HK : Hid (∀ W, Below wa.heap.size wa W → W.cell? ⟨w.heap.size, 0, none⟩ = some v1 ∧ W.cell? ⟨w.heap.size, 1, none⟩ = some v2 ∧ W.cell? ⟨w.heap.size, 2, none⟩ = some v3) := fun W hb =>
  ⟨(hb.cell (p := ⟨w.heap.size, 0, none⟩) hsz).trans (hcell 0), (hb.cell (p := ⟨w.heap.size, 1, none⟩) hsz).trans (hcell 1), (hb.cell (p := ⟨w.heap.size, 2, none⟩) hsz).trans (hcell 2)⟩
 have HBe : Hid (∀ W, Below wa.heap.size wa W → Below w.heap.size w W) := fun W hb => Zaa hba hb
 have HB := Zhd (fun (W : World) (hb : Below wa.heap.size wa W) => Zqh v1 p B P W (h1.below (Zaa hba hb)) hr1 (hP.below (Zaa hba hb)))
 have HM := Zhd (fun (W : World) (hb : Below wa.heap.size wa W) => Zqh v2 p M P W (h2.below (Zaa hba hb)) hr2 (hP.below (Zaa hba hb)))
 have HT := Zhd (fun (W : World) (hb : Below wa.heap.size wa W) => Zqh v3 p T P W (h3.below (Zaa hba hb)) hr3 (hP.below (Zaa hba hb)))
 unfold decB;generalize stB B P = b at *;generalize stB M P = m at *;generalize stB T P = t at *;have HA := Zhd (Yac wa.heap.size wa).drew;have mixed : prog.follows .mixedOrders = true := by kernel_rfl
 clear h1 h2 h3 hr1 hr2 hr3 hP hcell hsz hba
 have key : ∀ (x : Int) (q1 q2 q3 : Bool), Hid ((m == t) = q1) → Hid ((t == b) = q2) → Hid ((m == b) = q3) → Hid (q1 = true ∧ x = m ∨ q1 = false ∧ q2 = true ∧ x = m ∨ q1 = false ∧ q2 = false ∧ q3 = true ∧ x = t ∨ q1 = false ∧ q2 = false ∧ q3 = false ∧ x = -2) → Calls prog 38 #[.agg #[v1, v2, v3], p] w fun e w' => e = .returned (.int .i64 x) ∧ Below w.heap.size w w' := by
  intro x q1 q2 q3 e1 e2 e3 hq;rcases hq.out with ⟨rfl, rfl⟩ | ⟨rfl, rfl, rfl⟩ | ⟨rfl, rfl, rfl, rfl⟩ | ⟨rfl, rfl, rfl, rfl⟩
  all_goals
   have f1 := e1.out;have f2 := e2.out;have f3 := e3.out;clear e1 e2 e3 hq;go_enter func38, ntmps38;go_wp2_with fail;go_region_held3 (fun W => W.cell? ⟨w.heap.size, 0, none⟩ = some v1 ∧ W.cell? ⟨w.heap.size, 1, none⟩ = some v2 ∧ W.cell? ⟨w.heap.size, 2, none⟩ = some v3) (first | exact HK.out _ HB4.out | exact HK.out _ HB3.out | exact HK.out _ HB2.out | exact HK.out _ HA.out) (first | (go_at_call_of 71 v1; refine (HB.out _ HA.out).mono ?_; rintro e w2 ⟨rfl, hb2⟩; have HB2 := Zhd (Zaa HA.out hb2); clear hb2) | (go_at_call_of 71 v2; refine (HM.out _ HB2.out).mono ?_; rintro e w3 ⟨rfl, hb3⟩; have HB3 := Zhd (Zaa HB2.out hb3); clear hb3) | (go_at_call_of 71 v3; refine (HT.out _ HB3.out).mono ?_; rintro e w4 ⟨rfl, hb4⟩; have HB4 := Zhd (Zaa HB3.out hb4); clear hb4))
   all_goals
    have HB5 := Zhd (HBe.out _ HB4.out);clear HB HM HT HK HBe HA HB2 HB3 HB4;go_wp2;go_ret;exact ⟨rfl, HB5.out⟩
 by_cases e1 : m = t
 · rw [Zate e1];exact key _ _ _ _ rfl rfl rfl (.inl ⟨by rw [beq_iff_eq]; exact e1, rfl⟩)
 · have n1 : (m == t) = false := by rw [Yak]; exact e1
   by_cases e2 : t = b
   · rw [Zawa e2];exact key _ _ _ _ rfl rfl rfl (.inr (.inl ⟨n1, by rw [beq_iff_eq]; exact e2, rfl⟩))
   · have n2 : (t == b) = false := by rw [Yak]; exact e2
     by_cases e3 : m = b
     · rw [Zaks e1 e2 e3];exact key _ _ _ _ rfl rfl rfl (.inr (.inr (.inl ⟨n1, n2, by rw [beq_iff_eq]; exact e3, rfl⟩)))
     · rw [Zari e1 e2 e3];exact key _ _ _ _ rfl rfl rfl (.inr (.inr (.inr ⟨n1, n2, by rw [Yak]; exact e3, rfl⟩)))
theorem Zuf (v1 v2 v3 p : Value) (B M T : List Line) (P : List ByteArray) (w : World) (h1 : Lr w v1 B) (h2 : Lr w v2 M) (h3 : Lr w v3 T) (hr1 : Zab B = true) (hr2 : Zab M = true) (hr3 : Zab T = true) (hP : Pr w p P) (hPl : P.length ≤ 1000000) :
 Calls prog 37 #[.agg #[v1, v2, v3], p] w fun e w' => e = .returned (.bool (conB B M T P)) ∧ Below w.heap.size w w' := by
 have HD := Zhd (fun (W : World) (hb : Below w.heap.size w W) => Zlt v1 v2 v3 p B M T P W (h1.below hb) (h2.below hb) (h3.below hb) hr1 hr2 hr3 (hP.below hb))
 obtain ⟨Ap, cp, rfl, hcp, hc2, hR⟩ := hP
 have HDd : Hid (∀ W, 1 < P.length → Below w.heap.size w W → Calls prog 38 #[.agg #[v1, v2, v3], .slice Ap (P.length - 1) cp] W fun e w' => e = .returned (.int .i64 (decB B M T P.dropLast)) ∧ Below W.heap.size W w') := fun W hl hb => by
  have hd : P.dropLast.length = P.length - 1 := Ycn;have ht : P.dropLast = P.take (P.length - 1) := Ydk;refine Zlt v1 v2 v3 _ B M T P.dropLast W (h1.below hb) (h2.below hb) (h3.below hb) hr1 hr2 hr3 ⟨Ap, cp, by rw [hd], by omega, hc2, ?_⟩
  rw [hd, ht];exact Zfs (hR.below hb) (by omega)
 obtain ⟨wa, hwa⟩ : ∃ wa, w.alloc (.cells #[v1, v2, v3] 89) = wa := ⟨_, rfl⟩;have hba : Below w.heap.size w wa := by rw [← hwa]; exact (Yac w.heap.size w).alloc (Yaf _) _
 have HA := Zhd hba;have hsz : w.heap.size < wa.heap.size := by rw [← hwa]; simp
 have hcell : ∀ j, wa.cell? ⟨w.heap.size, j, none⟩ = (#[v1, v2, v3] : Array Value)[j]? := fun j => by rw [← hwa]; exact World.cell?_alloc_at _ _ _ _ rfl
 have HK : Hid (∀ W, Below wa.heap.size wa W → W.cell? ⟨w.heap.size, 0, none⟩ = some v1 ∧ W.cell? ⟨w.heap.size, 1, none⟩ = some v2 ∧ W.cell? ⟨w.heap.size, 2, none⟩ = some v3) := fun W hb =>
  ⟨(hb.cell (p := ⟨w.heap.size, 0, none⟩) hsz).trans (hcell 0), (hb.cell (p := ⟨w.heap.size, 1, none⟩) hsz).trans (hcell 1), (hb.cell (p := ⟨w.heap.size, 2, none⟩) hsz).trans (hcell 2)⟩
 have mixed : prog.follows .mixedOrders = true := by kernel_rfl
 have c0 := hcell 0;have c1 := hcell 1;have c2 := hcell 2;unfold conB;generalize decB B M T P = d at *;generalize decB B M T P.dropLast = d2 at *
 have hns : 1 < P.length → ∃ b o, Ap = some ⟨b, o, none⟩ := fun hl => by
  obtain ⟨b, o, e, -, -, -⟩ := hR.strAt (i := 0) (by omega)
  exact ⟨b, o, e⟩
 clear h1 h2 h3 hr1 hr2 hr3 hR hcell hsz hba;unfold maxLen at hc2;by_cases e1 : d = -2
 · subst e1;have q1 : ((-2 : Int) == -2) = true := rfl;go_enter func37, ntmps37;go_wp2_with fail;refine (HD.out _ HA.out).mono ?_;rintro e w2 ⟨rfl, hb2⟩;have HB2 := Zhd (Zaa HA.out hb2);clear hb2;go_wp2;go_ret;exact ⟨rfl, HB2.out⟩
 · have q1 : (d == -2) = false := by rw [Yak]; exact e1
   rw [Yae e1, Bool.false_or];by_cases e2 : d = -1
   · subst e2;have q2 : ((-1 : Int) != -1) = false := rfl;go_enter func37, ntmps37;go_wp2_with fail;refine (HD.out _ HA.out).mono ?_;rintro e w2 ⟨rfl, hb2⟩;have HB2 := Zhd (Zaa HA.out hb2);clear hb2;go_wp2_with fail;go_quiet (fail);go_wp2;go_ret;exact ⟨rfl, Zam HB2.out _⟩
   · have q2 : (d != -1) = true := by rw [bne_iff_ne]; exact e2
     rw [Yal e2, Ydr];by_cases hl : 1 < P.length
     · obtain ⟨b, o, rfl⟩ := hns hl;obtain ⟨m, hm⟩ : ∃ m, P.length = m + 1 := ⟨P.length - 1, by omega⟩
       have hl1 : (1 : Int) < (m : Int) + 1 := by omega
       have hs2 : (0 : Int) ≤ (m : Int) := by omega
       have hs3 : (m : Int) ≤ (cp : Int) := by omega
       have hm63 : (m : Int) + 1 ≤ 9223372036854775807 := by omega
       have hdm : P.length - 1 = m := by omega
       rw [Yal hl, Ydr, hm];rw [hm] at HD;rw [hdm] at HDd;have HDd2 : Hid (∀ W, Below w.heap.size w W → Calls prog 38 #[.agg #[v1, v2, v3], .slice (some ⟨b, o, none⟩) m cp] W fun e w' => e = .returned (.int .i64 d2) ∧ Below W.heap.size W w') := fun W hb => HDd.out W hl hb
       have hwm : IntKind.i64.wrap ((m : Int) + 1 - 1) = m := by rw [IntKind.wrap_i64]; omega
       have hwm2 : IntKind.i64.wrap (m : Int) = m := by rw [IntKind.wrap_i64]; omega
       have hmm : (m : Int) + 1 - 1 = m := by omega
       clear hdm hm HDd hl hcp;go_enter func37, ntmps37;go_wp2_with fail;refine (HD.out _ HA.out).mono ?_;rintro e w2 ⟨rfl, hb2⟩;have HB2 := Zhd (Zaa HA.out hb2).drew;have HBa := Zhd hb2.drew;have HD2 := Zhd (HDd2.out w2.drew HB2.out);clear hb2;go_wp2_with fail;go_region_held3 (fun W => W.cell? ⟨w.heap.size, 0, none⟩ = some v1 ∧ W.cell? ⟨w.heap.size, 1, none⟩ = some v2 ∧ W.cell? ⟨w.heap.size, 2, none⟩ = some v3) (first | exact HK.out _ HBc.out | exact HK.out _ HBa.out) (first | (go_at_call 38; refine HD2.out.mono ?_; rintro e w3 ⟨rfl, hb3⟩; have HBc := Zhd (Zaa HBa.out hb3); have HB3 := Zhd (Zaa HB2.out hb3); clear hb3))
       all_goals
        go_wp2;go_ret;exact ⟨rfl, HB3.out⟩
     · rw [Yae hl, Bool.false_and];have hl01 : P.length = 0 ∨ P.length = 1 := by omega
       clear HDd;rcases hl01 with hl1 | hl1
       all_goals
        rw [hl1];rw [hl1] at HD;go_enter func37, ntmps37;go_wp2_with fail;refine (HD.out _ HA.out).mono ?_;rintro e w2 ⟨rfl, hb2⟩;have HB2 := Zhd (Zaa HA.out hb2);clear hb2;go_wp2_with fail;go_quiet (fail);go_wp2;go_ret;exact ⟨rfl, Zam HB2.out _⟩
theorem Zjg {base g n cap : Nat} {e : TypeId} : ∀ (vs xs pre post : List Value) (w : World), xs.length = vs.length → w.ownsRow base e 1 (.slice (some ⟨g, 0, none⟩) n cap) n (pre ++ xs ++ post) → (w.setCells g pre.length vs).ownsRow base e 1 (.slice (some ⟨g, 0, none⟩) n cap) n (pre ++ vs ++ post)
 | [], [], _, _, _, _, h => h
 | v :: r, x :: s, pre, post, w, hl, h => by
   have h1 := (h.stored pre.length v).1;rw [show (pre ++ x :: s ++ post).set pre.length v = (pre ++ [v]) ++ s ++ post by simp [List.set_append]] at h1
   have h2 := Zjg r s (pre ++ [v]) post _ (by simpa using hl) h1
   rw [Yaj, Yby] at h2;rw [World.setCells];simpa using h2
theorem Zhj {base k n : Nat} {e : TypeId} {v : Value} {xs : List Value} {w : World} (h : w.ownsRow base e k v n xs) (q : Nat) : (w.drewN q).ownsRow base e k v n xs :=
 Zah h (Zam (Yac _ _) q)
theorem Zxa {w w1 : World} {v : Value} {l : List ByteArray} (hown : w1.ownsRow w.heap.size 9 1 v l.length (sv l)) (hb : Below w.heap.size w w1) (hl : l.length ≤ 100000) :
 Calls prog 64 #[v] w1 fun e w' => e = .returned (.tuple #[]) ∧ w'.ownsRow w.heap.size 9 1 v l.length (sv l.reverse) ∧ Below w.heap.size w w' := by
 rcases hown.2 with ⟨rfl, h0⟩ | ⟨g, c, cur, rfl, hg, hh, hnc, hcm, hsz, ht⟩
 · obtain rfl : l = [] := Ycw.1 h0;refine (Tryz.slices_Reverse_string_empty none 0 w1).mono ?_;rintro e w' ⟨rfl, rfl⟩;exact ⟨rfl, World.ownsRow_nil _ _ _ _, hb⟩
 · refine (Tryz.slices_Reverse_string_cells g 0 l.length c (fun i => l.getD i ByteArray.empty) w1 (by omega) (fun i hi => ?_) (fun j hj => hown.frozenAt _)).mono ?_
   · rw [Ybf, hown.cellAt i (by omega), Zja hi]; simp [hi]
   · rintro e w' ⟨rfl, q, rfl⟩;rw [Zqx];have hb2 : Below w.heap.size w ((w1.drewN q).setCells g 0 (sv l.reverse)) := Zip g hg _ _ (below_drewN hb q);have h1 := Zjg (sv l.reverse) (sv l) [] [] (w1.drewN q) (by rw [Zid, Zid, Ydp]) (by simpa using Zhj hown q)
     exact ⟨rfl, by simpa using h1, hb2⟩
def Zob (w : World) (P : List ByteArray) (e : Ending) (w' : World) : Prop :=
 ∃ v, e = .returned (.tuple #[v, .int .i64 0]) ∧ w'.ownsRow w.heap.size 9 1 v P.length (sv P) ∧ Below w.heap.size w w'
theorem Zpr (A : Option Addr) (cap : Nat) (L : List Line) (n : Nat) (w : World) (hR : Rd w 3 A L.length (lines L)) (hcap : L.length ≤ cap) (hc : cap ≤ maxLen) (hr : Zab L = true) (hn : n < L.length) :
 Calls prog 33 #[.slice A L.length cap, .int .i64 n] w (Zob w (Zek L n)) := by
 obtain ⟨i0, hi, hz0, hz1, hz2⟩ := info_parts Zdx;have HC := Zhd (Zgm A cap L n w hR hcap hc)
 have HU : Hid (∀ (k : Nat) W, Below w.heap.size w W → k < L.length → Calls prog 63 #[.slice A L.length cap, .int .i64 k] W fun e w' => e = .returned (.int .i64 (Zdl L k)) ∧ Below W.heap.size W w') := fun k W hb hk => by
  have := Zpz A cap L k W (hR.below hb) hcap hc;rw [Zfc hr hk] at this; simpa using this
 have hth := Zfc hr hn;have h200 := Zas hr;have HR := Zhd hR;unfold maxLen at hc;clear hR hr;go_enter func33, ntmps33;go_wp2_with fail;refine HC.out.mono ?_;rintro e w1 ⟨rfl, hb1⟩;clear HC;rw [hth];go_wp2;go_loopw [6, 7] (fun v vk wr => ∃ (k : Nat) (z : Int) (O : List ByteArray), vk = .int .i64 z ∧ z + 1 = (k : Int) ∧ k ≤ n + 1 ∧ Hid (O ++ ups L k = ups L (n + 1)) ∧ O.length + k ≤ n + 1 ∧ wr.ownsRow w.heap.size 9 1 v O.length (sv O) ∧ Below w.heap.size w wr) (fun _ vk _ => (intOf vk + 1).toNat)
 case atStart => exact ⟨n + 1, n, [], rfl, by omega, by omega, rfl, by simp, World.ownsRow_nil _ _ _ _, hb1⟩
 case round =>
  clear hb1;obtain ⟨k, z, O, rfl, hzk, hk, HQ, hO, hown, hb⟩ := hrel;by_cases hk0 : k = 0
  · have hz : z = -1 := by omega
    subst hz
    have HF : Hid (O = ups L (n + 1)) := by
     show _ = _;rw [← HQ.out, hk0, Zpi, Ybg]
    obtain ⟨Av, cv, rfl, -, -, -⟩ := Zbc hown;have HV := Zhd (Zxa hown hb (by omega))
    have HL : Hid (O.reverse = Zek L n) := by show _ = _; rw [HF.out]; rfl
    clear HQ hzk HU HR HF;go_wp2_with fail;refine HV.out.mono ?_;rintro e w3 ⟨rfl, hRd, hb3⟩
    have K : Hid (Zob w (Zek L n) (.returned (.tuple #[.slice Av O.length cv, .int .i64 0])) w3) := by
     rw [← HL.out];exact ⟨.slice Av O.length cv, rfl, by rw [Ydp]; exact hRd, hb3⟩
    clear HV hown hb hRd hb3 HL;go_wp2;exact bodyPost_ret (v := .tuple #[.slice Av O.length cv, .int .i64 0]) (by simp [results, results33, go_sem]) rfl K.out
  · obtain ⟨p, rfl⟩ : ∃ p, k = p + 1 := ⟨k - 1, by omega⟩
    obtain rfl : z = (p : Int) := by omega
    have hpl : p < L.length := by omega
    obtain ⟨B, Of, rfl, hab, hadd, -, x1, -⟩ := (HR.out.below hb).line hpl
    have hst : Hid (ups L (p + 1) = L[p].word :: ups L (Zdl L p + 1).toNat) := by
     show _ = _;rw [Zld, Zbi hpl]
    have hul := Zhi L p;have HUp := Zhd (fun W hb => HU.out p W hb hpl)
    generalize L[p].word = x at *;generalize Zdl L p = u at *
    have HQ2 : Hid ((O ++ [x]) ++ ups L (u + 1).toNat = ups L (n + 1)) := by
     show _ = _;rw [Ybl, ← HQ.out, hst.out]; rfl
    clear HQ hst HU;go_wp2_with (at_builtin; refine Zfn rfl _ _ 33 rfl w wr 9 i0 _ 1 16 underlying33 hi hz0 hz1 hz2 rfl (by decide) (by decide) hown hb rfl 1 1 [.string x] rfl rfl (by simp; rfl) (by omega) ?_; intro v' w' hown' hb')
    refine (HUp.out _ hb').mono ?_;rintro e w3 ⟨rfl, hb3⟩;have hown3 := Zah (Zfg hown') hb3;have hb4 := Zaa hb' hb3;clear hown hb hown' hb' hb3 HUp x1 hadd hab;go_wp2_with fail;go_roundw
    case rel => exact ⟨(u + 1).toNat, u, O ++ [x], rfl, by omega, by omega, HQ2, by simp; omega, hown3, hb4⟩
    case measure => simp [intOf]; omega
end Go.Proofs.Zq
namespace Edt
open Go Go.Lib Tre Sch Lns
def Zib (st : List ByteArray → Int) (q : List ByteArray) : Line := ⟨((q.length - 1 : Nat) : Int), q.getLastD ⟨#[]⟩, st q⟩
def ofS (S : List (List ByteArray)) (st : List ByteArray → Int) : List Line := S.map (Zib st)
def okP (q : List ByteArray) : Prop := q ≠ [] ∧ q.length ≤ 16 ∧ (q.getLastD ⟨#[]⟩).size ≤ 40
theorem Zls (S : List (List ByteArray)) (st : List ByteArray → Int) : (ofS S st).length = S.length := by unfold ofS; rw [Yax]
theorem Zacn {st : List ByteArray → Int} : ∀ {S : List (List ByteArray)}, (∀ q ∈ S, okP q ∧ 0 ≤ st q ∧ st q ≤ 3) → Zfq S (ofS S st)
 | [], _ => trivial
 | q :: S, h => by
   obtain ⟨⟨h1, h2, h3⟩, h4, h5⟩ := h q (Yci ..);refine ⟨⟨?_, rfl, rfl⟩, Zacn fun x hx => h x (Ycg _ hx)⟩
   have h6 : 0 < q.length := Ycx.2 h1;unfold Zbv Zib;simp only;rw [Yal (by omega), Yal (by omega), Yal h3, Yal h4, Yal h5]; rfl
theorem Zrx {S : List (List ByteArray)} {st : List ByteArray → Int} (hs : Zws S) (hl : S.length ≤ 200) (h : ∀ q ∈ S, okP q ∧ 0 ≤ st q ∧ st q ≤ 3) :
 Zab (ofS S st) = true ∧ Zaf (ofS S st) = S ∧ (∀ q, q ∈ S → stB (ofS S st) q = st q) ∧ ∀ q, ¬ q ∈ S → stB (ofS S st) q = -1 := by
 obtain ⟨h1, h2, h3⟩ := Zarn (Zacn h) hs (by rw [Zls]; exact hl)
 refine ⟨h1, h2, fun q hq => ?_, fun q hq => ?_⟩
 · obtain ⟨k, hk, rfl⟩ := Ybo hq;obtain ⟨hk', e⟩ := h3 k (by rw [Zls]; exact hk)
   rw [e];unfold ofS;rw [Ydj]; rfl
 · exact Zer h1 (by rw [h2]; exact hq)
theorem Zkj {L : List Line} (hr : Zab L = true) {q : List ByteArray} (h : q ∈ Zaf L) : okP q := by
 obtain ⟨k, l, h1, h2, hk, -⟩ := Zwn hr h;have e : pa L k = q := by
  rw [Zfh hk];rw [Yag (by rw [Zag]; exact hk)] at h1
  injection h1
 have hd := (Zad hr).2.1;have h3 := Zbw hd hk;have h4 := Zcf hd hk;have h5 := Zgg hr hk;have h6 := (Zod (Zee hd k hk).1).2.2;rw [Zbi hk] at h5;rw [e] at h3 h5;exact ⟨fun e2 => by rw [e2] at h3; simp at h3, by omega, by rw [h5]; exact h6⟩
theorem Zrb {S : List (List ByteArray)} (hs : Zws S) {f : List ByteArray → Bool} (hf : ∀ q ∈ S, f q = true → q.dropLast = [] ∨ f q.dropLast = true) : Zws (S.filter f) := by
 refine ⟨hs.1.filter _, fun q hq => ?_⟩
 obtain ⟨h1, h2⟩ := Yde.1 hq;obtain ⟨h3, h4⟩ := hs.2 q h1;refine ⟨h3, ?_⟩;rcases hf q h1 h2 with h5 | h5
 · exact .inr h5
 · rcases h4 with h4 | h4
   · exact .inl (Yde.2 ⟨h4, h5⟩)
   · exact .inr h4
end Edt
namespace Go.Proofs
open Go.Shelf
def Tryz.lays109_ren : Go.Shelf.Ren := ⟨fun | 109 => 107 | n => n, fun | 31 => 33 | 9 => 9 | 3 => 3 | 0 => 0 | 4 => 4 | n => n, fun | n => n⟩
theorem Tryz.lays109 : Go.Proofs.Lays.n109 prog Tryz.lays109_ren := {
 mixed := by kernel_rfl
 f109 := func107.trans (congrArg some (by kernel_rfl))
 t0 := underlying0
 a0 := Tryz.isAgg0
 z0 := Tryz.sizeOf0
 v0 := Tryz.zeroValue0
 t3 := underlying3
 a3 := Tryz.isAgg3
 z3 := Tryz.sizeOf3
 v3 := Tryz.zeroValue3
 t4 := underlying4
 a4 := Tryz.isAgg4
 z4 := Tryz.sizeOf4
 v4 := Tryz.zeroValue4
 t9 := underlying9
 a9 := Tryz.isAgg9
 z9 := Tryz.sizeOf9
 v9 := Tryz.zeroValue9
 t31 := underlying33
 a31 := Tryz.isAgg33
 z31 := Tryz.sizeOf33
 v31 := Tryz.zeroValue33 }
open Go.Lib in
theorem Tryz.slices_Index_string (b off n c : Nat) (zs : List ByteArray) (x : ByteArray) (w : World) (hz : n ≤ zs.length) (hbig : n ≤ 9223372036854775807) (hc : ∀ j, j < zs.length → w.cell? ⟨b, off + j, none⟩ = some (.string (zs.getD j ByteArray.empty))) :
 Calls prog 107 #[.slice (some ⟨b, off, none⟩) n c, .string x] w fun e w' => e = .returned (.int .i64 (Lib.idxOfS (zs.take n) x)) ∧ w' = w := Any.slices_Index_string Tryz.lays109 b off n c zs x w hz hbig hc
open Go.Lib in
theorem Tryz.slices_Index_string_empty (a : Option Addr) (c : Nat) (x : ByteArray) (w : World) :
 Calls prog 107 #[.slice a 0 c, .string x] w fun e w' => e = .returned (.int .i64 (Lib.idxOfS [] x)) ∧ w' = w := Any.slices_Index_string_empty Tryz.lays109 a c x w
def Tryz.lays193_ren : Go.Shelf.Ren := ⟨fun | 193 => 70 | n => n, fun | 31 => 33 | 9 => 9 | 4 => 4 | 3 => 3 | 0 => 0 | n => n, fun | n => n⟩
theorem Tryz.lays193 : Go.Proofs.Lays.n193 prog Tryz.lays193_ren := {
 mixed := by kernel_rfl
 f193 := func70.trans (congrArg some (by kernel_rfl))
 t0 := underlying0
 a0 := Tryz.isAgg0
 z0 := Tryz.sizeOf0
 v0 := Tryz.zeroValue0
 t3 := underlying3
 a3 := Tryz.isAgg3
 z3 := Tryz.sizeOf3
 v3 := Tryz.zeroValue3
 t4 := underlying4
 a4 := Tryz.isAgg4
 z4 := Tryz.sizeOf4
 v4 := Tryz.zeroValue4
 t9 := underlying9
 a9 := Tryz.isAgg9
 z9 := Tryz.sizeOf9
 v9 := Tryz.zeroValue9
 t31 := underlying33
 a31 := Tryz.isAgg33
 z31 := Tryz.sizeOf33
 v31 := Tryz.zeroValue33 }
open Go.RowKit Go.Lib in
theorem Tryz.slices_Equal_string (b1 o1 n c b2 o2 m d : Nat) (xs ys : List ByteArray) (w : World) (hx : n ≤ xs.length) (hy : m ≤ ys.length) (hbig : n ≤ 9223372036854775807) (hbig2 : m ≤ 9223372036854775807) (hc1 : ∀ j, j < xs.length → w.cell? ⟨b1, o1 + j, none⟩ = some (.string (xs.getD j ByteArray.empty))) (hc2 : ∀ j, j < ys.length → w.cell? ⟨b2, o2 + j, none⟩ = some (.string (ys.getD j ByteArray.empty))) :
 Calls prog 70 #[.slice (some ⟨b1, o1, none⟩) n c, .slice (some ⟨b2, o2, none⟩) m d] w fun e w' => e = .returned (.bool (decide (xs.take n = ys.take m))) ∧ ∃ q, w' = w.drewN q := Any.slices_Equal_string Tryz.lays193 b1 o1 n c b2 o2 m d xs ys w hx hy hbig hbig2 hc1 hc2
open Go.RowKit Go.Lib in
theorem Tryz.slices_Equal_string_empty (a1 a2 : Option Addr) (c m d : Nat) (w : World) (hbig2 : m ≤ 9223372036854775807) :
 Calls prog 70 #[.slice a1 0 c, .slice a2 m d] w fun e w' => e = .returned (.bool (decide (m = 0))) ∧ w' = w := Any.slices_Equal_string_empty Tryz.lays193 a1 a2 c m d w hbig2
open Go.RowKit Go.Lib in
theorem Tryz.slices_Equal_string_lens (a1 a2 : Option Addr) (n c m d : Nat) (w : World) (hnm : n ≠ m) :
 Calls prog 70 #[.slice a1 n c, .slice a2 m d] w fun e w' => e = .returned (.bool false) ∧ w' = w := Any.slices_Equal_string_lens Tryz.lays193 a1 a2 n c m d w hnm
end Go.Proofs
namespace Edt
open Go Go.Lib Go.Sort Tre Prs Lns
def cmpS (a b : ByteArray) : Int := compareBytes a.data.toList b.data.toList
def cmpL : List ByteArray → List ByteArray → Int
 | [], [] => 0
 | [], _ :: _ => -1
 | _ :: _, [] => 1
 | x :: a, y :: b => if cmpS x y ≠ 0 then cmpS x y else cmpL a b
theorem Zako (x y : ByteArray) (a b : List ByteArray) : cmpL (x :: a) (y :: b) = if cmpS x y ≠ 0 then cmpS x y else cmpL a b := by rw [cmpL]
theorem Zaem (a b : ByteArray) : Op.bytesLess a.toList b.toList = decide (cmpS a b < 0) := by
 unfold cmpS;rw [Proofs.bytesLess_eq, Lib.toList_data, Lib.toList_data, decide_eq_decide];exact Zsm.symm
theorem Zaof (a b : ByteArray) : cmpS a b < 0 ↔ a.toList < b.toList := by
 unfold cmpS;rw [Lib.toList_data, Lib.toList_data];exact Zsm
theorem Zfj {a b : ByteArray} : cmpS a b = 0 ↔ a = b := by
 constructor
 · intro h;exact ByteArray.ext (Ydz.1 (Zoc h))
 · rintro rfl;exact Zahr _
theorem Zasa (a b : ByteArray) : cmpS a b = -1 ∨ cmpS a b = 0 ∨ cmpS a b = 1 := by
 unfold cmpS;generalize a.data.toList = x;generalize b.data.toList = y
 induction x generalizing y with
 | nil => cases y <;> simp [compareBytes]
 | cons c x ih =>
   cases y with
   | nil => simp [compareBytes]
   | cons d y =>
     unfold compareBytes;split
     · exact .inl rfl
     · split
       · exact .inr (.inr rfl)
       · exact ih y
theorem Zie : ∀ {a b : List ByteArray}, cmpL a b < 0 ↔ pLt a b
 | [], [] => ⟨fun h => by simp [cmpL] at h, fun h => absurd h (Zby _)⟩
 | [], y :: b => ⟨fun _ => Zaav _ _, fun _ => by simp [cmpL]⟩
 | x :: a, [] => ⟨fun h => by simp [cmpL] at h, fun h => absurd h (Zim _)⟩
 | x :: a, y :: b => by
   rw [Zeh, ← Zaof];unfold cmpL;by_cases h : cmpS x y = 0
   · rw [Yab (fun e => e h), Zie (a := a) (b := b), h]
     have e := Zfj.1 h;exact ⟨fun g => .inr ⟨e, g⟩, fun g => g.elim (fun g => by omega) (·.2)⟩
   · rw [Yan h];exact ⟨.inl, fun g => g.elim id fun g => absurd (Zfj.2 g.1) h⟩
theorem Zhu : ∀ {a b : List ByteArray}, cmpL a b = 0 ↔ a = b
 | [], [] => ⟨fun _ => rfl, fun _ => rfl⟩
 | [], y :: b => ⟨fun h => by simp [cmpL] at h, fun h => by cases h⟩
 | x :: a, [] => ⟨fun h => by simp [cmpL] at h, fun h => by cases h⟩
 | x :: a, y :: b => by
   unfold cmpL;by_cases h : cmpS x y = 0
   · rw [Yab (fun e => e h), Zhu (a := a) (b := b), Zfj.1 h]
     exact ⟨fun g => by rw [g], fun g => by injection g⟩
   · rw [Yan h];exact ⟨fun g => absurd g h, fun g => absurd (Zfj.2 (by injection g)) h⟩
theorem Zno : ∀ (a b : List ByteArray), cmpL a b < 0 ↔ 0 < cmpL b a
 | [], [] => by simp [cmpL]
 | [], y :: b => by simp [cmpL]
 | x :: a, [] => by simp [cmpL]
 | x :: a, y :: b => by
   have h1 : cmpS x y < 0 ↔ 0 < cmpS y x := Zqs _ _;have h2 : cmpS x y = 0 ↔ cmpS y x = 0 := by rw [Zfj, Zfj]; exact ⟨Eq.symm, Eq.symm⟩
   unfold cmpL;by_cases h : cmpS x y = 0
   · rw [Yab (fun e => e h), Yab (fun e => e (h2.1 h)), Zno a b]
   · rw [Yan h, Yan (fun e => h (h2.2 e)), h1]
theorem Zapf : Pre cmpL where
 same a := Zhu.2 rfl
 anti := Zno
 trans a b d h1 h2 := by
  rcases Yeb h1 with h3 | h3
  · rcases Yeb h2 with h4 | h4
    · have := Zie.2 (Zcb (Zie.1 h3) (Zie.1 h4)); omega
    · rw [← Zhu.1 h4]; exact h1
  · rw [Zhu.1 h3]; exact h2
end Edt
namespace Go.Proofs.Zq
open Tryz
open Go Go.RowKit Go.Sort Tre Lx Prs Lns Edt
theorem Zxe (s : ByteArray) (w : World) : Calls prog 147 #[.string s] w fun e w' => e = .returned (.bool false) ∧ w' = w := by
 go_enter func147, ntmps147;go_wp2;go_ret;exact ⟨by simp, rfl⟩
theorem Zaoy (s t : ByteArray) (w : World) : Calls prog 106 #[.string s, .string t] w fun e w' => e = .returned (.int .i64 (cmpS s t)) ∧ w' = w := by
 have H1 := Zhd (fun W => Zxe s W)
 have H2 := Zhd (fun W => Zxe t W)
 have h1 := Zaem s t;have h2 := Zaem t s;have h3 : cmpS s t < 0 ↔ 0 < cmpS t s := Zqs _ _;have h4 : cmpS t s < 0 ↔ 0 < cmpS s t := Zqs _ _;have hv := Zasa s t
 have key : ∀ (z : Int) (q1 q2 : Bool), Hid (q1 = true ∧ z = -1 ∨ q1 = false ∧ q2 = false ∧ z = 1 ∨ q1 = false ∧ q2 = true ∧ z = 0) → Op.bytesLess s.toList t.toList = q1 → (s.toList == t.toList) = q2 → Calls prog 106 #[.string s, .string t] w fun e w' => e = .returned (.int .i64 z) ∧ w' = w := by
  clear h1 h2 h3 h4 hv;intro z q1 q2 hq e1 e2;rcases hq.out with ⟨rfl, rfl⟩ | ⟨rfl, rfl, rfl⟩ | ⟨rfl, rfl, rfl⟩
  all_goals
   clear hq;go_enter func106, ntmps106;go_wp2_with fail;refine (H1.out w).mono ?_;rintro e w' ⟨rfl, rfl⟩;go_wp2_with fail;refine (H2.out w').mono ?_;rintro e w' ⟨rfl, rfl⟩;go_wp2;go_ret;exact ⟨rfl, rfl⟩
 rcases hv with hv | hv | hv
 · exact key _ _ _ (.inl ⟨rfl, hv⟩) (by rw [h1, hv]; rfl) rfl
 · exact key _ _ _ (.inr (.inr ⟨rfl, rfl, hv⟩)) (by rw [h1, hv]; rfl) (by rw [Zfj.1 hv]; exact beq_self_eq_true _)
 · exact key _ _ _ (.inr (.inl ⟨rfl, rfl, hv⟩)) (by rw [h1, hv]; rfl) (by
    rw [Yak];intro e;have := Zfj.2 (Zjj e);omega)
theorem Zaom (A A2 : Option Addr) (c c2 : Nat) (P P2 : List ByteArray) (w : World) (hR : Rd w 1 A P.length (sv P)) (hR2 : Rd w 1 A2 P2.length (sv P2)) (hl : P.length ≤ 1000000) (hl2 : P2.length ≤ 1000000) :
 Calls prog 67 #[.slice A P.length c, .slice A2 P2.length c2] w fun e w' => e = .returned (.int .i64 (cmpL P P2)) ∧ w' = w := by
 have HR := Zhd hR;have HR2 := Zhd hR2;have HC := Zhd (fun s t W => Zaoy s t W)
 clear hR hR2;go_enter func67, ntmps67;go_wp2;go_loopw [11] (fun vi wr => ∃ k : Nat, k ≤ P.length ∧ k ≤ P2.length ∧ vi = .int .i64 k ∧ Hid (cmpL P P2 = cmpL (P.drop k) (P2.drop k)) ∧ wr = w) (fun vi _ => P.length - (intOf vi).toNat)
 case atStart => exact ⟨0, Yav _, Yav _, rfl, rfl, rfl⟩
 case round =>
  obtain ⟨k, hk, hk2, rfl, HQ, rfl⟩ := hrel;by_cases hlt : k < P.length
  · obtain ⟨b, o, rfl, hab, hadd, x1⟩ := HR.out.strAt hlt;have hd : P.drop k = P[k] :: P.drop (k + 1) := Yay hlt;by_cases hlt2 : k < P2.length
    · obtain ⟨b2, o2, rfl, hab2, hadd2, x2⟩ := HR2.out.strAt hlt2;have hd2 : P2.drop k = P2[k] :: P2.drop (k + 1) := Yay hlt2;have hq := HQ.out;rw [hd, hd2, Zako] at hq;have hge : ¬ (P2.length : Int) ≤ (k : Int) := by omega
      clear HQ hd hd2;generalize P[k] = s at *;generalize P2[k] = t at *;have HC2 := Zhd (HC.out s t wr);by_cases hz : cmpS s t = 0
      · rw [Yab (fun e => e hz)] at hq
        rw [hz] at HC2;have HQ2 := Zhd hq;clear hq hz;go_wp2_with fail;refine HC2.out.mono ?_;rintro e w' ⟨rfl, rfl⟩;go_wp2;go_roundw
        case rel => exact ⟨k + 1, by omega, by omega, by go_num, HQ2, by first | trivial | rfl⟩
        case measure => simp [intOf]; omega
      · rw [Yan hz] at hq;have HQ2 := Zhd hq;have qz : (cmpS s t != 0) = true := by rw [bne_iff_ne]; exact hz
        clear hq hz;generalize cmpS s t = z at *;go_wp2_with fail;refine HC2.out.mono ?_;rintro e w' ⟨rfl, rfl⟩;go_wp2;go_ret;exact ⟨Zcg HQ2.out.symm, rfl⟩
    · have hq := HQ.out;rw [hd, show P2.drop k = [] from Ybd (by omega)] at hq
      have HQ2 : Hid (cmpL P P2 = 1) := hq;have hge : (P2.length : Int) ≤ (k : Int) := by omega
      clear HQ hd hq;go_wp2;go_ret;exact ⟨Zcg HQ2.out.symm, rfl⟩
  · have hke : k = P.length := by omega
    have hq := HQ.out;rw [show P.drop k = [] from Ybd (by omega)] at hq
    clear HQ;by_cases hlt2 : P.length < P2.length
    · have hI : (P.length : Int) < (P2.length : Int) := by omega
      have HQ2 : Hid (cmpL P P2 = -1) := by
       show _ = _;rw [hq, show P2.drop k = P2[k] :: P2.drop (k + 1) from Yay (by omega)]; rfl
      clear hq;go_wp2;go_ret;exact ⟨Zcg HQ2.out.symm, rfl⟩
    · have hI : ¬ (P.length : Int) < (P2.length : Int) := by omega
      have HQ2 : Hid (cmpL P P2 = 0) := by
       show _ = _;rw [hq, show P2.drop k = [] from Ybd (by omega)]; rfl
      clear hq;go_wp2;go_ret;exact ⟨Zcg HQ2.out.symm, rfl⟩
end Go.Proofs.Zq
