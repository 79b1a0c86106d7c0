import Derived.Deep.Onto
import Derived.Test.YtdamidelojccaaaGreatDoorJ23
set_option linter.unusedVariables false
set_option linter.unusedSimpArgs false
set_option maxHeartbeats 4000000
set_option maxRecDepth 100000
namespace Go.Proofs.Zq
open Tryz
open Go Go.RowKit Go.Sort Tre Sch Lns
def Zwq (L : List Line) (P : List ByteArray) (w : World) (e : Ending) (w' : World) : Prop :=
 Zix L P w e w' ∧ ((addB L P).2 = 0 → ∃ v, e = .returned (.tuple #[v, .int .i64 0]) ∧ w'.ownsRow w.heap.size 62 3 v (addB L P).1.length (lines (addB L P).1))
theorem Zauc (A : Option Addr) (cap : Nat) (L : List Line) (Ap : Option Addr) (cp : Nat) (P : List ByteArray) (w : World) (hR : Rd w 3 A L.length (lines L)) (hcap : L.length ≤ cap) (hc : cap ≤ maxLen) (hnil : A = none → cap = 0) (hr : Zab L = true) (hP : Rd w 1 Ap P.length (sv P)) (hcp : P.length ≤ cp) (hc2 : cp ≤ maxLen) (hs : Zei P = true) (h16 : P.length ≤ 16) :
 Calls prog 44 #[.slice A L.length cap, .slice Ap P.length cp] w (Zwq L P w) := by
 have HRi := Zbe A cap L w hR hcap hc;rw [hr] at HRi;have HRg := _root_.Zhd HRi
 have HSo : Hid (∀ W, Below w.heap.size w W → Calls prog 77 #[.slice Ap P.length cp] W fun e w' => e = .returned (.bool true) ∧ w' = W) := fun W hb => by
  have := Zkl Ap cp P W (hP.below hb) (by omega)
  rwa [hs] at this
 have hc63 : cp ≤ 9223372036854775807 := by unfold maxLen at hc2; omega
 have HL0 : Hid (Lr w (.slice A L.length cap) L) := ⟨A, cap, rfl, hcap, hc, hR, hnil⟩;have HP := _root_.Zhd hP;have h200 := Zas hr
 have HX : Hid (addB L P = match Zdn P P.length 0 L with | some M => (M, 0) | none => (L, 5)) := by
  show _ = _;unfold addB;rw [Yab (by rw [hr, hs]; simp), Yab (by omega)]
  cases Zdn P P.length 0 L <;> rfl
 have HRR := _root_.Zhd hr;have HSS := _root_.Zhd hs;clear HRi hR hP hr hs;go_enter func44, ntmps44;go_wp2_with fail;refine HRg.out.mono ?_;rintro e w1 ⟨rfl, hb1⟩;have HB1 := _root_.Zhd hb1;clear hb1 HRg;go_wp2_with fail;refine (HSo.out w1 HB1.out).mono ?_;rintro e w2 ⟨rfl, rfl⟩;clear HSo;go_wp2_with fail;go_loopw [6, 29] (fun v vi wr => ∃ (d : Nat) (M : List Line), d ≤ P.length ∧ vi = .int .i64 d ∧ Hid (Lr wr v M) ∧ Hid (Zab M = true) ∧ Hid (d = 0 ∨ P.take d ∈ Zaf M) ∧ Hid (Zdn P P.length 0 L = Zdn P (P.length - d) d M) ∧ Hid (Below w.heap.size w wr)) (fun _ vi _ => P.length - (intOf vi).toNat)
 case atStart => exact ⟨0, L, Yav _, rfl, HL0.out.below HB1.out, HRR.out, .inl rfl, rfl, HB1.out⟩
 case round =>
  obtain ⟨d, M, hd, rfl, HM, HMr, HU, HQ, HB⟩ := hrel;obtain ⟨Am, cm, rfl, hcm1, hcm2, hrdm, hnilm⟩ := HM.out;have HRm := _root_.Zhd hrdm;have HNm := _root_.Zhd hnilm;have hm200 := Zas HMr.out;clear hrdm hnilm;by_cases hlt : d < P.length
  · obtain ⟨B, O, rfl, hab, hadd, hx⟩ := (HP.out.below HB.out).strAt hlt;have hw40 := Zph HSS.out hlt;have hwa : P[d] = wAt P d := by unfold wAt; rw [Yap, Yag hlt]; rfl
    rw [hwa] at hx;obtain ⟨f, hf⟩ : ∃ f, P.length - d = f + 1 := ⟨P.length - d - 1, by omega⟩
    have hf2 : f = P.length - (d + 1) := by omega
    have hq := HQ.out;rw [hf] at hq
    have HFi := _root_.Zhd (fun W (hb : Below wr.heap.size wr W) => Zbr Am cm M (some ⟨B, O, none⟩) cp (P.take (d + 1)) W (HRm.out.below hb) hcm1 hcm2 HMr.out (by
     have := Zfs ((HP.out.below HB.out).below hb) (n := d + 1) (by omega)
     rw [Yad, Ybb (by omega)]; exact this) (by rw [Yad]; omega) hc2)
    have hl1 : (P.take (d + 1)).length = d + 1 := by rw [Yad]; omega
    rw [hl1] at HFi;have hdp : (d : Int) + 1 ≤ (P.length : Int) := by omega
    have hd0 : (0 : Int) ≤ (d : Int) + 1 := by omega
    have hdc : d + 1 ≤ cp := by omega
    have hdw : IntKind.i64.wrap ((d : Int) + 1) = (d : Int) + 1 := by rw [IntKind.wrap_i64]; omega
    have hdt : ((d : Int) + 1).toNat = d + 1 := by omega
    cases hfi : Zar M (P.take (d + 1)) with
    | some k =>
      have HQ2 : Hid (Zdn P P.length 0 L = Zdn P (P.length - (d + 1)) (d + 1) M) := by
       show _ = _;rw [hq, Zyl (by rw [hfi]; rfl), hf2]
      have HU2 : Hid (d + 1 = 0 ∨ P.take (d + 1) ∈ Zaf M) := .inr ((Zfu HMr.out).1 (by rw [hfi]; rfl))
      rw [hfi] at HFi;have HFr := _root_.Zhd (HFi.out wr (Yac _ _));clear HFi hq hfi HQ HU;go_wp2_with (go_at_call 34; refine HFr.out.mono ?_; rintro e w3 ⟨rfl, hb3⟩; have HB3 := _root_.Zhd (Zaa HB.out hb3); have HM3 := _root_.Zhd (HM.out.below hb3); clear hb3 hx);go_roundw
      case rel => exact ⟨d + 1, M, by omega, by go_num, HM3, HMr, HU2, HQ2, HB3⟩
      case measure => simp [intOf]; omega
    | none =>
      rw [hfi] at HFi;have HFr := _root_.Zhd (HFi.out wr (Yac _ _));by_cases hful : 200 ≤ M.length
      · have HQ2 : Hid (addB L P = (L, 5)) := by
         show _ = _;rw [HX.out, hq, Ztm (by rw [hfi]; rfl) hful]
        clear HFi hq hfi HQ HU;go_wp2_with (go_at_call 34; refine HFr.out.mono ?_; rintro e w3 ⟨rfl, hb3⟩; have HB3 := _root_.Zhd (Zaa HB.out hb3); clear hb3 hx);refine bodyPost_ret (results_tmp2 rfl _ _ _) rfl ?_;unfold Zwq Zix;rw [HQ2.out];obtain ⟨A0, c0, e0, g1, g2, g3, g4⟩ := HL0.out.below HB3.out;injection e0 with e1 e2 e3
        subst e1; subst e3;exact ⟨⟨_, _, rfl, g1, g2, g3, g4, HB3.out⟩, fun h => absurd (show (5 : Int) = 0 from h) (by decide)⟩
      · obtain ⟨s1, s2, s3⟩ := Zvt HSS.out h16 HMr.out hlt HU.out hfi (by omega)
        have HQ2 : Hid (Zdn P P.length 0 L = Zdn P (P.length - (d + 1)) (d + 1) (insB M (Zbq M (P.take d) (wAt P d)) ⟨d, wAt P d, 0⟩)) := by
         show _ = _;rw [hq, Zyd (by rw [hfi]; rfl) hful, hf2]
        have HR2 := _root_.Zhd s1;have HU2 : Hid (d + 1 = 0 ∨ P.take (d + 1) ∈ Zaf (insB M (Zbq M (P.take d) (wAt P d)) ⟨d, wAt P d, 0⟩)) := .inr ((s3 _).2 (.inl rfl));clear HFi hq hfi HQ HU s1 s3;have hful2 : ¬ (200 : Int) ≤ (M.length : Int) := by omega
        go_wp2_with (go_at_call 34; refine HFr.out.mono ?_; rintro e w3 ⟨rfl, hb3⟩; have HB3 := _root_.Zhd (Zaa HB.out hb3); have HM3 := _root_.Zhd (HRm.out.below hb3); clear hb3 hx);have hks := s2;generalize hkk : Zbq M (P.take d) (wAt P d) = k at *;have HCl : Hid (∀ W, Below w3.heap.size w3 W → Calls prog 54 #[.slice Am M.length cm] W (Zcc W M)) := fun W hb => Zef Am cm M W (HM3.out.below hb) HNm.out (by omega)
        have HSp : Hid (∀ W, Below w3.heap.size w3 W → Calls prog 79 #[.slice Am M.length cm, .slice (some ⟨B, O, none⟩) d cp, .string (wAt P d)] W fun e w' => e = .returned (.int .i64 (k : Nat)) ∧ Below W.heap.size W w') := fun W hb => by
         have := Zacb Am cm M (some ⟨B, O, none⟩) cp (P.take d) (wAt P d) W (HM3.out.below hb) hcm1 hcm2 HMr.out (by
          have := Zfs ((HP.out.below HB3.out).below hb) (n := d) (by omega)
          rw [Yad, Ybb (by omega)]; exact this) (by rw [Yad]; omega) hc2
         rw [hkk, Yad, Ybb (by omega)] at this
         exact this
        have HKK := _root_.Zhd hkk;have hdi0 : (0 : Int) ≤ (d : Int) := by omega
        have hdi1 : (d : Int) ≤ (cp : Int) := by omega
        have hdi2 : d ≤ cp := by omega
        clear hkk s2;go_region_held3 (fun _ => True) (trivial) (first | (go_at_call 54; refine (HCl.out _ ?hbw).mono ?_; (case hbw => repeat (first | with_reducible exact Yac _ _ | exact Yaf _ | (simp; done) | with_reducible refine Below.drew ?_ | with_reducible refine Below.alloc ?_ ?_ _)); unfold Zcc; rintro e w4 ⟨⟨v4, rfl, hv4⟩, hb4⟩; have HO4 := _root_.Zhd hv4; have HL4 := _root_.Zhd hb4; have HB34 : Hid (Below w3.heap.size w3 w4) := Zaa (by repeat (first | with_reducible exact Yac _ _ | exact Yaf _ | (simp; done) | with_reducible refine Below.drew ?_ | with_reducible refine Below.alloc ?_ ?_ _)) hb4; clear hb4 hv4) | (go_at_call 79; refine (HSp.out _ ?hbw).mono ?_; (case hbw => repeat (first | with_reducible exact HB34.out | exact Yas HB34.out.size (by simp) | with_reducible refine Below.alloc ?_ ?_ _)); rintro e w5 ⟨rfl, hb5⟩; have HL5 := _root_.Zhd hb5; clear hb5) | (go_at_call_of 78 (Value.slice (some ⟨w5.heap.size, 0, none⟩) 1 1); refine (Zfy _ _ v4 k w5.heap.size 1 62 M ⟨d, wAt P d, 0⟩ ((HL4.out.trans (HL5.out.mono HL4.out.size)).alloc (Yas HL4.out.size HL5.out.size) _) ((Zah HO4.out HL5.out).alloc _) hks (by omega) (heap_alloc_new w5 _) (fun h => absurd ((Zah HO4.out HL5.out).lt _ h).2 (Nat.lt_irrefl _))).mono ?_; rintro e w6 ⟨⟨v6, rfl, hv6⟩, hb6⟩; have HM6 := _root_.Zhd (Lr.own hv6); have HB36 : Hid (Below w3.heap.size w3 w6) := Zaa (by repeat (first | with_reducible exact Yac _ _ | exact Yaf _ | (simp; done) | with_reducible refine Below.drew ?_ | with_reducible refine Below.alloc ?_ ?_ _)) hb6; clear hb6 hv6) | (go_at_call_of 78 (Value.slice (some ⟨w4.heap.size, 0, none⟩) 1 1); refine (Zfy _ _ v4 k w4.heap.size 1 62 M ⟨d, wAt P d, 0⟩ ((HL4.out.alloc HL4.out.size _).trans (HL5.out.mono (Yas HL4.out.size (by simp)))) (Zah (HO4.out.alloc _) HL5.out) hks (by omega) ((HL5.out.block _ (by simp)).trans (heap_alloc_new w4 _)) (fun h => absurd (HO4.out.lt _ h).2 (Nat.lt_irrefl _))).mono ?_; rintro e w6 ⟨⟨v6, rfl, hv6⟩, hb6⟩; have HM6 := _root_.Zhd (Lr.own hv6); have HB36 : Hid (Below w3.heap.size w3 w6) := Zaa (by repeat (first | with_reducible exact Yac _ _ | exact Yaf _ | (simp; done) | with_reducible refine Below.drew ?_ | with_reducible refine Below.alloc ?_ ?_ _)) hb6; clear hb6 hv6) | (go_at_call_of 78 (Value.slice (some ⟨w3.heap.size, 0, none⟩) 1 1); refine (Zfy _ _ v4 k w3.heap.size 1 62 M ⟨d, wAt P d, 0⟩ (HL4.out.trans (HL5.out.mono HL4.out.size)) (Zah HO4.out HL5.out) hks (by omega) ((HL5.out.block _ (Ybx (by simp) HL4.out.size)).trans ((HL4.out.block _ (by simp)).trans (heap_alloc_new w3 _))) (fun h => absurd (HO4.out.lt _ h).1 (by simp))).mono ?_; rintro e w6 ⟨⟨v6, rfl, hv6⟩, hb6⟩; have HM6 := _root_.Zhd (Lr.own hv6); have HB36 : Hid (Below w3.heap.size w3 w6) := Zaa (by repeat (first | with_reducible exact Yac _ _ | exact Yaf _ | (simp; done) | with_reducible refine Below.drew ?_ | with_reducible refine Below.alloc ?_ ?_ _)) hb6; clear hb6 hv6))
        all_goals
         have HB6 := _root_.Zhd (Zaa HB3.out HB36.out);clear HO4 HL4 HB34 HL5 HB36 HCl HSp;go_wp2;go_roundw
         case rel => exact ⟨d + 1, _, by omega, by go_num, HM6, HR2, HU2, HQ2, HB6⟩
         case measure => simp [intOf]; omega
  · have hde : d = P.length := by omega
    have HQ2 : Hid (addB L P = (M, 0)) := by
     show _ = _;rw [HX.out, HQ.out, hde, Yep];rfl
    have HClo := _root_.Zhd (Zef Am cm M wr HRm.out HNm.out (by omega))
    clear HQ HU;go_wp2_with (go_at_call 54; refine HClo.out.mono ?_; unfold Zcc; rintro e w4 ⟨⟨v4, rfl, hv4⟩, hb4⟩; have HO4 := _root_.Zhd (hv4.mono HB.out.size); have HM4 := _root_.Zhd (Lr.own hv4); have HB4 := _root_.Zhd (Zaa HB.out hb4); clear hb4 hv4);refine bodyPost_ret (results_tmp2 rfl _ _ _) rfl ?_;unfold Zwq Zix;rw [HQ2.out];obtain ⟨A0, c0, e0, g1, g2, g3, g4⟩ := HM4.out;exact ⟨⟨A0, c0, by rw [← e0]; rfl, g1, g2, g3, g4, HB4.out⟩, fun _ => ⟨v4, rfl, HO4.out⟩⟩
end Go.Proofs.Zq
namespace Lns
open Go Go.Lib Adr Mtr Tre Sch
theorem Zuq : ∀ {A B : List (List ByteArray)}, A.Pairwise pLt → B.Pairwise pLt → (∀ q, q ∈ A ↔ q ∈ B) → A = B
 | [], [], _, _, _ => rfl
 | [], b :: B, _, _, h => absurd ((h b).2 (by simp)) (by simp)
 | a :: A, [], _, _, h => absurd ((h a).1 (by simp)) (by simp)
 | a :: A, b :: B, hA, hB, h => by
   obtain ⟨a1, a2⟩ := Ycb.1 hA;obtain ⟨b1, b2⟩ := Ycb.1 hB;have hab : a = b := by
    rcases Yaw.1 ((h a).1 (by simp)) with e | h1
    · exact e
    · rcases Yaw.1 ((h b).2 (by simp)) with e | h2
      · exact e.symm
      · exact absurd (Zcb (b1 a h1) (a1 b h2)) (Zby _)
   subst hab;rw [Zuq a2 b2 fun q => ?_]
   constructor
   · intro hq;rcases Yaw.1 ((h q).1 (by simp [hq])) with e | e
     · rw [e] at hq; exact absurd (a1 _ hq) (Zby _)
     · exact e
   · intro hq;rcases Yaw.1 ((h q).2 (by simp [hq])) with e | e
     · rw [e] at hq; exact absurd (b1 _ hq) (Zby _)
     · exact e
theorem Zrl {L : List Line} (hr : Zab L = true) {P : List ByteArray} (hP : P ≠ []) : ∀ {s : List ByteArray}, P ++ s ∈ Zaf L → P ∈ Zaf L := by
 have hlast : ∀ (n : Nat) (s : List ByteArray), s.length = n → P ++ s ∈ Zaf L → P ∈ Zaf L := by
  intro n
  induction n with
  | zero => intro s hs h; rwa [Yaq hs, Ybg] at h
  | succ n ih =>
    intro s hs h;have hne : s ≠ [] := fun e => by rw [e] at hs; simp at hs
    obtain ⟨-, h2⟩ := (Zea hr).1.2 _ h;rw [Ycm hne] at h2;rcases h2 with h2 | h2
    · exact ih s.dropLast (by rw [Ycn]; omega) h2
    · exact absurd (Yem.1 h2).1 hP
 exact fun {s} h => hlast s.length s rfl h
def cutB (L : List Line) (i : Nat) : List Line := L.take i ++ L.drop (endB L i)
def stB (L : List Line) (P : List ByteArray) : Int := match Zar L P with | some k => (Zdq L k).mark | none => -1
theorem Zasy {α : Type} (L : List α) {k : Nat} (x : α) (hk : k ≤ L.length) : (L.take k ++ x :: L.drop k)[k]? = some x := by
 rw [Ybh (by rw [Yad]; omega), Yad, Ybb hk, Yep]; rfl
theorem Zanf {α : Type} (L : List α) {k i : Nat} (x : α) (hi : i < k) (hk : k ≤ L.length) : (L.take k ++ x :: L.drop k)[i]? = L[i]? := by
 rw [Ycf (by rw [Yad]; omega), Ycp, Yan hi]
theorem Zadn {α : Type} (L : List α) {k i : Nat} (x : α) (hi : k ≤ i) (hk : k ≤ L.length) : (L.take k ++ x :: L.drop k)[i + 1]? = L[i]? := by
 rw [Ybh (by rw [Yad]; omega), Yad, Ybb hk, show i + 1 - k = (i - k) + 1 by omega, List.getElem?_cons_succ, Ydb]
 congr 1; omega
theorem Zahu {α : Type} (L : List α) {i e j : Nat} (hj : j < i) (hi : i ≤ L.length) : (L.take i ++ L.drop e)[j]? = L[j]? := by
 rw [Ycf (by rw [Yad]; omega), Ycp, Yan hj]
theorem Zacv {α : Type} (L : List α) {i e j : Nat} (hj : e ≤ j) (hi : i ≤ L.length) : (L.take i ++ L.drop e)[i + (j - e)]? = L[j]? := by
 rw [Ybh (by rw [Yad]; omega), Yad, Ybb hi, Ydb]
 congr 1; omega
theorem Zod {l : Line} (h : Zbv l = true) : 0 ≤ l.mark ∧ l.mark ≤ 3 ∧ l.word.size ≤ 40 := by
 unfold Zbv at h;simp only [Yar, Yao] at h;omega
section
variable {L : List Line} (hr : Zab L = true)
include hr
theorem Zxw {k : Nat} (hk : k < L.length) : stB L (pa L k) = L[k].mark := by
 unfold stB;rw [Zum hr hk];show (Zdq L k).mark = _;rw [Zdf hk]
theorem Zaxj {P : List ByteArray} {k : Nat} (hk : k < L.length) (e : pa L k = P) : stB L P = L[k].mark := by rw [← e]; exact Zxw hr hk
theorem Zrh {P : List ByteArray} {k : Nat} {l : Line} (h1 : (Zaf L)[k]? = some P) (h2 : L[k]? = some l) : stB L P = l.mark := by
 obtain ⟨hk, e⟩ := Yba.1 h2;rw [← e];refine Zaxj hr hk ?_;unfold pa;rw [Yap, h1]; rfl
theorem Zwn {P : List ByteArray} (h : P ∈ Zaf L) : ∃ k l, (Zaf L)[k]? = some P ∧ L[k]? = some l ∧ k < L.length ∧ stB L P = l.mark := by
 obtain ⟨k, hk, e⟩ := Ybo h;have hk2 : k < L.length := by rw [Zag] at hk; exact hk
 have h1 : (Zaf L)[k]? = some P := by rw [Yag hk, e]
 exact ⟨k, L[k], h1, Yag hk2, hk2, Zrh hr h1 (Yag hk2)⟩
theorem Zpv {k : Nat} (hk : k < L.length) : 0 ≤ L[k].mark ∧ L[k].mark ≤ 3 := by
 have := Zod (Zee (Zad hr).2.1 k hk).1;omega
theorem Zdp {P : List ByteArray} : P ∈ Zaf L ↔ 0 ≤ stB L P := by
 rw [← Zfu hr];unfold stB;cases hf : Zar L P with
 | none => simp
 | some k =>
   have hk := Zcd hf;have := Zpv hr hk;show true = true ↔ 0 ≤ (Zdq L k).mark;rw [Zdf hk];simp; omega
theorem Zarl (P : List ByteArray) : -1 ≤ stB L P ∧ stB L P ≤ 3 := by
 unfold stB;cases hf : Zar L P with
 | none => simp
 | some k =>
   have hk := Zcd hf;have := Zpv hr hk;show -1 ≤ (Zdq L k).mark ∧ (Zdq L k).mark ≤ 3;rw [Zdf hk]; omega
theorem Zer {P : List ByteArray} (h : ¬ P ∈ Zaf L) : stB L P = -1 := by
 have h1 := Zarl hr P;rw [Zdp hr] at h;omega
theorem Zaxo {P : List ByteArray} : ¬ P ∈ Zaf L ↔ stB L P = -1 := ⟨Zer hr, fun h => by rw [Zdp hr, h]; omega⟩
end
theorem Zarn {S : List (List ByteArray)} {M : List Line} (hf : Zfq S M) (hs : Zws S) (hl : M.length ≤ 200) :
 Zab M = true ∧ Zaf M = S ∧ ∀ (k : Nat) (hk : k < M.length), ∃ hk' : k < S.length, stB M S[k] = M[k].mark := by
 obtain ⟨h1, h2⟩ := Zjv hf hs hl;refine ⟨h1, h2, fun k hk => ?_⟩
 have hk' : k < S.length := by rw [Zzd hf]; exact hk
 refine ⟨hk', Zaxj h1 hk ?_⟩;rw [Zfh hk];exact List.getElem_of_eq h2 _
section
variable {L : List Line} (hr : Zab L = true) {s : ByteArray} {m : Int}
include hr
theorem Zaxa {U : List ByteArray} (hU : U = [] ∨ U ∈ Zaf L) (hn : ¬ U ++ [s] ∈ Zaf L) (hl : L.length < 200) (hs : s.size ≤ 40) (hd : U.length < 16) (hm : 0 ≤ m ∧ m ≤ 3) :
 Zab (insB L (Zbq L U s) ⟨(U.length : Nat), s, m⟩) = true ∧ ∀ q, stB (insB L (Zbq L U s) ⟨(U.length : Nat), s, m⟩) q = if q = U ++ [s] then m else stB L q := by
 obtain ⟨ht, hf⟩ := Zea hr;have hle := Zwj hr (s := s) hU
 have hside : ∀ q, (q ∈ (Zaf L).take (Zbq L U s) → pLt q (U ++ [s])) ∧ (q ∈ (Zaf L).drop (Zbq L U s) → pLt (U ++ [s]) q) := fun q => by
  constructor
  · intro h;obtain ⟨i, hi, e⟩ := Ybo h;rw [Yad, Zag] at hi;rw [Yct] at e;rw [← e, ← Zfh (by omega)]
    exact Zadi hr hU hn (by omega) (by omega)
  · intro h;obtain ⟨i, hi, e⟩ := Ybo h;rw [Yam, Zag] at hi;rw [Ydl] at e;rw [← e, ← Zfh (by omega)]
    exact Zxr hr hU (by omega) (by omega)
 have hmem : ∀ q, q ∈ (Zaf L).take (Zbq L U s) ++ ((U ++ [s]) :: (Zaf L).drop (Zbq L U s)) ↔ q = U ++ [s] ∨ q ∈ Zaf L := fun q => by
  rw [Ybm, Yaw]
  conv => rhs; rhs; rw [← Ybk (Zbq L U s) (Zaf L), Ybm]
  constructor
  · rintro (h | h | h)
    · exact .inr (.inl h)
    · exact .inl h
    · exact .inr (.inr h)
  · rintro (h | h | h)
    · exact .inr (.inl h)
    · exact .inl h
    · exact .inr (.inr h)
 have hres : Zab (insB L (Zbq L U s) ⟨(U.length : Nat), s, m⟩) = true ∧ Zaf (insB L (Zbq L U s) ⟨(U.length : Nat), s, m⟩) = (Zaf L).take (Zbq L U s) ++ ((U ++ [s]) :: (Zaf L).drop (Zbq L U s)) := by
  refine Zjv (Zga (Zic _ hf) ⟨⟨?_, ?_, ?_⟩, Zhz _ hf⟩) ⟨?_, fun q hq => ?_⟩ ?_
  · unfold Zbv;simp only [Yar, Yao];omega
  · simp
  · rw [Ybu, Ycr]; rfl
  · rw [Yew];refine ⟨List.Pairwise.sublist (List.take_sublist _ _) ht.1, Ycb.2 ⟨fun q h => (hside q).2 h, List.Pairwise.sublist (List.drop_sublist _ _) ht.1⟩, fun a ha b hb => ?_⟩
    rcases Yaw.1 hb with e | e
    · rw [e]; exact (hside a).1 ha
    · exact Zcb ((hside a).1 ha) ((hside b).2 e)
  · rcases (hmem q).1 hq with e | e
    · rw [e];refine ⟨by simp, ?_⟩
      rw [Yed];rcases hU with hU | hU
      · exact .inr hU
      · exact .inl ((hmem _).2 (.inr hU))
    · obtain ⟨h1, h2⟩ := ht.2 q e;exact ⟨h1, h2.imp (fun h => (hmem _).2 (.inr h)) id⟩
  · rw [Zin]; omega
 refine ⟨hres.1, fun q => ?_⟩
 generalize Zbq L U s = k at *;have hp := hres.2;by_cases hq : q = U ++ [s]
 · rw [Yan hq];exact Zrh hres.1 (k := k) (by rw [hp, hq]; exact Zasy _ _ (by rw [Zag]; exact hle)) (Zasy L ⟨(U.length : Nat), s, m⟩ hle)
 · rw [Yab hq];by_cases hm2 : q ∈ Zaf L
   · obtain ⟨i, l, h1, h2, hi, h3⟩ := Zwn hr hm2;rw [h3];by_cases hik : i < k
     · exact Zrh hres.1 (k := i) (by rw [hp, Zanf _ _ hik (by rw [Zag]; exact hle)]; exact h1) (by unfold insB; rw [Zanf _ _ hik hle]; exact h2)
     · exact Zrh hres.1 (k := i + 1) (by rw [hp, Zadn _ _ (by omega) (by rw [Zag]; exact hle)]; exact h1) (by unfold insB; rw [Zadn _ _ (by omega) hle]; exact h2)
   · rw [Zer hr hm2];refine Zer hres.1 fun h => ?_
     rw [hp] at h;rcases (hmem q).1 h with e | e
     · exact hq e
     · exact hm2 e
end
def markB (L : List Line) (k : Nat) (m : Int) : List Line := L.set k ⟨Zan L k, Zbd L k, m⟩
theorem Zxf : ∀ {S : List (List ByteArray)} {L : List Line} {k : Nat} {l : Line} (hk : k < L.length), Zfq S L → Zbv l = true → l.depth = L[k].depth → l.word = L[k].word → Zfq S (L.set k l)
 | [], [], _, _, hk, _, _, _, _ => absurd hk (by simp)
 | _ :: _, _ :: _, 0, _, _, h, h1, h2, h3 => ⟨⟨h1, by rw [h2]; exact h.1.2.1, by rw [h3]; exact h.1.2.2⟩, h.2⟩
 | _ :: _, _ :: _, k + 1, _, hk, h, h1, h2, h3 => ⟨h.1, Zxf (k := k) (by simpa using hk) h.2 h1 (by simpa using h2) (by simpa using h3)⟩
 | [], _ :: _, _, _, _, h, _, _, _ => h.elim
 | _ :: _, [], _, _, _, h, _, _, _ => h.elim
theorem Zzl {L : List Line} (hr : Zab L = true) {k : Nat} (hk : k < L.length) {m : Int} (hm : 0 ≤ m ∧ m ≤ 3) :
 Zab (markB L k m) = true ∧ ∀ q, stB (markB L k m) q = if q = pa L k then m else stB L q := by
 obtain ⟨ht, hf⟩ := Zea hr;have hs := (Zee (Zad hr).2.1 k hk).1;have hl := (Zad hr).1;have hlen : (markB L k m).length = L.length := by unfold markB; simp
 obtain ⟨h1, h2⟩ := Zjv (S := Zaf L) (L := markB L k m) (Zxf hk hf (by
  unfold Zbv at hs ⊢;simp only [Yar, Yao] at hs ⊢;rw [Zaw hk, Zbi hk];exact ⟨⟨hs.1.1, hm.1⟩, hm.2⟩) (Zaw hk) (Zbi hk)) ht (by omega)
 refine ⟨h1, fun q => ?_⟩
 have hpa : ∀ i, pa (markB L k m) i = pa L i := fun i => by unfold pa; rw [h2]
 by_cases hq : q = pa L k
 · rw [Yan hq, hq, ← hpa, Zxw h1 (by omega)]
   unfold markB;rw [List.getElem_set_self]
 · rw [Yab hq];by_cases hm2 : q ∈ Zaf L
   · obtain ⟨i, hi, rfl⟩ := Zbt.1 hm2;rw [Zxw hr hi, ← hpa, Zxw h1 (by omega)]
     unfold markB;rw [List.getElem_set_ne];intro e; exact hq (by rw [e])
   · rw [Zer hr hm2];exact Zer h1 (by rw [h2]; exact hm2)
def preB (P Q : List ByteArray) : Bool := decide (Q.take P.length = P)
theorem Zbg {P Q : List ByteArray} : preB P Q = true ↔ ∃ s, Q = P ++ s := by
 unfold preB;rw [Yao];constructor
 · intro h; exact ⟨Q.drop P.length, by conv => lhs; rw [← Ybk P.length Q, h]⟩
 · rintro ⟨s, rfl⟩; simp
theorem Zalh {L : List Line} (hr : Zab L = true) {i : Nat} (hi : i < L.length) :
 Zab (cutB L i) = true ∧ ∀ q, stB (cutB L i) q = if preB (pa L i) q then -1 else stB L q := by
 obtain ⟨ht, hf⟩ := Zea hr;have he := Zbb L i hi
 have hsplit : ∀ q, q ∈ (Zaf L).take i ++ (Zaf L).drop (endB L i) ↔ q ∈ Zaf L ∧ ¬ preB (pa L i) q = true := fun q => by
  rw [Ybm];constructor
  · rintro (h | h)
    · obtain ⟨k, hk, e⟩ := Ybo h;rw [Yad, Zag] at hk;rw [Yct, ← Zfh (by omega)] at e
      refine ⟨List.mem_of_mem_take h, ?_⟩;rw [Zbg, ← e, Zdo hr hi (by omega)]; omega
    · obtain ⟨k, hk, e⟩ := Ybo h;rw [Yam, Zag] at hk;rw [Ydl, ← Zfh (by omega)] at e
      refine ⟨Yex h, ?_⟩;rw [Zbg, ← e, Zdo hr hi (by omega)]; omega
  · rintro ⟨h1, h2⟩;obtain ⟨k, hk, rfl⟩ := Zbt.1 h1;rw [Zbg, Zdo hr hi hk] at h2;rcases Ybp k i with h | h
    · left
      rw [Yey];exact ⟨k, by rw [Yad, Zag]; omega, by rw [Yct, ← Zfh hk]⟩
    · right
      rw [Yey];refine ⟨k - endB L i, by rw [Yam, Zag]; omega, ?_⟩
      rw [Ydl, Zfh hk];congr 1; omega
 have hne := (ht.2 _ (Zbt.2 ⟨i, hi, rfl⟩)).1
 have hres : Zab (cutB L i) = true ∧ Zaf (cutB L i) = (Zaf L).take i ++ (Zaf L).drop (endB L i) := by
  refine Zjv (Zga (Zic _ hf) (Zhz _ hf)) ⟨?_, fun q hq => ?_⟩ ?_
  · have : ((Zaf L).take i ++ (Zaf L).drop (endB L i)).Sublist (Zaf L) := by
     conv => rhs; rw [← Ybk i (Zaf L)]
     refine List.Sublist.append (List.Sublist.refl _) ?_;rw [show endB L i = i + (endB L i - i) by omega, ← List.drop_drop]
     exact List.drop_sublist _ _
    exact List.Pairwise.sublist this ht.1
  · obtain ⟨h1, h2⟩ := (hsplit q).1 hq;obtain ⟨h3, h4⟩ := ht.2 q h1;refine ⟨h3, h4.imp (fun h => (hsplit _).2 ⟨h, fun e => h2 ?_⟩) id⟩
    rw [Zbg] at e ⊢;obtain ⟨s, e⟩ := e;exact ⟨s ++ [q.getLastD ⟨#[]⟩], by rw [← Ybl, ← e, Zln q h3]⟩
  · unfold cutB;have := (Zad hr).1;rw [Yaj, Yad, Yam]; omega
 refine ⟨hres.1, fun q => ?_⟩
 by_cases hq : preB (pa L i) q = true
 · rw [Yan hq];refine Zer hres.1 fun h => ?_
   rw [hres.2] at h;exact ((hsplit q).1 h).2 hq
 · rw [Yab hq];by_cases hm2 : q ∈ Zaf L
   · obtain ⟨k, l, h1, h2, hk, h3⟩ := Zwn hr hm2;have hk2 := hq;have hpk : pa L k = q := by unfold pa; rw [Yap, h1]; rfl
     rw [← hpk, Zbg, Zdo hr hi hk] at hk2;rw [h3];rcases Ybp k i with h | h
     · exact Zrh hres.1 (k := k) (by rw [hres.2, Zahu _ h (by rw [Zag]; omega)]; exact h1) (by unfold cutB; rw [Zahu _ h (by omega)]; exact h2)
     · exact Zrh hres.1 (k := i + (k - endB L i)) (by rw [hres.2, Zacv _ (by omega) (by rw [Zag]; omega)]; exact h1) (by unfold cutB; rw [Zacv _ (by omega) (by omega)]; exact h2)
   · rw [Zer hr hm2];exact Zer hres.1 fun h => hm2 ((hsplit q).1 (by rw [← hres.2]; exact h)).1
end Lns
