import Derived.Test.YtdamidelojccaaaGreatDoorJ13
set_option maxHeartbeats 4000000
set_option maxRecDepth 100000
namespace Sch
open Go Go.Lib Adr Mtr Tre
def bw (l : List UInt8) : ByteArray := ⟨l.toArray⟩
def Zci (s : List UInt8) : Rule := ⟨(parts 32 (trimRightS s [43, 33])).map bw, !(decide (trimRightS s [43, 33] = s)), hasSuffix s [33]⟩
def Zly : List UInt8 := [104, 111, 115, 116, 115, 124, 104, 111, 115, 116, 115, 32, 36, 110, 97, 109, 101, 124, 104, 111, 115, 116, 115, 32, 36, 110, 97, 109, 101, 32, 105, 112, 33, 124, 104, 111, 115, 116, 115, 32, 36, 110, 97, 109, 101, 32, 105, 112, 32, 36, 105, 112, 124, 104, 111, 115, 116, 115, 32, 36, 110, 97, 109, 101, 32, 109, 97, 99, 43, 124, 104, 111, 115, 116, 115, 32, 36, 110, 97, 109, 101, 32, 109, 97, 99, 32, 36, 109, 97, 99, 124, 104, 111, 115, 116, 115, 32, 36, 110, 97, 109, 101, 32, 118, 110, 105, 115, 124, 104, 111, 115, 116, 115, 32, 36, 110, 97, 109, 101, 32, 118, 110, 105, 115, 32, 36, 118, 110, 105, 124, 118, 110, 105, 115, 124, 118, 110, 105, 115, 32, 36, 118, 110, 105, 124, 118, 110, 105, 115, 32, 36, 118, 110, 105, 32, 115, 117, 98, 110, 101, 116, 33, 124, 118, 110, 105, 115, 32, 36, 118, 110, 105, 32, 115, 117, 98, 110, 101, 116, 32, 36, 112, 114, 101, 102, 105, 120, 124, 98, 105, 110, 100, 105, 110, 103, 115, 124, 98, 105, 110, 100, 105, 110, 103, 115, 32, 36, 105, 112, 124, 98, 105, 110, 100, 105, 110, 103, 115, 32, 36, 105, 112, 32, 104, 111, 115, 116, 33, 124, 98, 105, 110, 100, 105, 110, 103, 115, 32, 36, 105, 112, 32, 104, 111, 115, 116, 32, 36, 110, 97, 109, 101, 124, 98, 105, 110, 100, 105, 110, 103, 115, 32, 36, 105, 112, 32, 109, 97, 99, 33, 124, 98, 105, 110, 100, 105, 110, 103, 115, 32, 36, 105, 112, 32, 109, 97, 99, 32, 36, 109, 97, 99, 124, 98, 105, 110, 100, 105, 110, 103, 115, 32, 36, 105, 112, 32, 118, 110, 105, 33, 124, 98, 105, 110, 100, 105, 110, 103, 115, 32, 36, 105, 112, 32, 118, 110, 105, 32, 36, 118, 110, 105, 124, 114, 111, 117, 116, 101, 115, 124, 114, 111, 117, 116, 101, 115, 32, 36, 112, 114, 101, 102, 105, 120, 124, 114, 111, 117, 116, 101, 115, 32, 36, 112, 114, 101, 102, 105, 120, 32, 118, 105, 97, 33, 124, 114, 111, 117, 116, 101, 115, 32, 36, 112, 114, 101, 102, 105, 120, 32, 118, 105, 97, 32, 36, 110, 97, 109, 101, 124, 114, 111, 117, 116, 101, 115, 32, 36, 112, 114, 101, 102, 105, 120, 32, 109, 101, 116, 114, 105, 99, 43, 124, 114, 111, 117, 116, 101, 115, 32, 36, 112, 114, 101, 102, 105, 120, 32, 109, 101, 116, 114, 105, 99, 32, 36, 109, 101, 116, 114, 105, 99, 124, 112, 111, 108, 105, 99, 121, 124, 112, 111, 108, 105, 99, 121, 32, 36, 110, 117, 109, 124, 112, 111, 108, 105, 99, 121, 32, 36, 110, 117, 109, 32, 97, 99, 116, 105, 111, 110, 33, 124, 112, 111, 108, 105, 99, 121, 32, 36, 110, 117, 109, 32, 97, 99, 116, 105, 111, 110, 32, 36, 97, 99, 116, 105, 111, 110, 124, 112, 111, 108, 105, 99, 121, 32, 36, 110, 117, 109, 32, 102, 114, 111, 109, 43, 124, 112, 111, 108, 105, 99, 121, 32, 36, 110, 117, 109, 32, 102, 114, 111, 109, 32, 36, 112, 114, 101, 102, 105, 120, 124, 112, 111, 108, 105, 99, 121, 32, 36, 110, 117, 109, 32, 116, 111, 43, 124, 112, 111, 108, 105, 99, 121, 32, 36, 110, 117, 109, 32, 116, 111, 32, 36, 112, 114, 101, 102, 105, 120]
theorem Zahj : (parts 124 Zly).map Zci = Zak := by kernel_rfl
theorem Zang : (parts 124 Zly).length = 34 := by decide +kernel
theorem Zafl : ∀ s ∈ parts 124 Zly, s.length ≤ 40 := by decide +kernel
def Zsn (r : Rule) : List ByteArray × List Value := (r.path, [.bool r.one, .bool r.needed])
def Zmj : List (List ByteArray × List Value) := Zak.map Zsn
theorem Zth : Zmj.length = 34 := by decide +kernel
end Sch
namespace Go.Proofs.Zq
open Tryz
open Go Go.RowKit Go.Sort Sch Adr Mtr Tre
theorem Zawt (L : List (List UInt8)) : sv (L.map bw) = strs L := by unfold sv strs bw; rw [Yeo]; rfl
theorem Zapw (s : ByteArray) (c : UInt8) (w : World) (hE : Env w) (hs : s.size ≤ 100000000) :
 Calls prog 80 #[.string s, .string ⟨#[c]⟩] w fun e w' => (∃ v, e = .returned v ∧ Pv w' v ((Adr.parts c s.data.toList).map bw)) ∧ Below w.heap.size w w' := by
 obtain ⟨m, hm⟩ := hE.mx;refine (Tryz.strings_Split s ⟨#[c]⟩ m w (by omega) hm (Yaf 1)).mono fun e w' ⟨he, hw⟩ => ?_
 have hl := Adr.parts_len c s.data.toList;rw [Zat] at hl;rw [Zabm, Adr.splitB_parts] at hw;have hc := Adr.countB_parts c s;have hle : ((Adr.parts c s.data.toList).map bw).length = (Adr.parts c s.data.toList).length := Yax _;refine ⟨⟨_, he, w.heap.size, (Adr.parts c s.data.toList).length, by rw [hle, hc], by rw [hle]; exact Yaf _, by unfold maxLen; omega, by rw [hle]; omega, ?_⟩, by rw [hw]; exact (Yac _ _).alloc (Yaf _) _⟩
 rw [hle, Zawt];refine ⟨by rw [Zqp]; omega, fun _ => ⟨_, rfl, by rw [hw]; simp, fun j u hu => ?_⟩⟩
 rw [hw, Zae, Ybf, World.cell?_alloc_at _ _ _ _ rfl];simpa using hu
theorem Zamp (a b : Bool) : ∀ c ∈ [Value.bool a, Value.bool b], c.oneCell' = true := by
 intro c hc;simp only [Yaw, Ybv, or_false] at hc;rcases hc with rfl | rfl <;> rfl
theorem Zamw : (prog.info? 99).map (fun i => (i.zero, i.size, i.bytes)) = some (some (.agg #[.slice none 0 0, .bool false, .bool false]), 3, 32) := by kernel_rfl
def Zapo (w : World) (e : Ending) (w' : World) : Prop := (∃ v, e = .returned v ∧ Pl w' w.heap.size 99 3 v Zmj) ∧ Below w.heap.size w w'
theorem Zamo (w : World) (hE : Env w) : Calls prog 45 #[] w (Zapo w) := by
 obtain ⟨i0, hi, hz0, hz1, hz2⟩ := info_parts Zamw
 have HS : Hid (Calls prog 80 #[.string ⟨Zly.toArray⟩, .string ⟨#[124]⟩] w (Zua w 124 Zly)) := by
  have := Zys ⟨Zly.toArray⟩ 124 w hE (by decide +kernel)
  rw [Zch] at this; exact this
 have HE := _root_.Zhd hE;have hlen := Zang;have HSZ := _root_.Zhd Zafl;have HRF := _root_.Zhd Zahj;clear hE;go_enter func45, ntmps45;go_wp2_with fail;refine HS.out.mono ?_;clear HS;unfold Zua;generalize Adr.parts 124 Zly = PS at *;rintro e w1 ⟨A, cap, rfl, hc1, hc2, hRd, hb1⟩
 have HR : Hid (Rd w1 1 A (PS.map bw).length (sv (PS.map bw))) := by
  show Rd _ _ _ _ _;rw [Zawt, Yax]; exact hRd
 unfold maxLen at hc2;clear hRd;have HB1 := _root_.Zhd hb1;clear hb1;go_wp2;go_loopw [1, 7] (fun v vi wr => ∃ k : Nat, k ≤ 34 ∧ vi = .int .i64 k ∧ Hid (Pl wr w1.heap.size 99 3 v ((PS.take k).map fun s => Zsn (Zci s))) ∧ Hid (Below w1.heap.size w1 wr)) (fun _ vi _ => 34 - (intOf vi).toNat)
 case atStart => exact ⟨0, Yav _, rfl, Pl.nil _ _ _ _, Yac _ _⟩
 case round =>
  obtain ⟨k, hk, rfl, HP, HB⟩ := hrel;by_cases hlt : k < 34
  · have hkl : k < PS.length := by omega
    have hkl2 : k < (PS.map bw).length := by rw [Yax]; exact hkl
    obtain ⟨B, O, rfl, hab, hadd, x0⟩ := (HR.out.below HB.out).strAt hkl2;have hgx : (PS.map bw)[k] = bw PS[k] := Ydj _;rw [hgx] at x0;have hps := HSZ.out _ (Yat hkl)
    have hst : Hid ((PS.take (k + 1)).map (fun s => Zsn (Zci s)) = (PS.take k).map (fun s => Zsn (Zci s)) ++ [Zsn (Zci PS[k])]) := by
     show _ = _;rw [Yau hkl, Ybs]; rfl
    generalize PS[k] = s at *;have hss : (bw s).size ≤ 40 := by unfold bw; rw [Zeo]; exact hps
    have HT : ∀ W, Hid (Calls prog 81 #[.string (bw s), .string ⟨#[43, 33]⟩] W fun e w' => e = .returned (.string (bw (Lib.trimRightS s [43, 33]))) ∧ Below W.heap.size W w') := fun W => by
     have := Zwh (bw s) ⟨#[43, 33]⟩ W (by omega) (by decide) (by decide)
     unfold bw at this;rw [Zch] at this;exact this
    have htl : (Lib.trimRightS s [43, 33]).length ≤ 100000000 := by
     have : (Lib.trimRightS s [43, 33]).length ≤ s.length := by
      unfold Lib.trimRightS;rw [Ydp];exact Yas (List.dropWhile_suffix _).length_le (by simp)
     omega
    have HX : ∀ W, Env W → Hid (Calls prog 80 #[.string (bw (Lib.trimRightS s [43, 33])), .string ⟨#[32]⟩] W fun e w' => (∃ v, e = .returned v ∧ Pv w' v (Zci s).path) ∧ Below W.heap.size W w') := fun W hW => by
     have := Zapw (bw (Lib.trimRightS s [43, 33])) 32 W hW (by unfold bw; rw [Zeo]; exact htl)
     rw [show (bw (Lib.trimRightS s [43, 33])).data.toList = Lib.trimRightS s [43, 33] from Zch _] at this;exact this
    have HF : ∀ W, Hid (Calls prog 82 #[.string (bw s), .string ⟨#[33]⟩] W fun e w' => e = .returned (.bool (Zci s).needed) ∧ w' = W) := fun W => by
     have := Tryz.strings_HasSuffix (bw s) ⟨#[33]⟩ W (by omega)
     rw [show (bw s).data.toList = s from Zch _] at this;exact this
    have HO : Hid ((!((bw (Lib.trimRightS s [43, 33])).toList == (bw s).toList)) = (Zci s).one) := by
     show _ = _;unfold bw Zci;rw [Lib.toList_data, Lib.toList_data, Zch, Zch];show _ = !(decide _);rw [Ycj];simp
    have HRI : Hid (Zsn (Zci s) = ((Zci s).path, [.bool (Zci s).one, .bool (Zci s).needed])) := rfl;generalize Zci s = r at *;generalize bw (Lib.trimRightS s [43, 33]) = p at *;generalize bw s = q at *;clear hgx hkl2 hps;go_wp2_with fail;refine (HT _).out.mono ?_;rintro e w2 ⟨rfl, hb2⟩;have hb3 := Zaa HB.out hb2;have HP2 := _root_.Zhd (HP.out.below hb2);clear HP HB hb2 HT;go_wp2_with fail;refine (HX _ (HE.out.below (Zaa HB1.out hb3))).out.mono ?_;rintro e w3 ⟨⟨v3, rfl, hv3⟩, hb4⟩;have hb5 := Zaa hb3 hb4;have HP3 := _root_.Zhd (HP2.out.below hb4);obtain ⟨b3, c3, rfl, -, -, -, -, hv3, -⟩ := hv3.slice;have HV := _root_.Zhd hv3;have HB5 := _root_.Zhd hb5;clear HP2 hb3 hb4 HX hv3 hb5;go_wp2_with fail;refine (HF _).out.mono ?_;rintro e w4 ⟨rfl, rfl⟩;rw [HO.out];clear HF HO;have hk2 : ((PS.take k).map (fun s => Zsn (Zci s))).length ≤ 34 := by rw [Yax, Yad]; omega
    generalize (PS.take k).map (fun s => Zsn (Zci s)) = its at *
    go_wp2_with (at_builtin; refine Zmm rfl _ _ 96 rfl w1 w4 99 i0 _ 3 32 underlying96 hi hz0 hz1 hz2 rfl (by decide) (by decide) HP3.out HB5.out rfl (.slice (some ⟨b3, 0, none⟩) r.path.length c3) (r.path, [.bool r.one, .bool r.needed]) rfl (Zamp _ _) HV.out rfl (by omega) ?_; intro v' w' hown' hb')
    go_roundw
    case rel => exact ⟨k + 1, by omega, by go_num, by show Pl _ _ _ _ _ _; rw [hst.out, HRI.out]; exact hown', hb'⟩
    case measure => simp [intOf]; omega
  · obtain rfl : k = 34 := by omega
    have HF : Hid ((PS.take 34).map (fun s => Zsn (Zci s)) = Zmj) := by
     show _ = _;rw [← hlen, Ybw];unfold Zmj;rw [← HRF.out, Yeo]; rfl
    have HPF := HP.out;rw [HF.out] at HPF;have HPG := _root_.Zhd (HPF.base HB1.out.size);have HBG := _root_.Zhd (Zaa HB1.out HB.out);clear HP HB HPF HF;go_wp2;go_ret;exact ⟨⟨_, rfl, HPG.out⟩, HBG.out⟩
end Go.Proofs.Zq
namespace Sch
open Go Go.Lib Adr Mtr Tre
theorem Zaft {P Q : List ByteArray} {k : Nat} (hk : k < P.length) (hq : k < Q.length) : Zbm (P.drop k) (Q.drop k) = (Zlj P[k] Q[k] && Zbm (P.drop (k + 1)) (Q.drop (k + 1))) := by
 rw [Yay hk, Yay hq]; rfl
def Shw (P : List ByteArray) : Prop := ∀ s ∈ P, s.size ≤ 100000000
end Sch
namespace Go.Proofs.Zq
open Tryz
open Go Go.RowKit Go.Sort Sch Adr Mtr Tre
theorem Zads (a b : ByteArray) : (a.toList == b.toList) = decide (a = b) := Zwv
theorem Zark (p s : ByteArray) (w : World) (hE : Env w) (_hp : p.size ≤ 100000000) (hs : s.size ≤ 100000000) :
 Calls prog 119 #[.string p, .string s] w fun e w' => e = .returned (.bool (Zlj p s)) ∧ Below w.heap.size w w' := by
 have HP : Hid (Calls prog 88 #[.string p, .string ⟨#[36]⟩] w fun e w' => e = .returned (.bool (Zkd p)) ∧ w' = w) := Tryz.strings_HasPrefix p ⟨#[36]⟩ w
 have HT := _root_.Zhd (Zarp p s w hE hs);have HF : Hid (Zlj p s = if Zkd p then Zev p s else decide (p = s)) := rfl
 have HQ := _root_.Zhd (Zads p s);cases ht : Zkd p with
 | true =>
   have HK : Hid (Zlj p s = Zev p s) := by show _ = _; rw [HF.out, ht]; rfl
   rw [ht] at HP;clear HF ht hE;go_enter func119, ntmps119;go_wp2_with fail;refine HP.out.mono ?_;rintro e w' ⟨rfl, rfl⟩;clear HP;go_wp2_with fail;refine HT.out.mono ?_;rintro e w' ⟨rfl, hb⟩;clear HT;go_wp2;go_ret;exact ⟨Zai HK.out.symm, hb⟩
 | false =>
   have HK : Hid (Zlj p s = decide (p = s)) := by show _ = _; rw [HF.out, ht]; rfl
   rw [ht] at HP;clear HF ht hE HT;go_enter func119, ntmps119;go_wp2_with fail;refine HP.out.mono ?_;rintro e w' ⟨rfl, rfl⟩;clear HP;go_wp2;go_ret;exact ⟨Zai (by rw [HQ.out, HK.out]), Yac _ _⟩
theorem Zvq (A : Option Addr) (c : Nat) (P : List ByteArray) (A2 : Option Addr) (c2 : Nat) (Q : List ByteArray) (w : World) (hE : Env w) (hP : Rd w 1 A P.length (sv P)) (hQ : Rd w 1 A2 Q.length (sv Q)) (hpl : P.length ≤ 100000) (_hql : Q.length ≤ 100000) (hps : Shw P) (hqs : Shw Q) :
 Calls prog 118 #[.slice A P.length c, .slice A2 Q.length c2, .func (.func 119) #[] #[]] w fun e w' => e = .returned (.bool (Zbm P Q)) ∧ Below w.heap.size w w' := by
 have HP := _root_.Zhd hP;have HQ := _root_.Zhd hQ;have HE := _root_.Zhd hE;have HPS := _root_.Zhd hps;have HQS := _root_.Zhd hqs;clear hP hQ hE hps hqs;by_cases hl : P.length = Q.length
 · have hl1 : ((P.length : Int) != (Q.length : Int)) = false := by rw [hl]; simp
   have HM : Hid (Zbm P Q = Zbm (P.drop 0) (Q.drop 0)) := rfl;have HL := _root_.Zhd hl;clear hl;go_enter func118, ntmps118;go_wp2;go_loopw [17] (fun vi wr => ∃ k : Nat, k ≤ P.length ∧ vi = .int .i64 k ∧ Hid (Zbm P Q = Zbm (P.drop k) (Q.drop k)) ∧ Hid (Below w.heap.size w wr)) (fun vi _ => P.length - (intOf vi).toNat)
   case atStart => exact ⟨0, Yav _, rfl, HM, Yac _ _⟩
   case round =>
    clear HM;obtain ⟨k, hk, rfl, HM, HB⟩ := hrel;by_cases hlt : k < P.length
    · have hlq : k < Q.length := by have := HL.out; omega
      obtain ⟨B, O, rfl, hab, hadd, x0⟩ := (HP.out.below HB.out).strAt hlt;obtain ⟨B2, O2, rfl, hab2, hadd2, y0⟩ := (HQ.out.below HB.out).strAt hlq;have hst : Hid (Zbm P Q = (Zlj P[k] Q[k] && Zbm (P.drop (k + 1)) (Q.drop (k + 1)))) := HM.out.trans (Zaft hlt hlq);have HC := _root_.Zhd (Zark P[k] Q[k] wr (HE.out.below HB.out) (HPS.out _ (Yat hlt)) (HQS.out _ (Yat hlq)));generalize P[k] = p at *;generalize Q[k] = q at *;clear HM;cases hf : Zlj p q with
      | true =>
        rw [hf] at hst HC;have HM2 : Hid (Zbm P Q = Zbm (P.drop (k + 1)) (Q.drop (k + 1))) := by show _ = _; rw [hst.out]; rfl
        clear hst hf;go_wp2_with fail;refine HC.out.mono ?_;rintro e w2 ⟨rfl, hb2⟩;have HB2 := _root_.Zhd (Zaa HB.out hb2);clear HC HB hb2;go_wp2_with fail;go_roundw
        case rel => exact ⟨k + 1, by omega, by go_num, HM2, HB2⟩
        case measure => simp [intOf]; omega
      | false =>
        rw [hf] at hst HC;have HM2 : Hid (Zbm P Q = false) := by show _ = _; rw [hst.out]; rfl
        clear hst hf;go_wp2_with fail;refine HC.out.mono ?_;rintro e w2 ⟨rfl, hb2⟩;have HB2 := _root_.Zhd (Zaa HB.out hb2);clear HC HB hb2;go_wp2;go_ret;exact ⟨Zai HM2.out.symm, HB2.out⟩
    · obtain rfl : k = P.length := by omega
      have HM2 : Hid (Zbm P Q = true) := by
       show _ = _;rw [HM.out, Ydh, Ybd (by have := HL.out; omega)]; rfl
      clear HM;go_wp2;go_ret;exact ⟨Zai HM2.out.symm, HB.out⟩
 · have hl1 : ((P.length : Int) != (Q.length : Int)) = true := by rw [bne_iff_ne]; omega
   have HM : Hid (Zbm P Q = false) := Zabn hl;clear hl;go_enter func118, ntmps118;go_wp2;go_ret;exact ⟨Zai HM.out.symm, Yac _ _⟩
theorem Zjl (A : Option Addr) (c : Nat) (P : List ByteArray) (A2 : Option Addr) (c2 : Nat) (Q : List ByteArray) (w : World) (hE : Env w) (hP : Rd w 1 A P.length (sv P)) (hQ : Rd w 1 A2 Q.length (sv Q)) (hpl : P.length ≤ 100000) (hql : Q.length ≤ 100000) (hps : Shw P) (hqs : Shw Q) :
 Calls prog 85 #[.slice A P.length c, .slice A2 Q.length c2] w fun e w' => e = .returned (.bool (Zbm P Q)) ∧ Below w.heap.size w w' := by
 have HC := _root_.Zhd (Zvq A c P A2 c2 Q w hE hP hQ hpl hql hps hqs);clear hP hQ hE hps hqs;go_enter func85, ntmps85;go_wp2_with fail;refine HC.out.mono ?_;rintro e w2 ⟨rfl, hb2⟩;go_wp2;go_ret;exact ⟨rfl, hb2⟩
end Go.Proofs.Zq
namespace Sch
open Go Go.Lib Adr Mtr Tre
def Zau (f : Rule → Bool) : Nat → List Rule → Int
 | _, [] => -1
 | k, r :: l => if f r then (k : Int) else Zau f (k + 1) l
theorem Zex {f : Rule → Bool} : ∀ (l : List Rule) (k : Nat), (Zau f k l = -1 ∧ l.find? f = none) ∨ (∃ j, ∃ h : j < l.length, Zau f k l = ((k + j : Nat) : Int) ∧ l.find? f = some l[j])
 | [], k => .inl ⟨rfl, rfl⟩
 | r :: l, k => by
   unfold Zau;cases h : f r with
   | true => exact .inr ⟨0, by simp, by simp, by simp [h]⟩
   | false =>
     rcases Zex (f := f) l (k + 1) with ⟨h1, h2⟩ | ⟨j, hj, h1, h2⟩
     · exact .inl ⟨by simpa using h1, by simp [h, h2]⟩
     · exact .inr ⟨j + 1, by simpa using hj, by simp only [Ydu, if_false, h1]; congr 1; omega, by simp [h, h2]⟩
theorem Zvk {f : Rule → Bool} (l : List Rule) (k : Nat) : decide (0 ≤ Zau f k l) = l.any f := by
 rcases Zex (f := f) l k with ⟨h1, h2⟩ | ⟨j, hj, h1, h2⟩
 · rw [h1];have : l.any f = false := by rw [List.any_eq_false]; intro x hx; have := List.find?_eq_none.1 h2 x hx; simpa using this
   rw [this]; decide
 · rw [h1];have : l.any f = true := by
    rw [List.any_eq_true];exact ⟨l[j], Yat hj, List.find?_some h2⟩
   rw [this, Yal (by omega)]
theorem Zma : ∀ r ∈ Zak, Shw r.path := by
 have h : (Zak.all fun r => r.path.all fun s => decide (s.size ≤ 100000000)) = true := by decide +kernel
 intro r hr s hs;have := Ybr.1 h r hr;simpa using Ybr.1 this s hs
theorem Zia : ∀ r ∈ Zak, 1 ≤ r.path.length ∧ r.path.length ≤ 4 := by
 have h : (Zak.all fun r => decide (1 ≤ r.path.length) && decide (r.path.length ≤ 4)) = true := by decide +kernel
 intro r hr;simpa using Ybr.1 h r hr
end Sch
namespace Go.Proofs.Zq
open Tryz
open Go Go.RowKit Go.Sort Sch Adr Mtr Tre
def Zoe (w : World) (A : Option Addr) : Prop := Pd w 3 A Zmj
theorem Zagf {i : Nat} (h : i < 34) : ∃ _hr : i < Zak.length, ∃ hi : i < Zmj.length, Zmj[i] = Zsn (Zak[i]) := by
 have hl : Zak.length = 34 := by decide +kernel
 refine ⟨by omega, by rw [Zth]; exact h, ?_⟩
 unfold Zmj;exact Ydj _
theorem Zoe.below {w w' : World} {A : Option Addr} (h : Zoe w A) (hb : Below w.heap.size w w') : Zoe w' A := Pd.below h hb
theorem Zoe.one {w : World} {A : Option Addr} (h : Zoe w A) {i : Nat} (hi : i < Zak.length) :
 ∃ B O b c, A = some ⟨B, O, none⟩ ∧ B < w.heap.size ∧ (⟨B, O, none⟩ : Addr).add (i * 3) = ⟨B, O + i * 3, none⟩ ∧ Zak[i].path.length ≤ c ∧ c ≤ maxLen ∧ Rd w 1 (some ⟨b, 0, none⟩) Zak[i].path.length (sv Zak[i].path)
   ∧ w.cell? ⟨B, O + i * 3, none⟩ = some (.slice (some ⟨b, 0, none⟩) Zak[i].path.length c) ∧ w.cell? ⟨B, O + i * 3 + 1, none⟩ = some (.bool Zak[i].one) ∧ w.cell? ⟨B, O + i * 3 + 2, none⟩ = some (.bool Zak[i].needed) := by
 have hl : Zak.length = 34 := by decide +kernel
 obtain ⟨hr, hi2, e⟩ := Zagf (i := i) (by omega)
 obtain ⟨B, O, v, e1, hb, ha, hv, h0, hj⟩ := Pd.at h hi2;rw [e] at hv hj;obtain ⟨b, c, rfl, hc1, hc2, -, -, -, hrd⟩ := hv.slice;exact ⟨B, O, b, c, e1, hb, ha, hc1, hc2, hrd, h0, hj 0 _ rfl, hj 1 _ rfl⟩
theorem Zamh (r : Rule) (b c pb : Nat) (A2 : Option Addr) (c2 : Nat) (P : List ByteArray) (w : World) (hE : Env w) (hr : r ∈ Zak) (hR : Rd w 1 (some ⟨b, 0, none⟩) r.path.length (sv r.path)) (hc1 : w.cell? ⟨pb, 0, none⟩ = some (.slice A2 P.length c2)) (hP : Rd w 1 A2 P.length (sv P)) (hpl : P.length ≤ 100000) (hps : Shw P) :
 Calls prog 84 #[.agg #[.slice (some ⟨b, 0, none⟩) r.path.length c, .bool r.one, .bool r.needed], .pointer (some ⟨pb, 0, none⟩)] w fun e w' => e = .returned (.bool (Zbm r.path P)) ∧ Below w.heap.size w w' := by
 obtain ⟨w0, hw0⟩ : ∃ w0, w.alloc (.cells #[.slice (some ⟨b, 0, none⟩) r.path.length c, .bool r.one, .bool r.needed] 99) = w0 := ⟨_, rfl⟩;have hb0 : Below w.heap.size w w0 := by rw [← hw0]; exact (Yac _ _).alloc (Yaf _) _
 have HC := _root_.Zhd (Zjl (some ⟨b, 0, none⟩) c r.path A2 c2 P w0 (hE.below hb0) (hR.below hb0) (hP.below hb0) (by have := (Zia r hr).2; omega) hpl (Zma r hr) hps)
 have x0 : w0.cell? ⟨w.heap.size, 0, none⟩ = some (.slice (some ⟨b, 0, none⟩) r.path.length c) := by rw [← hw0, World.cell?_alloc_at _ _ _ _ rfl]; rfl
 have y0 : w0.cell? ⟨pb, 0, none⟩ = some (.slice A2 P.length c2) := (hb0.cell (p := ⟨pb, 0, none⟩) (Lib.lt_of_cell hc1)).trans hc1;have HB := _root_.Zhd hb0;clear hE hR hP hc1 hb0 hps;go_enter func84, ntmps84;go_wp2_with fail;refine HC.out.mono ?_;rintro e w2 ⟨rfl, hb2⟩;go_wp2;go_ret;exact ⟨rfl, Zaa HB.out hb2⟩
theorem Zhy : Zak.length = 34 := by decide +kernel
theorem Ztc {f : Rule → Bool} {L : List Rule} {k : Nat} (h : k < L.length) : Zau f k (L.drop k) = if f L[k] then (k : Int) else Zau f (k + 1) (L.drop (k + 1)) := by
 rw [Yay h]; rfl
def Zavl (p : Value) (f : Rule → Bool) (w : World) : Prop := ∀ W, Below w.heap.size w W → ∀ r ∈ Zak, ∀ b c, r.path.length ≤ c → c ≤ maxLen → Rd W 1 (some ⟨b, 0, none⟩) r.path.length (sv r.path) →
 Calls prog 84 #[.agg #[.slice (some ⟨b, 0, none⟩) r.path.length c, .bool r.one, .bool r.needed], p] W fun e w' => e = .returned (.bool (f r)) ∧ Below W.heap.size W w'
theorem Zagv (p : Value) (f : Rule → Bool) (A : Option Addr) (c : Nat) (w : World) (hR : Zoe w A) (hF : Zavl p f w) :
 Calls prog 83 #[.slice A 34 c, .func (.func 84) #[] #[p]] w fun e w' => e = .returned (.int .i64 (Zau f 0 Zak)) ∧ Below w.heap.size w w' := by
 have HR := _root_.Zhd hR;have HF := _root_.Zhd hF;have HL := _root_.Zhd Zhy;have HQ0 : Hid (Zau f 0 Zak = Zau f 0 (Zak.drop 0)) := rfl;clear hR hF;go_enter func83, ntmps83;go_wp2;go_loopw [8] (fun vi wr => ∃ k : Nat, k ≤ 34 ∧ vi = .int .i64 k ∧ Hid (Zau f 0 Zak = Zau f k (Zak.drop k)) ∧ Hid (Below w.heap.size w wr)) (fun vi _ => 34 - (intOf vi).toNat)
 case atStart => exact ⟨0, Yav _, rfl, HQ0, Yac _ _⟩
 case round =>
  clear HQ0;obtain ⟨k, hk, rfl, HQ, HB⟩ := hrel;by_cases hlt : k < 34
  · have hlr : k < Zak.length := by rw [HL.out]; exact hlt
    obtain ⟨B, O, b, cc, rfl, hab, hadd, hc1, hc2, hrd, x0, x1, x2⟩ := (HR.out.below HB.out).one hlr;have HC := _root_.Zhd (HF.out wr HB.out _ (Yat hlr) b cc hc1 hc2 hrd);have hst : Hid (Zau f 0 Zak = if f Zak[k] then (k : Int) else Zau f (k + 1) (Zak.drop (k + 1))) := HQ.out.trans (Ztc hlr)
    generalize Zak[k] = r at *;clear HQ hc1 hc2 hrd;cases hf : f r with
    | true =>
      rw [hf] at hst HC;have HK : Hid (Zau f 0 Zak = (k : Int)) := by show _ = _; rw [hst.out]; rfl
      clear hst hf;go_wp2_with fail;refine HC.out.mono ?_;rintro e w2 ⟨rfl, hb2⟩;have HB2 := _root_.Zhd (Zaa HB.out hb2);clear HC HB hb2 x0 x1 x2;go_wp2;go_ret;exact ⟨Zcg HK.out.symm, HB2.out⟩
    | false =>
      rw [hf] at hst HC;have HK : Hid (Zau f 0 Zak = Zau f (k + 1) (Zak.drop (k + 1))) := by show _ = _; rw [hst.out]; rfl
      clear hst hf;go_wp2_with fail;refine HC.out.mono ?_;rintro e w2 ⟨rfl, hb2⟩;have HB2 := _root_.Zhd (Zaa HB.out hb2);clear HC HB hb2 x0 x1 x2;go_wp2_with fail;go_roundw
      case rel => exact ⟨k + 1, by omega, by go_num, HK, HB2⟩
      case measure => simp [intOf]; omega
  · obtain rfl : k = 34 := by omega
    have HK : Hid (Zau f 0 Zak = -1) := by
     show _ = _;rw [HQ.out, Ybd (by rw [HL.out]; exact Yaf _)]; rfl
    clear HQ;go_wp2;go_ret;exact ⟨Zcg HK.out.symm, HB.out⟩
def Zaug (p q : Value) (f : Rule → Bool) (w : World) : Prop := ∀ W, Below w.heap.size w W → ∀ r ∈ Zak, ∀ b c, r.path.length ≤ c → c ≤ maxLen → Rd W 1 (some ⟨b, 0, none⟩) r.path.length (sv r.path) →
 Calls prog 87 #[.agg #[.slice (some ⟨b, 0, none⟩) r.path.length c, .bool r.one, .bool r.needed], p, q] W fun e w' => e = .returned (.bool (f r)) ∧ Below W.heap.size W w'
theorem Zafn (p q : Value) (f : Rule → Bool) (A : Option Addr) (c : Nat) (w : World) (hR : Zoe w A) (hF : Zaug p q f w) :
 Calls prog 83 #[.slice A 34 c, .func (.func 87) #[] #[p, q]] w fun e w' => e = .returned (.int .i64 (Zau f 0 Zak)) ∧ Below w.heap.size w w' := by
 have HR := _root_.Zhd hR;have HF := _root_.Zhd hF;have HL := _root_.Zhd Zhy;have HQ0 : Hid (Zau f 0 Zak = Zau f 0 (Zak.drop 0)) := rfl;clear hR hF;go_enter func83, ntmps83;go_wp2;go_loopw [8] (fun vi wr => ∃ k : Nat, k ≤ 34 ∧ vi = .int .i64 k ∧ Hid (Zau f 0 Zak = Zau f k (Zak.drop k)) ∧ Hid (Below w.heap.size w wr)) (fun vi _ => 34 - (intOf vi).toNat)
 case atStart => exact ⟨0, Yav _, rfl, HQ0, Yac _ _⟩
 case round =>
  clear HQ0;obtain ⟨k, hk, rfl, HQ, HB⟩ := hrel;by_cases hlt : k < 34
  · have hlr : k < Zak.length := by rw [HL.out]; exact hlt
    obtain ⟨B, O, b, cc, rfl, hab, hadd, hc1, hc2, hrd, x0, x1, x2⟩ := (HR.out.below HB.out).one hlr;have HC := _root_.Zhd (HF.out wr HB.out _ (Yat hlr) b cc hc1 hc2 hrd);have hst : Hid (Zau f 0 Zak = if f Zak[k] then (k : Int) else Zau f (k + 1) (Zak.drop (k + 1))) := HQ.out.trans (Ztc hlr)
    generalize Zak[k] = r at *;clear HQ hc1 hc2 hrd;cases hf : f r with
    | true =>
      rw [hf] at hst HC;have HK : Hid (Zau f 0 Zak = (k : Int)) := by show _ = _; rw [hst.out]; rfl
      clear hst hf;go_wp2_with fail;refine HC.out.mono ?_;rintro e w2 ⟨rfl, hb2⟩;have HB2 := _root_.Zhd (Zaa HB.out hb2);clear HC HB hb2 x0 x1 x2;go_wp2;go_ret;exact ⟨Zcg HK.out.symm, HB2.out⟩
    | false =>
      rw [hf] at hst HC;have HK : Hid (Zau f 0 Zak = Zau f (k + 1) (Zak.drop (k + 1))) := by show _ = _; rw [hst.out]; rfl
      clear hst hf;go_wp2_with fail;refine HC.out.mono ?_;rintro e w2 ⟨rfl, hb2⟩;have HB2 := _root_.Zhd (Zaa HB.out hb2);clear HC HB hb2 x0 x1 x2;go_wp2_with fail;go_roundw
      case rel => exact ⟨k + 1, by omega, by go_num, HK, HB2⟩
      case measure => simp [intOf]; omega
  · obtain rfl : k = 34 := by omega
    have HK : Hid (Zau f 0 Zak = -1) := by
     show _ = _;rw [HQ.out, Ybd (by rw [HL.out]; exact Yaf _)]; rfl
    clear HQ;go_wp2;go_ret;exact ⟨Zcg HK.out.symm, HB.out⟩
theorem Zajx {w : World} {k n b g : Nat} {xs : List Value} (h : Rd w k (some ⟨b, 0, none⟩) n xs) (hne : b ≠ g) (o : Nat) (v : Value) : Rd (w.setCell ⟨g, o, none⟩ v) k (some ⟨b, 0, none⟩) n xs :=
 ⟨h.1, fun hn => by
  obtain ⟨ad, e, hb, hx⟩ := h.2 hn;injection e with e
  subst e
  exact ⟨_, rfl, by simpa using hb, fun j u hu => by
   rw [Zae, World.cell?_setCell_other _ _ _ _ (by intro e'; simp only [Addr.mk.injEq] at e'; omega)]
   have := hx j u hu
   rwa [Zae] at this⟩⟩
def Zany (P : List ByteArray) (w : World) (e : Ending) (w' : World) : Prop :=
 ((Ziz P = none ∧ e = .returned (.tuple #[.agg #[.slice none 0 0, .bool false, .bool false], .bool false])) ∨
  (∃ r b c, Ziz P = some r ∧ r ∈ Zak ∧ e = .returned (.tuple #[.agg #[.slice (some ⟨b, 0, none⟩) r.path.length c, .bool r.one, .bool r.needed], .bool true]) ∧ r.path.length ≤ c ∧ c ≤ maxLen ∧ Rd w' 1 (some ⟨b, 0, none⟩) r.path.length (sv r.path))) ∧ Below w.heap.size w w'
theorem Zaqj (A : Option Addr) (c : Nat) (A2 : Option Addr) (c2 : Nat) (P : List ByteArray) (w : World) (hE : Env w) (hR : Zoe w A) (hP : Rd w 1 A2 P.length (sv P)) (hpl : P.length ≤ 100000) (hps : Shw P) :
 Calls prog 46 #[.slice A 34 c, .slice A2 P.length c2] w (Zany P w) := by
 obtain ⟨w0, hw0⟩ : ∃ w0, (w.alloc (.cells #[.slice A2 P.length c2] 33)).alloc (.cells #[.slice none 0 0, .bool false, .bool false] 99) = w0 := ⟨_, rfl⟩;have hb0 : Below w.heap.size w w0 := by rw [← hw0]; exact ((Yac _ _).alloc (Yaf _) _).alloc (by simp) _
 have y0 : w0.cell? ⟨w.heap.size, 0, none⟩ = some (.slice A2 P.length c2) := by
  rw [← hw0, World.cell?_alloc_lt _ _ _ (by simp), World.cell?_alloc_at _ _ _ _ rfl]; rfl
 have z0 : ∀ j, j < 3 → w0.cell? ⟨w.heap.size + 1, j, none⟩ = (#[Value.slice none 0 0, .bool false, .bool false] : Array Value)[j]? := fun j hj => by
  rw [← hw0, World.cell?_alloc_at _ _ _ _ (by simp)]
 have zf : ∀ j, w0.frozen? ⟨w.heap.size + 1, j, none⟩ = false := fun j => by
  rw [← hw0]; simp
 have hsz : w0.heap.size = w.heap.size + 2 := by rw [← hw0]; simp
 obtain ⟨wb, hwb⟩ : ∃ wb, w.heap.size = wb := ⟨_, rfl⟩
 have HIx := _root_.Zhd (Zagv (.pointer (some ⟨wb, 0, none⟩)) (fun r => Zbm r.path P) A c w0 (hR.below hb0) (fun W hbW r hr b c hc1 hc2 hrd => by
  have hbw := Zaa hb0 hbW;exact Zamh r b c wb A2 c2 P W (hE.below hbw) hr hrd ((hbW.cell (p := ⟨wb, 0, none⟩) (by show wb < _; rw [hsz, hwb]; omega)).trans (by rw [← hwb]; exact y0)) (hP.below hbw) hpl hps))
 have HR : Hid (Zoe w0 A) := hR.below hb0;have HB := _root_.Zhd hb0;have HZ := _root_.Zhd z0;have HZF := _root_.Zhd zf;have HSZ := _root_.Zhd hsz;have HWB := _root_.Zhd hwb;have HX : Hid (Ziz P = Zak.find? fun r => Zbm r.path P) := rfl
 have HFF := _root_.Zhd (Zex (f := fun r => Zbm r.path P) Zak 0)
 clear hE hR hP hps hb0 y0 z0 zf hsz;generalize Zau (fun r => Zbm r.path P) 0 Zak = ff at *
 go_enter func46, ntmps46;rcases HFF.out with ⟨h1, h2⟩ | ⟨j, hj, h1, h2⟩
 · subst h1;have HN : Hid (Ziz P = none) := by show _ = _; rw [HX.out, h2]
   clear h2 HX;go_wp2_with fail;refine HIx.out.mono ?_;rintro e w2 ⟨rfl, hb2⟩;have hlt : wb + 1 < w0.heap.size := by rw [HSZ.out, HWB.out]; omega
   have c0 : w2.cell? ⟨wb + 1, 0, none⟩ = some (.slice none 0 0) := (hb2.cell (p := ⟨wb + 1, 0, none⟩) hlt).trans (by rw [← HWB.out, HZ.out 0 (by omega)]; rfl)
   have c1 : w2.cell? ⟨wb + 1, 1, none⟩ = some (.bool false) := (hb2.cell (p := ⟨wb + 1, 1, none⟩) hlt).trans (by rw [← HWB.out, HZ.out 1 (by omega)]; rfl)
   have c2 : w2.cell? ⟨wb + 1, 2, none⟩ = some (.bool false) := (hb2.cell (p := ⟨wb + 1, 2, none⟩) hlt).trans (by rw [← HWB.out, HZ.out 2 (by omega)]; rfl)
   have zf : ∀ o, w2.frozen? ⟨wb + 1, o, none⟩ = false := fun o => (hb2.frozen (p := ⟨wb + 1, o, none⟩) hlt).trans (by rw [← HWB.out]; exact HZF.out o)
   have hB : Hid (Below w.heap.size w w2) := Zaa HB.out hb2;clear HIx HFF HZ HZF HR hb2 HB;go_wp2;refine bodyPost_ret (v := .tuple #[.agg #[.slice none 0 0, .bool false, .bool false], .bool false]) (by simp [results, results46, go_sem, c0, c1, c2]) rfl ⟨.inl ⟨HN.out, rfl⟩, ?_⟩
   repeat (first | exact hB.out | refine Below.setCell ?_ (by show w.heap.size ≤ wb + 1; rw [HWB.out]; omega) _)
 · have hlr : j < Zak.length := hj;have HN : Hid (Ziz P = some Zak[j]) := by show _ = _; rw [HX.out, h2]
   have hmem := Yat hlr;have hj34 : j < 34 := by rw [Zhy] at hj; exact hj
   rw [Ybf] at h1;subst h1;clear h2 HX hj;go_wp2_with fail;refine HIx.out.mono ?_;rintro e w2 ⟨rfl, hb2⟩;have hlt : wb + 1 < w0.heap.size := by rw [HSZ.out, HWB.out]; omega
   have c0 : w2.cell? ⟨wb + 1, 0, none⟩ = some (.slice none 0 0) := (hb2.cell (p := ⟨wb + 1, 0, none⟩) hlt).trans (by rw [← HWB.out, HZ.out 0 (by omega)]; rfl)
   have c1 : w2.cell? ⟨wb + 1, 1, none⟩ = some (.bool false) := (hb2.cell (p := ⟨wb + 1, 1, none⟩) hlt).trans (by rw [← HWB.out, HZ.out 1 (by omega)]; rfl)
   have c2 : w2.cell? ⟨wb + 1, 2, none⟩ = some (.bool false) := (hb2.cell (p := ⟨wb + 1, 2, none⟩) hlt).trans (by rw [← HWB.out, HZ.out 2 (by omega)]; rfl)
   have zf : ∀ o, w2.frozen? ⟨wb + 1, o, none⟩ = false := fun o => (hb2.frozen (p := ⟨wb + 1, o, none⟩) hlt).trans (by rw [← HWB.out]; exact HZF.out o)
   have hB : Hid (Below w.heap.size w w2) := Zaa HB.out hb2;obtain ⟨B, O, b, cc, rfl, hab, hadd, hc1, hc2, hrd, x0, x1, x2⟩ := (HR.out.below hb2).one hlr;have hrl := Zia _ hmem;obtain ⟨g0, hg0, hrd0⟩ := hrd.2 (by omega)
   have hbb : b < w2.heap.size := by injection hg0 with e; subst e; exact hrd0.1
   have hbne : b ≠ wb + 1 := by
    rintro rfl;have hc := hrd0.2 0 _ (Zja (by omega))
    injection hg0 with e
    subst e;rw [Zae, c0] at hc;cases hc
   have HRD : Hid (Rd w2 1 (some ⟨b, 0, none⟩) Zak[j].path.length (sv Zak[j].path)) := hrd;have HC1 := _root_.Zhd hc1;have HC2 := _root_.Zhd hc2;have HBN := _root_.Zhd hbne;clear HIx HFF HZ HZF HR hb2 HB hrd hrd0 hg0 hc1 hc2 hrl hbne;generalize Zak[j] = r at *;go_wp2;refine bodyPost_ret (v := .tuple #[.agg #[.slice (some ⟨b, 0, none⟩) r.path.length cc, .bool r.one, .bool r.needed], .bool true]) (by simp [results, results46, go_sem, c0, c1, c2]) rfl ⟨.inr ⟨r, b, cc, HN.out, hmem, rfl, HC1.out, HC2.out, ?_⟩, ?_⟩
   · exact Zajx (Zajx (Zajx HRD.out HBN.out _ _) HBN.out _ _) HBN.out _ _
   · repeat (first | exact hB.out | refine Below.setCell ?_ (by show w.heap.size ≤ wb + 1; rw [HWB.out]; omega) _)
end Go.Proofs.Zq
