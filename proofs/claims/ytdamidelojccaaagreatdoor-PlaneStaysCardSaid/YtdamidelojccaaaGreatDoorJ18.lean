import Derived.Test.YtdamidelojccaaaGreatDoorJ17
set_option maxHeartbeats 8000000
set_option maxRecDepth 100000
namespace Go.Proofs.Zq
open Tryz
open Go Go.RowKit Go.Sort Sch Adr Mtr Tre
theorem Zavx {w : World} {A : Option Addr} {P : List ByteArray} {c : Nat} (h : Rd w 1 A P.length (sv P)) (hz : Zd A) (hp : 0 < P.length) (h1 : P.length ≤ c) (h2 : c ≤ maxLen) : ∃ b, A = some ⟨b, 0, none⟩ ∧ Pv w (.slice (some ⟨b, 0, none⟩) P.length c) P := by
 obtain ⟨ad, e, -⟩ := h.2 hp;obtain ⟨b, e2⟩ := hz ad e;subst e; subst e2;exact ⟨b, rfl, b, c, rfl, h1, h2, hp, h⟩
theorem Zyo (A : Option Addr) (cap : Nat) (L : List Line) (k : Nat) (w : World) (hR : Rd w 3 A L.length (lines L)) (hcap : L.length ≤ cap) (hc : cap ≤ maxLen) (hr : Zab L = true) (hk : k < L.length) :
 Calls prog 48 #[.slice A L.length cap, .int .i64 k] w fun e w' => e = .returned (.int .i64 (endB L k : Nat)) ∧ Below w.heap.size w w' := by
 have := Zru A cap L k w hR hcap hc;rw [Zfc hr hk, Yan rfl, Ybq] at this;exact this
def Zaou (L : List Line) (w : World) (e : Ending) (w' : World) : Prop :=
 ((Zab L = true ∧ ∃ v, e = .returned (.tuple #[v, .int .i64 0]) ∧ Pl w' w.heap.size 104 2 v ((Zkh L).map Zdt)) ∨ (Zab L = false ∧ e = .returned (.tuple #[.slice none 0 0, .int .i64 1]))) ∧ Below w.heap.size w w'
theorem Zaph (A : Option Addr) (cap : Nat) (L : List Line) (w : World) (hR : Rd w 3 A L.length (lines L)) (hcap : L.length ≤ cap) (hc : cap ≤ maxLen) (hr : Zab L = false) :
 Calls prog 23 #[.slice A L.length cap] w fun e w' => e = .returned (.tuple #[.slice none 0 0, .int .i64 1]) ∧ Below w.heap.size w w' := by
 have HC := Zbe A cap L w hR hcap hc;rw [hr] at HC;have HC2 := _root_.Zhd HC;clear HC hR;go_enter func23, ntmps23;go_wp2_with fail;refine HC2.out.mono ?_;rintro e w2 ⟨rfl, hb2⟩;go_wp2_with fail;refine bodyPost_ret (results_tmp2 rfl _ _ _) rfl ?_;exact ⟨rfl, hb2⟩
theorem Zanz {L : List Line} (hr : Zab L = true) {k : Nat} (hk : k < L.length) : (pa L k).length ≤ 16 ∧ 0 < (pa L k).length ∧ Shw (pa L k) := by
 have hd := (Zad hr).2.1;have h1 := Zbw hd hk;have h2 := Zcf hd hk;exact ⟨by omega, by omega, by rw [← Znw hd hk]; exact Ztn hr hk⟩
theorem Zarx {P : List ByteArray} {r : Rule} (h : Ziz P = some r) : r.path.length = P.length := Zmw (by have := List.find?_some h; exact this)
theorem Zaor (P : List ByteArray) : (Zeb P).length ≤ 34 := by have := Zlv P 34; rwa [Zmb] at this
theorem Zxc (L : List Line) (i : Nat) (r : Rule) (P : List ByteArray) : (Zrq L i r P).length ≤ 36 := by
 have h1 := Znm L i P (Zeb P);have h2 := Zaor P
 have h3 : (oneF L i r P).length ≤ 1 := by
  rcases Ztf L i r P with ⟨-, h⟩ | ⟨-, -, h⟩ | ⟨-, -, h⟩ | ⟨-, -, h⟩ <;> rw [h] <;> simp
 have h4 : (Ztb L i r P).length ≤ 1 := by unfold Ztb; split <;> simp
 unfold Zrq;rw [Yaj, Yaj]; omega
theorem Zaad (L : List Line) (i : Nat) : (Zjw L i).length ≤ 36 := by
 unfold Zjw;split
 · split
   · simp
   · exact Zxc _ _ _ _
 · simp
theorem Zalw (L : List Line) (k : Nat) : (Zcn L k).length ≤ 36 * k := by
 induction k with
 | zero => simp [Zagj]
 | succ k ih =>
   have := Zaad L k;unfold Zcn at ih ⊢;rw [Ydn, Yck, Yaj, Ybt, List.flatMap_nil, Ybg]; omega
theorem Zzn (F : List Zpd) : ∀ y ∈ F.map Zdt, ∀ u ∈ y.2, u.oneCell' = true := by
 intro y hy;obtain ⟨f, -, rfl⟩ := Yda.1 hy;exact Zet f
theorem Zajk (A : Option Addr) (cap : Nat) (L : List Line) (w : World) (hE : Env w) (hR : Rd w 3 A L.length (lines L)) (hcap : L.length ≤ cap) (hc : cap ≤ maxLen) (hr : Zab L = true) :
 Calls prog 23 #[.slice A L.length cap] w fun e w' => (∃ v, e = .returned (.tuple #[v, .int .i64 0]) ∧ Pl w' w.heap.size 104 2 v ((Zkh L).map Zdt)) ∧ Below w.heap.size w w' := by
 obtain ⟨i0, hii, hz0, hz1, hz2⟩ := info_parts Ztx;have HRg := Zbe A cap L w hR hcap hc;rw [hr] at HRg;have h200 := Zas hr;have HRi := _root_.Zhd HRg;have HRu := _root_.Zhd (fun W (hb : Below w.heap.size w W) => Zamo W (hE.below hb))
 have HPa := _root_.Zhd (fun (k : Nat) (hk : k < L.length) W (hb : Below w.heap.size w W) => Ztp A cap L k W (hR.below hb) hcap hc hr hk)
 have HEn := _root_.Zhd (fun (k : Nat) (hk : k < L.length) W (hb : Below w.heap.size w W) => Zyo A cap L k W (hR.below hb) hcap hc hr hk)
 have HLi := _root_.Zhd (fun (k : Nat) (hk : k < L.length) Ar cr r b c pb pc P W (hb : Below w.heap.size w W) => Zarw A cap L k Ar cr r b c pb pc P W (hE.below hb) (hR.below hb) hcap hc hr hk)
 have HFi := _root_.Zhd (fun Ar cr A2 c2 P W (hb : Below w.heap.size w W) => Zaqj Ar cr A2 c2 P W (hE.below hb))
 have HUn := _root_.Zhd (fun Ar cr A2 c2 P W (hb : Below w.heap.size w W) => Zzs Ar cr A2 c2 P W (hE.below hb))
 have HPP : Hid (∀ k, k < L.length → Zek L k = pa L k) := fun k hk => Znw (Zad hr).2.1 hk
 have HSh := _root_.Zhd (fun (k : Nat) (hk : k < L.length) => Zanz hr hk)
 have HA0 : Hid (0 < L.length → Zep (pa L 0) = true) := fun h => Zafz hr h
 have HKn : Hid (∀ k, k < L.length → Zep (pa L k) = true → ∀ r, Ziz (pa L k) = some r → Zcn L (k + 1) = Zcn L k ++ Zrq L k r (pa L k) ∧ (k + 1 < L.length → Zep (pa L (k + 1)) = true)) := fun k hk ha r h =>
  ⟨Zabc ha h, fun h2 => Zafc hr h2 ha (by unfold Zwy; rw [h]; rfl)⟩
 have HSk : Hid (∀ k, k < L.length → Zep (pa L k) = true → Ziz (pa L k) = none → Zcn L (endB L k) = Zcn L k ++ [(pa L k, Zfz (pa L k))] ∧ (endB L k < L.length → Zep (pa L (endB L k)) = true)) := fun k hk ha h =>
  ⟨Zagd hr hk ha h, fun h2 => Zahs hr hk h2 ha⟩
 have HEb := _root_.Zhd (fun (k : Nat) (hk : k < L.length) => Zbb L k hk)
 have HCL := _root_.Zhd (Zalw L);have HLL := _root_.Zhd (Zxc L);have HAll := _root_.Zhd (Zamb (L := L));clear hE hR HRg hr;go_enter func23, ntmps23;go_wp2_with fail;refine HRi.out.mono ?_;rintro e w1 ⟨rfl, hb1⟩;have HB1 := _root_.Zhd hb1;clear HRi hb1;go_wp2_with fail;refine (HRu.out w1 HB1.out).mono ?_;rintro e w2 ⟨⟨v2, rfl, hv2⟩, hb2⟩;have HB2 := _root_.Zhd (Zaa HB1.out hb2);obtain ⟨Ar, cr, rfl, hcr1, hcr2, hRu⟩ := Zafp hv2;have HRl := _root_.Zhd hRu;clear HRu hv2 hRu hb2 HB1;go_wp2;go_loopw [5, 6] (fun v vi wr => ∃ k : Nat, k ≤ L.length ∧ vi = .int .i64 k ∧ Hid (k < L.length → Zep (pa L k) = true) ∧ Hid (Pl wr w2.heap.size 104 2 v ((Zcn L k).map Zdt)) ∧ Hid (Below w2.heap.size w2 wr)) (fun _ vi _ => L.length - (intOf vi).toNat)
 case atStart => exact ⟨0, Yav _, rfl, HA0, Pl.nil _ _ _ _, Yac _ _⟩
 case round =>
  clear HA0;obtain ⟨k, hk, rfl, HA, HP, HB⟩ := hrel;by_cases hlt : k < L.length
  · have ha := HA.out hlt;have HBw := _root_.Zhd (Zaa HB2.out HB.out);have HPk := HPa.out k hlt wr HBw.out;have hks := HKn.out k hlt ha;have hss := HSk.out k hlt ha;have hsh := HSh.out k hlt;have HEk := _root_.Zhd (HEn.out k hlt);have HLk := _root_.Zhd (HLi.out k hlt);have HEB := HEb.out k hlt;have hcl := HCL.out k;have hll := fun r => HLL.out k r (pa L k)
    rw [HPP.out k hlt] at HPk;generalize pa L k = P at *;have HKS := _root_.Zhd hks;have HSS := _root_.Zhd hss;have HSP := _root_.Zhd hsh.2.2;have HLG := _root_.Zhd hll;obtain ⟨hp16, hp0, -⟩ := hsh;unfold Zvb at HPk;clear HA ha hks hss hll;go_wp2_with fail;refine HPk.mono ?_;rintro e w3 ⟨A3, c3, rfl, hc31, hc32, hrd, hz, hb3⟩;obtain ⟨pb, rfl, hpv⟩ := Zavx hrd hz hp0 hc31 hc32;have HPv := _root_.Zhd hpv;have HB3 := _root_.Zhd (Zaa HB.out hb3);have HBw3 := _root_.Zhd (Zaa HB2.out HB3.out);have HP3 := _root_.Zhd (HP.out.below hb3);have HF := _root_.Zhd (HFi.out Ar cr (some ⟨pb, 0, none⟩) c3 P w3 HBw3.out (HRl.out.below HB3.out) hrd (by omega) HSP.out)
    clear HPk HP HB HBw hpv hrd hz hb3;go_wp2_with fail;refine HF.out.mono ?_;clear HF;unfold Zany;rintro e w4 ⟨⟨hno, rfl⟩ | ⟨r, b, c, hyes, hmem, rfl, hrc1, hrc2, hrrd⟩, hb4⟩
    · have hS := HSS.out hno;have HB4 := Zaa HB3.out hb4;have HP4 := HP3.out.below hb4;have HPv4 := HPv.out.below hb4;clear HKS HSS HP3 HB3 HPv hb4 HBw3;obtain ⟨wo, hwo⟩ : ∃ wo, w4.alloc (.cells #[.slice none 0 0, .bool false, .bool false] 99) = wo := ⟨_, rfl⟩;have hbo : Below w4.heap.size w4 wo := by rw [← hwo]; exact (Yac _ _).alloc (Yaf _) _
      have HBo := _root_.Zhd (Zaa HB4 hbo);have HPo := _root_.Zhd (HP4.below hbo);have HPvo := _root_.Zhd (HPv4.below hbo);have HUk := _root_.Zhd (HUn.out Ar cr (some ⟨pb, 0, none⟩) c3 P wo (Zaa HB2.out HBo.out) (HRl.out.below HBo.out) HPvo.out.rd.1 (by omega) hc31 hc32 (by omega) HSP.out)
      have HST := _root_.Zhd hS.1;have HAL := _root_.Zhd hS.2;generalize Zfz P = u at *;have HWO := _root_.Zhd hwo;clear HB4 HP4 HPv4 hbo hS hno hwo;go_wp2_with fail;rw [HWO.out];refine HUk.out.mono ?_;rintro e w5 ⟨rfl, hb5⟩;have HB5 := _root_.Zhd (Zaa HBo.out hb5);have HP5 := _root_.Zhd (HPo.out.below hb5);have HPv5 := _root_.Zhd (HPvo.out.below hb5);clear HUk HPo HPvo HBo hb5 HWO;go_wp2_with (at_builtin; refine Zmm rfl _ _ 71 rfl w2 w5 104 i0 _ 2 32 underlying71 hii hz0 hz1 hz2 rfl (by decide) (by decide) HP5.out HB5.out rfl (.slice (some ⟨pb, 0, none⟩) P.length c3) (Zdt (P, u)) rfl (Zet _) HPv5.out rfl (by rw [Yax]; omega) ?_; intro v' w' hown' hb')
      have HB6 := _root_.Zhd hb';have HP6 := _root_.Zhd hown';clear hown' hb' HP5 HB5 HPv5;refine (HEk.out _ (Zaa HB2.out HB6.out)).mono ?_;rintro e w7 ⟨rfl, hb7⟩;obtain ⟨q, hq⟩ : ∃ q, endB L k = q + 1 := ⟨endB L k - 1, by omega⟩
      rw [hq] at HST HAL HEB ⊢;have hq1 : ((q + 1 : Nat) : Int) - 1 = (q : Int) := by omega
      have HB7 := _root_.Zhd (Zaa HB6.out hb7)
      have HP7 : Hid (Pl w7 w2.heap.size 104 2 v' ((Zcn L (q + 1)).map Zdt)) := by
       show Pl _ _ _ _ _ _;rw [HST.out, Ybs]; exact HP6.out.below hb7
      clear HP6 HB6 hb7 hq HST HEk;go_wp2_with fail;go_roundw
      case rel => exact ⟨q + 1, by omega, by go_num, HAL, HP7, HB7⟩
      case measure => simp [intOf]; omega
    · have hS := HKS.out r hyes;have HB4 := Zaa HB3.out hb4;have HP4 := HP3.out.below hb4;have HPv4 := HPv.out.below hb4;have hrl := Zarx hyes;have hcl2 := HLG.out r;clear HKS HSS HP3 HB3 HPv hb4 HBw3 HLG;obtain ⟨wo, hwo⟩ : ∃ wo, w4.alloc (.cells #[.slice (some ⟨b, 0, none⟩) r.path.length c, .bool r.one, .bool r.needed] 99) = wo := ⟨_, rfl⟩;have hbo : Below w4.heap.size w4 wo := by rw [← hwo]; exact (Yac _ _).alloc (Yaf _) _
      have HBo := _root_.Zhd (Zaa HB4 hbo);have HPo := _root_.Zhd (HP4.below hbo);have HPvo := HPv4.below hbo;have HLk2 := _root_.Zhd (HLk.out Ar cr r b c pb c3 P wo (Zaa HB2.out HBo.out) (HRl.out.below HBo.out) hmem (hrrd.below hbo) hrc1 HPvo hrl (by omega) HSP.out)
      have HST := _root_.Zhd hS.1;have HAL := _root_.Zhd hS.2;generalize Zrq L k r P = lf at *;have HWO := _root_.Zhd hwo;clear HB4 HP4 HPv4 HPvo hbo hS hyes hwo hrrd hrl HLk;go_wp2_with fail;rw [HWO.out];refine HLk2.out.mono ?_;rintro e w5 ⟨⟨v5, rfl, hv5⟩, hb5⟩;have hyc := Zzn lf;have hyl : (lf.map Zdt).length = lf.length := Yax _;obtain ⟨ys, hys⟩ : ∃ ys, lf.map Zdt = ys := ⟨_, rfl⟩;rw [hys] at hv5 hyc hyl;have HYS := _root_.Zhd hys;have HYC := _root_.Zhd hyc;have HYL : Hid (((Zcn L k).map Zdt).length + ys.length ≤ 1000000000) := by show _ ≤ _; rw [Yax]; omega
      obtain ⟨A5, c5, rfl, hc51, hc52, hpd5, hn5⟩ := hv5.read;have HB5 := _root_.Zhd (Zaa HBo.out hb5);have HP5 := _root_.Zhd (HPo.out.below hb5);have HPD := _root_.Zhd hpd5;have HN5 := _root_.Zhd hn5;clear HLk2 HPo HBo hb5 HWO hv5 hpd5 hn5 hys hyc hyl;go_wp2_with (at_builtin; refine Zank rfl _ _ 71 rfl w2 w5 104 i0 _ 2 32 underlying71 hii hz0 hz1 hz2 rfl (by decide) (by decide) HP5.out HB5.out rfl A5 c5 ys rfl HPD.out HN5.out HYC.out HYL.out ?_; intro v' w' hown' hb')
      have HB6 := _root_.Zhd hb'
      have HP6 : Hid (Pl w' w2.heap.size 104 2 v' ((Zcn L (k + 1)).map Zdt)) := by
       show Pl _ _ _ _ _ _;rw [HST.out, Ybs, HYS.out]; exact hown'
      clear hown' hb' HP5 HB5 HPD HN5 HST HYS HYC HYL;go_roundw
      case rel => exact ⟨k + 1, by omega, by go_num, HAL, HP6, HB6⟩
      case measure => simp [intOf]; omega
  · obtain rfl : k = L.length := by omega
    have HPF := HP.out;rw [HAll.out] at HPF;have HPG := _root_.Zhd (HPF.base HB2.out.size);have HBG := _root_.Zhd (Zaa HB2.out HB.out);clear HP HB HPF HA;go_wp2_with fail;refine bodyPost_ret (results_tmp2 rfl _ _ _) rfl ?_;exact ⟨⟨_, rfl, HPG.out⟩, HBG.out⟩
theorem Zanh (A : Option Addr) (cap : Nat) (L : List Line) (w : World) (hE : Env w) (hR : Rd w 3 A L.length (lines L)) (hcap : L.length ≤ cap) (hc : cap ≤ maxLen) :
 Calls prog 23 #[.slice A L.length cap] w (Zaou L w) := by
 cases hr : Zab L with
 | false => exact (Zaph A cap L w hR hcap hc hr).mono fun e w' ⟨h1, h2⟩ => ⟨.inr ⟨hr, h1⟩, h2⟩
 | true => exact (Zajk A cap L w hE hR hcap hc hr).mono fun e w' ⟨⟨v, h1, h3⟩, h2⟩ => ⟨.inl ⟨hr, v, h1, h3⟩, h2⟩
end Go.Proofs.Zq
namespace Sch
open Go Go.Lib Adr Mtr Tre
end Sch
namespace Go.Proofs.Zq
open Tryz
open Go Go.RowKit Go.Sort Sch Adr Mtr Tre
end Go.Proofs.Zq
namespace Sch
open Go Go.Lib Adr Mtr Tre
end Sch
namespace Go.Proofs.Zq
open Tryz
open Go Go.RowKit Go.Sort Sch Adr Mtr Tre
end Go.Proofs.Zq
namespace Sch
open Go Go.Lib Adr Mtr Tre
def atOf (f : Nat → Bool) (d : Nat) : List Nat → Nat
 | [] => d
 | k :: l => if f k then k else atOf f d l
theorem Zuk {f : Nat → Bool} {d : Nat} : ∀ {K : List Nat}, K.Pairwise (· < ·) → ∀ k ∈ K, k < atOf f d K → f k = false
 | [], _, k, h, _ => by cases h
 | q :: K, hp, k, h, hl => by
   unfold atOf at hl;obtain ⟨h1, h2⟩ := Ycb.1 hp;cases hq : f q with
   | true =>
     rw [hq, Yan rfl] at hl;rcases Yaw.1 h with e | e
     · omega
     · have := h1 k e; omega
   | false =>
     rw [hq, Yab (by simp)] at hl
     rcases Yaw.1 h with e | e
     · rw [e]; exact hq
     · exact Zuk h2 k e hl
theorem Zqy {f : Nat → Bool} {d : Nat} : ∀ (K : List Nat), atOf f d K = d ∨ (atOf f d K ∈ K ∧ f (atOf f d K) = true)
 | [] => .inl rfl
 | q :: K => by
   unfold atOf;cases hq : f q with
   | true => right; simp [hq]
   | false =>
     rw [Yab (by simp)]
     rcases Zqy K with h | ⟨h1, h2⟩
     · exact .inl h
     · exact .inr ⟨Ycg _ h1, h2⟩
theorem Zxq {f : Nat → Bool} {d : Nat} {K : List Nat} {j : Nat} (h : j < K.length) : atOf f d (K.drop j) = if f K[j] then K[j] else atOf f d (K.drop (j + 1)) := by
 rw [Yay h]; rfl
def gtAt (L : List Line) (s : ByteArray) (k : Nat) : Bool := Op.bytesLess s.toList (Zbd L k).toList
def atW (L : List Line) (s : ByteArray) : Nat := atOf (gtAt L s) L.length (Zaq L)
theorem Zko (L : List Line) : (Zaq L).Pairwise (· < ·) := by
 unfold Zaq kidsTo;exact List.Pairwise.filter _ List.pairwise_lt_range
theorem Zaxg (L : List Line) (s : ByteArray) : atW L s ≤ L.length := by
 rcases Zqy (f := gtAt L s) (d := L.length) (Zaq L) with h | ⟨h, -⟩
 · exact Nat.le_of_eq h
 · have := (Zba.1 h).1;unfold atW; omega
section
variable {L : List Line} (hr : Zab L = true) {s : ByteArray} (hn : ¬ [s] ∈ Zaf L)
include hr
theorem Zarg {i : Nat} (hi : i < L.length) : ∃ m a t, m ≤ i ∧ m ∈ Zaq L ∧ Zbd L m = a ∧ pa L m = [a] ∧ pa L i = a :: t := by
 obtain ⟨-, hd, -⟩ := Zad hr;have hl := Zbw hd hi;obtain ⟨m, hm, e⟩ := Zom hd hi (q := 1) (by omega) (by omega)
 cases hp : pa L i with
 | nil => rw [hp] at hl; simp at hl
 | cons a t =>
   rw [hp] at e;have hlm := Zbw hd (show m < L.length by omega)
   have e : pa L m = [a] := e;have hdm := Zcf hd (show m < L.length by omega)
   rw [e] at hlm;simp only [Yby] at hlm;have h0 : Zan L m = 0 := by omega
   have hw := Zgg hr (show m < L.length by omega)
   rw [e] at hw;exact ⟨m, a, t, hm, Zba.2 ⟨by omega, by omega, h0⟩, by rw [← hw]; rfl, e, rfl⟩
include hn
theorem Zaon {i : Nat} (hi : i < L.length) (h : i < atW L s) : pLt (pa L i) [s] := by
 obtain ⟨m, a, t, h1, h2, h3, h4, h5⟩ := Zarg hr hi;have hf := Zuk (f := gtAt L s) (d := L.length) (Zko L) m h2 (by unfold atW at h; omega)
 unfold gtAt at hf;rw [h3, Proofs.bytesLess_eq, decide_eq_false_iff_not] at hf;have hne : a ≠ s := fun e => hn (Zbt.2 ⟨m, by omega, by rw [h4, e]⟩)
 rw [h5];refine Zir ?_;rcases List.le_iff_lt_or_eq.1 (List.not_lt.1 hf) with h | h
 · exact h
 · exact absurd (Zjj h) hne
omit hn in
theorem Zajq {i : Nat} (hi : i < L.length) (h : atW L s ≤ i) : pLt [s] (pa L i) := by
 rcases Zqy (f := gtAt L s) (d := L.length) (Zaq L) with e | ⟨h1, h2⟩
 · unfold atW at h; omega
 · have hk := Zba.1 h1;have hd := (Zad hr).2.1;have hw := Zgg hr hk.1;have hlm := Zbw hd hk.1;rw [hk.2.2] at hlm;obtain ⟨a, ha⟩ := Yel.1 hlm;change Op.bytesLess s.toList (Zbd L (atOf (gtAt L s) L.length (Zaq L))).toList = true at h2;rw [Proofs.bytesLess_eq, Yao, ← hw, ha] at h2;have h3 : pLt [s] (pa L (atOf (gtAt L s) L.length (Zaq L))) := by rw [ha]; exact Zir h2
   rcases Ybp (atOf (gtAt L s) L.length (Zaq L)) i with g | g
   · exact Zcb h3 (Zol hr g hi)
   · have : atOf (gtAt L s) L.length (Zaq L) = i := by unfold atW at h; omega
     rw [this] at h3; exact h3
end
end Sch
namespace Lns
open Go Tre
def insB (L : List Line) (k : Nat) (l : Line) : List Line := L.take k ++ (l :: L.drop k)
theorem Zin {L : List Line} {k : Nat} (l : Line) : (insB L k l).length = L.length + 1 := by
 unfold insB;rw [Yaj, Ybi, Yad, Yam]; omega
end Lns
namespace Go.Proofs.Zq
open Tryz
open Go Go.RowKit Tre Lns
theorem Zha : (prog.info? 62).map (fun i => (i.zero, i.size, i.bytes)) = some (some (.agg #[.int .i64 0, .string ⟨#[]⟩, .int .i64 0]), 3, 32) := by kernel_rfl
theorem Zif (L : List Line) : ∀ u ∈ lines L, u.oneCell' = true := by
 intro u hu;unfold lines at hu;obtain ⟨l, -, hl⟩ := Ydi.1 hu;exact cells_one l u hl
end Go.Proofs.Zq
namespace Lns
open Go Go.Lib Adr Mtr Tre Sch
def Zbq (L : List Line) (U : List ByteArray) (s : ByteArray) : Nat :=
 match Zar L U with
 | some a => atOf (gtAt L s) (endB L a) (kidsB L a)
 | none => atOf (gtAt L s) L.length (Zaq L)
def wAt (P : List ByteArray) (d : Nat) : ByteArray := P.getD d ⟨#[]⟩
def Zdn (P : List ByteArray) : Nat → Nat → List Line → Option (List Line)
 | 0, _, out => some out
 | f + 1, d, out =>
   if (Zar out (P.take (d + 1))).isSome then Zdn P f (d + 1) out
   else if 200 ≤ out.length then none
   else Zdn P f (d + 1) (insB out (Zbq out (P.take d) (wAt P d)) ⟨d, wAt P d, 0⟩)
def Zei (P : List ByteArray) : Bool := decide (0 < P.length) && P.all fun s => decide (s.size ≤ 40)
def addB (L : List Line) (P : List ByteArray) : List Line × Int :=
 if Zab L = false ∨ Zei P = false then (L, 1)
 else if 16 < P.length then (L, 6)
 else match Zdn P P.length 0 L with
  | some M => (M, 0)
  | none => (L, 5)
theorem beside : ∀ {U b : List ByteArray} (t : List ByteArray), pLt U b → (∀ s, b ≠ U ++ s) → pLt (U ++ t) b
 | [], b, _, _, h => absurd rfl (h b)
 | x :: U, [], _, h, _ => absurd h (Zim _)
 | x :: U, y :: b, t, h, hn => by
   rw [Ych, Zeh];rcases Zeh.1 h with h1 | ⟨rfl, h1⟩
   · exact .inl h1
   · exact .inr ⟨rfl, beside t h1 fun s e => hn s (by rw [e, Ych])⟩
theorem Zrn (L : List Line) (i : Nat) : (kidsB L i).Pairwise (· < ·) := by
 unfold kidsB kidsTo;exact List.Pairwise.filter _ List.pairwise_lt_range
section
variable {L : List Line} (hr : Zab L = true) {s : ByteArray}
include hr
omit hr in
theorem Zpy (U : List ByteArray) (h : U = []) : Zbq L U s = atW L s := by
 subst h;unfold Zbq;have : Zar L [] = none := by unfold Zar; rw [Yan (.inl rfl)]
 rw [this]; rfl
theorem Zsc {a : Nat} (ha : a < L.length) : Zbq L (pa L a) s = atOf (gtAt L s) (endB L a) (kidsB L a) := by
 unfold Zbq; rw [Zum hr ha]
theorem Zanl {a : Nat} (ha : a < L.length) : Zbq L (pa L a) s ≤ endB L a := by
 rw [Zsc hr ha];rcases Zqy (f := gtAt L s) (d := endB L a) (kidsB L a) with e | ⟨h1, -⟩
 · omega
 · have := (Zba.1 h1).1; omega
theorem Zwj {U : List ByteArray} (hU : U = [] ∨ U ∈ Zaf L) : Zbq L U s ≤ L.length := by
 rcases hU with hU | hU
 · rw [Zpy U hU]; exact Zaxg L s
 · obtain ⟨a, ha, rfl⟩ := Zbt.1 hU;have := Zanl hr (s := s) ha;have := Zbb L a ha;omega
theorem Zadi {U : List ByteArray} (hU : U = [] ∨ U ∈ Zaf L) (hn : ¬ U ++ [s] ∈ Zaf L) {i : Nat} (hi : i < L.length) (h : i < Zbq L U s) : pLt (pa L i) (U ++ [s]) := by
 rcases hU with hU | hU
 · rw [Zpy U hU] at h;subst hU;exact Zaon hr hn hi h
 · obtain ⟨a, ha, rfl⟩ := Zbt.1 hU;have hle := Zanl hr (s := s) ha;rw [Zsc hr ha] at h hle;by_cases h1 : i ≤ a
   · have hp : pLt (pa L a) (pa L a ++ [s]) := Zkt _ _ _;rcases Ybp i a with g | g
     · exact Zcb (Zol hr g ha) hp
     · obtain rfl : i = a := by omega
       exact hp
   · obtain ⟨t, ht⟩ := (Zdo hr ha hi).2 ⟨by omega, by omega⟩
     cases t with
     | nil => rw [Ybg] at ht; exact absurd (Zacc hr hi ha ht) (by omega)
     | cons x t =>
       have hd := (Zad hr).2.1;obtain ⟨m, hm, e⟩ := Zom hd hi (q := (pa L a).length + 1) (by omega) (by rw [ht]; simp)
       have e2 : pa L m = pa L a ++ [x] := by
        rw [e, ht, List.take_append, Ybj (by omega)]; simp
       have hml : m < L.length := by omega
       have hk := (Zabd hr ha hml).1 (Zmu.2 ⟨x, e2⟩);have hf := Zuk (f := gtAt L s) (d := endB L a) (Zrn L a) m (Zba.2 ⟨hk.2.1, hk.1, hk.2.2⟩) (by omega)
       have hw := Zgg hr hml;rw [e2, Ybu, Ycr] at hw;have hw : x = Zbd L m := hw;unfold gtAt at hf;rw [← hw, Proofs.bytesLess_eq, decide_eq_false_iff_not] at hf;have hne : x ≠ s := fun ee => hn (Zbt.2 ⟨m, hml, by rw [e2, ee]⟩)
       rw [ht];refine Zfk.2 (Zir ?_);rcases List.le_iff_lt_or_eq.1 (List.not_lt.1 hf) with h | h
       · exact h
       · exact absurd (Zjj h) hne
theorem Zxr {U : List ByteArray} (hU : U = [] ∨ U ∈ Zaf L) {i : Nat} (hi : i < L.length) (h : Zbq L U s ≤ i) : pLt (U ++ [s]) (pa L i) := by
 rcases hU with hU | hU
 · rw [Zpy U hU] at h;subst hU;exact Zajq hr hi h
 · obtain ⟨a, ha, rfl⟩ := Zbt.1 hU;rw [Zsc hr ha] at h;rcases Zqy (f := gtAt L s) (d := endB L a) (kidsB L a) with e | ⟨h1, h2⟩
   · rw [e] at h;have := Zbb L a ha
     exact beside _ (Zol hr (by omega) hi) fun t ht => by
      have := (Zdo hr ha hi).1 ⟨t, ht⟩;omega
   · obtain ⟨m, hm⟩ : ∃ m, atOf (gtAt L s) (endB L a) (kidsB L a) = m := ⟨_, rfl⟩;rw [hm] at h h1 h2;have hk := Zba.1 h1;have hml : m < L.length := by omega
     obtain ⟨x, e2⟩ := Zmu.1 ((Zabd hr ha hml).2 ⟨hk.2.1, hk.1, hk.2.2⟩);have hw := Zgg hr hml;rw [e2, Ybu, Ycr] at hw;have hw : x = Zbd L m := hw;unfold gtAt at h2;rw [← hw, Proofs.bytesLess_eq, Yao] at h2;have h3 : pLt (pa L a ++ [s]) (pa L m) := by rw [e2]; exact Zfk.2 (Zir h2)
     rcases Ybp m i with g | g
     · exact Zcb h3 (Zol hr g hi)
     · obtain rfl : m = i := by omega
       exact h3
theorem Zain {U : List ByteArray} (hU : U = [] ∨ U ∈ Zaf L) (hn : ¬ U ++ [s] ∈ Zaf L) (hl : L.length < 200) (hs : s.size ≤ 40) (hd : U.length < 16) :
 Zab (insB L (Zbq L U s) ⟨(U.length : Nat), s, 0⟩) = true ∧ ∀ q, q ∈ Zaf (insB L (Zbq L U s) ⟨(U.length : Nat), s, 0⟩) ↔ q = U ++ [s] ∨ q ∈ Zaf L := by
 obtain ⟨ht, hf⟩ := Zea hr;have hle := Zwj hr (s := s) hU
 have hside : ∀ q, (q ∈ (Zaf L).take (Zbq L U s) → pLt q (U ++ [s])) ∧ (q ∈ (Zaf L).drop (Zbq L U s) → pLt (U ++ [s]) q) := fun q => by
  constructor
  · intro h;obtain ⟨i, hi, e⟩ := Ybo h;rw [Yad, Zag] at hi;rw [Yct] at e;rw [← e, ← Zfh (by omega)]
    exact Zadi hr hU hn (by omega) (by omega)
  · intro h;obtain ⟨i, hi, e⟩ := Ybo h;rw [Yam, Zag] at hi;rw [Ydl] at e;rw [← e, ← Zfh (by omega)]
    exact Zxr hr hU (by omega) (by omega)
 have hmem : ∀ q, q ∈ (Zaf L).take (Zbq L U s) ++ ((U ++ [s]) :: (Zaf L).drop (Zbq L U s)) ↔ q = U ++ [s] ∨ q ∈ Zaf L := fun q => by
  rw [Ybm, Yaw]
  conv => rhs; rhs; rw [← Ybk (Zbq L U s) (Zaf L), Ybm]
  constructor
  · rintro (h | h | h)
    · exact .inr (.inl h)
    · exact .inl h
    · exact .inr (.inr h)
  · rintro (h | h | h)
    · exact .inr (.inl h)
    · exact .inl h
    · exact .inr (.inr h)
 have hres : Zab (insB L (Zbq L U s) ⟨(U.length : Nat), s, 0⟩) = true ∧ Zaf (insB L (Zbq L U s) ⟨(U.length : Nat), s, 0⟩) = (Zaf L).take (Zbq L U s) ++ ((U ++ [s]) :: (Zaf L).drop (Zbq L U s)) := by
  refine Zjv (Zga (Zic _ hf) ⟨⟨?_, ?_, ?_⟩, Zhz _ hf⟩) ⟨?_, fun q hq => ?_⟩ ?_
  · unfold Zbv;simp only [Yar, Yao];omega
  · simp
  · rw [Ybu, Ycr]; rfl
  · rw [Yew];refine ⟨List.Pairwise.sublist (List.take_sublist _ _) ht.1, Ycb.2 ⟨fun q h => (hside q).2 h, List.Pairwise.sublist (List.drop_sublist _ _) ht.1⟩, fun a ha b hb => ?_⟩
    rcases Yaw.1 hb with e | e
    · rw [e]; exact (hside a).1 ha
    · exact Zcb ((hside a).1 ha) ((hside b).2 e)
  · rcases (hmem q).1 hq with e | e
    · rw [e];refine ⟨by simp, ?_⟩
      rw [Yed];rcases hU with hU | hU
      · exact .inr hU
      · exact .inl ((hmem _).2 (.inr hU))
    · obtain ⟨h1, h2⟩ := ht.2 q e;exact ⟨h1, h2.imp (fun h => (hmem _).2 (.inr h)) id⟩
  · rw [Zin]; omega
 exact ⟨hres.1, fun q => by rw [hres.2]; exact hmem q⟩
end
theorem Zsl {P : List ByteArray} {d : Nat} (h : d < P.length) : P.take (d + 1) = P.take d ++ [wAt P d] := by
 rw [Yau h];unfold wAt;rw [Yap, Yag h]; rfl
theorem Zph {P : List ByteArray} (hP : Zei P = true) {d : Nat} (h : d < P.length) : (wAt P d).size ≤ 40 := by
 unfold Zei at hP;rw [Yar, Ybr] at hP;have := hP.2 P[d] (Yat h);unfold wAt;rw [Yap, Yag h];simpa using this
theorem Zvt {P : List ByteArray} (hP : Zei P = true) (h16 : P.length ≤ 16) {out : List Line} (hr : Zab out = true) {d : Nat} (hd : d < P.length) (hU : d = 0 ∨ P.take d ∈ Zaf out) (hf : Zar out (P.take (d + 1)) = none) (hl : out.length < 200) :
 Zab (insB out (Zbq out (P.take d) (wAt P d)) ⟨d, wAt P d, 0⟩) = true ∧ Zbq out (P.take d) (wAt P d) ≤ out.length ∧ ∀ q, q ∈ Zaf (insB out (Zbq out (P.take d) (wAt P d)) ⟨d, wAt P d, 0⟩) ↔ q = P.take (d + 1) ∨ q ∈ Zaf out := by
 have hU2 : P.take d = [] ∨ P.take d ∈ Zaf out := hU.imp (fun e => by rw [e]; rfl) id
 have hn : ¬ P.take d ++ [wAt P d] ∈ Zaf out := by
  rw [← Zsl hd];intro h;have := Zfu hr |>.2 h
  rw [hf] at this; cases this
 have hl2 : (P.take d).length = d := by rw [Yad]; omega
 have := Zain hr hU2 hn hl (Zph hP hd) (by omega)
 rw [hl2] at this;exact ⟨this.1, Zwj hr hU2, fun q => by rw [this.2 q, Zsl hd]⟩
theorem Zkr {P : List ByteArray} (hP : Zei P = true) (h16 : P.length ≤ 16) : ∀ (f d : Nat) (out M : List Line), d + f = P.length → Zab out = true → (d = 0 ∨ P.take d ∈ Zaf out) → Zdn P f d out = some M →
 Zab M = true ∧ ∀ q, q ∈ Zaf M ↔ q ∈ Zaf out ∨ ∃ j, d < j ∧ j ≤ P.length ∧ q = P.take j
 | 0, d, out, M, hd, hr, _, h => by
   unfold Zdn at h;injection h with h
   subst h;exact ⟨hr, fun q => ⟨.inl, fun hq => hq.elim id fun ⟨j, h1, h2, _⟩ => absurd h1 (by omega)⟩⟩
 | f + 1, d, out, M, hd, hr, hU, h => by
   unfold Zdn at h;cases hf : Zar out (P.take (d + 1)) with
   | some k =>
     rw [hf, Yan (show (some k).isSome = true from rfl)] at h;have hin : P.take (d + 1) ∈ Zaf out := (Zfu hr).1 (by rw [hf]; rfl)
     obtain ⟨h1, h2⟩ := Zkr hP h16 f (d + 1) out M (by omega) hr (.inr hin) h
     refine ⟨h1, fun q => ?_⟩
     rw [h2];constructor
     · rintro (h | ⟨j, j1, j2, e⟩)
       · exact .inl h
       · exact .inr ⟨j, by omega, j2, e⟩
     · rintro (h | ⟨j, j1, j2, e⟩)
       · exact .inl h
       · by_cases hj : j = d + 1
         · subst hj; rw [e]; exact .inl hin
         · exact .inr ⟨j, by omega, j2, e⟩
   | none =>
     rw [hf, Yab (show ¬ (none : Option Nat).isSome = true by simp)] at h
     by_cases hl : 200 ≤ out.length
     · rw [Yan hl] at h; cases h
     · rw [Yab hl] at h;obtain ⟨g1, -, g2⟩ := Zvt hP h16 hr (by omega) hU hf (by omega)
       obtain ⟨h1, h2⟩ := Zkr hP h16 f (d + 1) _ M (by omega) g1 (.inr ((g2 _).2 (.inl rfl))) h
       refine ⟨h1, fun q => ?_⟩
       rw [h2, g2];constructor
       · rintro ((h | h) | ⟨j, j1, j2, e⟩)
         · exact .inr ⟨d + 1, by omega, by omega, h⟩
         · exact .inl h
         · exact .inr ⟨j, by omega, j2, e⟩
       · rintro (h | ⟨j, j1, j2, e⟩)
         · exact .inl (.inr h)
         · by_cases hj : j = d + 1
           · subst hj; rw [e]; exact .inl (.inl rfl)
           · exact .inr ⟨j, by omega, j2, e⟩
end Lns
