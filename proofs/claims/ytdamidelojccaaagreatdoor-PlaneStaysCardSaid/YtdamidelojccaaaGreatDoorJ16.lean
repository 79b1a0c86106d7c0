import Derived.Test.YtdamidelojccaaaGreatDoorJ15
set_option maxHeartbeats 4000000
set_option maxRecDepth 100000
namespace Sch
open Go Go.Lib Adr Mtr Tre
def Zdb (L : List Line) (a b : ByteArray) : Bool := (Zar L [a, b]).isSome
def Zde (L : List Line) (s vni : ByteArray) : Bool :=
 match Zar L [Zfa, vni, Zij] with
 | none => false
 | some n => match kidsB L n with
   | [] => false
   | k :: _ => decide (0 ≤ (pre (Zbd L k).data.toList).1) && !(isIn (pre (Zbd L k).data.toList).1 (pre (Zbd L k).data.toList).2 (max (ip s.data.toList) 0))
def Zht (L : List Line) (s : ByteArray) (k : Nat) : Nat → Bool
 | 0 => false
 | n + 1 => Zbm [Zcl, Zgq, wIp, s] (Zek L k) || Zht L s (k + 1) n
def Zlp (L : List Line) (i : Nat) (s : ByteArray) : Bool := Zht L s 0 i
theorem Zww (L : List Line) : ∀ k, k ≤ L.length → ∀ s ∈ ups L k, ∃ j, j < L.length ∧ s = Zbd L j
 | 0, _, s, h => by rw [Zpi] at h; cases h
 | k + 1, hk, s, h => by
   have hu := Zhi L k;rw [Zld] at h;rcases Yaw.1 h with rfl | h
   · exact ⟨k, by omega, rfl⟩
   · exact Zww L (Zdl L k + 1).toNat (by omega) s h
theorem Zafh {L : List Line} {i : Nat} (hi : i < L.length) : ∀ s ∈ Zek L i, ∃ j, j < L.length ∧ s = Zbd L j := by
 intro s h;unfold Zek at h;exact Zww L (i + 1) (by omega) s (by simpa using h)
def m1 : List UInt8 := [104, 111, 115, 116, 115, 32, 36, 110, 97, 109, 101, 32, 105, 112, 32, 36, 105, 112]
def m2 : List UInt8 := [98, 105, 110, 100, 105, 110, 103, 115, 32, 36, 105, 112, 32, 104, 111, 115, 116, 32, 36, 110, 97, 109, 101]
def m3 : List UInt8 := [114, 111, 117, 116, 101, 115, 32, 36, 112, 114, 101, 102, 105, 120, 32, 118, 105, 97, 32, 36, 110, 97, 109, 101]
def m4 : List UInt8 := [104, 111, 115, 116, 115, 32, 36, 110, 97, 109, 101, 32, 118, 110, 105, 115, 32, 36, 118, 110, 105]
def m5 : List UInt8 := [98, 105, 110, 100, 105, 110, 103, 115, 32, 36, 105, 112, 32, 118, 110, 105, 32, 36, 118, 110, 105]
def Zfd (p : List ByteArray) : List UInt8 := glue 32 (p.map (·.data.toList))
def Zgw (L : List Line) (i : Nat) (p P : List ByteArray) : Bool :=
 if Zfd p = m1 then Zlp L i (P.getD 3 ⟨#[]⟩)
 else if Zfd p = m2 ∨ Zfd p = m3 then !(Zdb L Zcl (P.getD 3 ⟨#[]⟩))
 else if Zfd p = m4 then !(Zdb L Zfa (P.getD 3 ⟨#[]⟩))
 else if Zfd p = m5 then !(Zdb L Zfa (P.getD 3 ⟨#[]⟩)) || Zde L (P.getD 1 ⟨#[]⟩) (P.getD 3 ⟨#[]⟩)
 else false
theorem Zaeq : ∀ r ∈ Zak, (Zfd r.path = m1 ∨ Zfd r.path = m2 ∨ Zfd r.path = m3 ∨ Zfd r.path = m4 ∨ Zfd r.path = m5) → r.path.length = 4 := by decide +kernel
theorem Zaka : ∀ r ∈ Zak, (Zfd r.path).length ≤ 100 := by decide +kernel
end Sch
namespace Go.Proofs.Zq
open Tryz
open Go Go.RowKit Go.Sort Sch Adr Mtr Tre
theorem Zxx {L : List Line} (hr : Zab L = true) {j : Nat} (hj : j < L.length) : (Zbd L j).size ≤ 40 := by
 rw [Zbi hj];have := Zsa hr _ (Yat hj);unfold Zbv at this;simp only [Yar, Yao] at this;omega
theorem Ztn {L : List Line} (hr : Zab L = true) {i : Nat} (hi : i < L.length) : Shw (Zek L i) := fun s hs => by
 obtain ⟨j, hj, rfl⟩ := Zafh hi s hs;have := Zxx hr hj;omega
theorem Zajp (w : World) (P : List ByteArray) (T : TypeId) : Rd (w.alloc (.cells (sv P).toArray T)) 1 (some ⟨w.heap.size, 0, none⟩) P.length (sv P) :=
 ⟨by rw [Zid]; simp, fun _ => ⟨_, rfl, by simp, fun j u hu => by
  rw [Zae, Ybf, World.cell?_alloc_at _ _ _ _ rfl]; simpa using hu⟩⟩
theorem Zaex (A : Option Addr) (cap : Nat) (L : List Line) (a b : ByteArray) (w : World) (hR : Rd w 3 A L.length (lines L)) (hcap : L.length ≤ cap) (hc : cap ≤ maxLen) (hr : Zab L = true) :
 Calls prog 124 #[.slice A L.length cap, .string a, .string b] w fun e w' => e = .returned (.bool (Zdb L a b)) ∧ Below w.heap.size w w' := by
 obtain ⟨w0, hw0⟩ : ∃ w0, w.alloc (.cells #[.string a, .string b] 9) = w0 := ⟨_, rfl⟩;have hb0 : Below w.heap.size w w0 := by rw [← hw0]; exact (Yac _ _).alloc (Yaf _) _
 have hlit : Rd w0 1 (some ⟨w.heap.size, 0, none⟩) 2 (sv [a, b]) := by rw [← hw0]; exact Zajp w [a, b] _
 have HC := _root_.Zhd (Zbr A cap L (some ⟨w.heap.size, 0, none⟩) 2 [a, b] w0 (hR.below hb0) hcap hc hr hlit (Yaf 2) (by unfold maxLen; decide))
 have HX : Hid (Zdb L a b = (Zar L [a, b]).isSome) := rfl;have HB := _root_.Zhd hb0;have HC2 : Hid (Calls prog 34 #[.slice A L.length cap, .slice (some ⟨w.heap.size, 0, none⟩) 2 2] w0 fun e w' => e = .returned (.tuple #[.int .i64 (Zou (Zar L [a, b])), .bool (Zar L [a, b]).isSome]) ∧ Below w0.heap.size w0 w') := HC.out
 clear hR hb0 hlit HC;generalize Zou (Zar L [a, b]) = z at *;generalize (Zar L [a, b]).isSome = t at *;go_enter func124, ntmps124;go_wp2_with fail;refine HC2.out.mono ?_;rintro e w2 ⟨rfl, hb2⟩;go_wp2;go_ret;exact ⟨Zai HX.out.symm, Zaa HB.out hb2⟩
theorem Zzi (A : Option Addr) (cap : Nat) (L : List Line) (s vni : ByteArray) (w : World) (hE : Env w) (hR : Rd w 3 A L.length (lines L)) (hcap : L.length ≤ cap) (hc : cap ≤ maxLen) (hr : Zab L = true) (hs : s.size ≤ 100000000) :
 Calls prog 125 #[.slice A L.length cap, .string s, .string vni] w fun e w' => e = .returned (.bool (Zde L s vni)) ∧ Below w.heap.size w w' := by
 obtain ⟨w0, hw0⟩ : ∃ w0, w.alloc (.cells #[.string Zfa, .string vni, .string Zij] 9) = w0 := ⟨_, rfl⟩;have hb0 : Below w.heap.size w w0 := by rw [← hw0]; exact (Yac _ _).alloc (Yaf _) _
 have hlit : Rd w0 1 (some ⟨w.heap.size, 0, none⟩) 3 (sv [Zfa, vni, Zij]) := by rw [← hw0]; exact Zajp w [Zfa, vni, Zij] _
 have HC := Zbr A cap L (some ⟨w.heap.size, 0, none⟩) 3 [Zfa, vni, Zij] w0 (hR.below hb0) hcap hc hr hlit (Yaf 3) (by unfold maxLen; decide)
 have h200 := Zas hr;have HB := _root_.Zhd hb0;have HE := _root_.Zhd (hE.below hb0);have HR := _root_.Zhd (hR.below hb0);have HW0 := hw0;unfold Zfa Zij at HW0;clear hw0;cases hf : Zar L [Zfa, vni, Zij] with
 | none =>
   have HX : Hid (Zde L s vni = false) := by show _ = _; unfold Zde; rw [hf]
   rw [hf] at HC;have HC2 : Hid (Calls prog 34 #[.slice A L.length cap, .slice (some ⟨w.heap.size, 0, none⟩) 3 3] w0 fun e w' => e = .returned (.tuple #[.int .i64 0, .bool false]) ∧ Below w0.heap.size w0 w') := HC
   clear hR hb0 hlit HC hE hf HE HR;go_enter func125, ntmps125;go_wp2_with fail;refine HC2.out.mono ?_;rintro e w2 ⟨rfl, hb2⟩;go_wp2;go_ret;exact ⟨Zai HX.out.symm, Zaa HB.out hb2⟩
 | some n =>
   have hn := Zcd hf
   have HX : Hid (Zde L s vni = match kidsB L n with | [] => false | k :: _ => decide (0 ≤ (pre (Zbd L k).data.toList).1) && !(isIn (pre (Zbd L k).data.toList).1 (pre (Zbd L k).data.toList).2 (max (ip s.data.toList) 0))) := by
    show _ = _; unfold Zde; rw [hf]
   rw [hf] at HC;have HC2 : Hid (Calls prog 34 #[.slice A L.length cap, .slice (some ⟨w.heap.size, 0, none⟩) 3 3] w0 fun e w' => e = .returned (.tuple #[.int .i64 n, .bool true]) ∧ Below w0.heap.size w0 w') := HC
   have HK := _root_.Zhd (fun W hb => Znj A cap L n W (HR.out.below hb) hcap hc hr hn)
   have HI := _root_.Zhd (fun W hb => Zacd s W (HE.out.below hb) hs)
   have HKL : Hid (∀ k ∈ kidsB L n, k < L.length) := fun k hk => by
    have := Zba.1 hk;have h2 := Zbb L n hn;omega
   have hws := _root_.Zhd (fun j (hj : j < L.length) => Zxx hr hj)
   clear hR hb0 hlit HC hE hf;go_enter func125, ntmps125;go_wp2_with fail;refine HC2.out.mono ?_;rintro e w2 ⟨rfl, hb2⟩;have HC3 := HK.out w2 hb2;have HB2 := _root_.Zhd hb2;clear HC2 hb2 HK;go_wp2_with fail;refine HC3.mono ?_;clear HC3;unfold Zgp;rintro e w3 ⟨A3, c3, rfl, hk1, hk2, hrd, hb3⟩;have HB3 := _root_.Zhd (Zaa HB2.out hb3);unfold maxLen at hk2;cases hks : kidsB L n with
   | nil =>
     rw [hks] at HX;clear HB2 hb3 hrd hk1 hk2 HKL HI hws;go_wp2;go_ret;exact ⟨Zai HX.out.symm, Zaa HB.out HB3.out⟩
   | cons k ks =>
     rw [hks] at hrd HX hk1;have hkl : k < L.length := HKL.out k (by rw [hks]; simp)
     obtain ⟨B4, O4, rfl, -, -, k0⟩ := hrd.intAt (i := 0) (by simp)
     simp only [Yef, Yek] at k0;obtain ⟨B, O, rfl, hab, hadd, x0, x1, x2⟩ := (HR.out.below HB3.out).line hkl;have HPr := _root_.Zhd (fun W hb => Zaix L[k].word W (HE.out.below hb) (by have := hws.out k hkl; rw [Zbi hkl] at this; omega))
     have HX2 : Hid (Zde L s vni = (decide (0 ≤ (pre L[k].word.data.toList).1) && !(isIn (pre L[k].word.data.toList).1 (pre L[k].word.data.toList).2 (max (ip s.data.toList) 0)))) := by
      show _ = _;rw [HX.out, ← Zbi hkl]
     generalize L[k].word = sw at *;generalize pre sw.data.toList = pr at *;have hnl : (k :: ks).length = ks.length + 1 := rfl;clear HX HB2 hb3 hrd hk1 HKL hws x0 x2 hks;have hpr : Hid (Zjb pr = .tuple #[.int .i64 (max pr.1 0), .int .i64 pr.2, .bool (decide (0 ≤ pr.1))]) := rfl;have hir : Hid (Zli (ip s.data.toList) = .tuple #[.int .i64 (max (ip s.data.toList) 0), .bool (decide (0 ≤ ip s.data.toList))]) := rfl;have HIn := _root_.Zhd (fun W => Zawn pr.1 pr.2 (max (ip s.data.toList) 0) W)
     by_cases hp0 : 0 ≤ pr.1
     · have HX3 : Hid (Zde L s vni = !(isIn pr.1 pr.2 (max (ip s.data.toList) 0))) := by show _ = _; rw [HX2.out, Yal hp0]; rfl
       have hd : Hid (decide (0 ≤ pr.1) = true) := Yal hp0;have hm : Hid (max pr.1 0 = pr.1) := by show _ = _; omega
       clear HX2 hp0;generalize max (ip s.data.toList) 0 = z at *;generalize decide (0 ≤ ip s.data.toList) = zb at *;generalize isIn pr.1 pr.2 z = ib at *;go_wp2_with fail;refine (HPr.out w3 HB3.out).mono ?_;rw [hpr.out, hd.out, hm.out];rintro e w4 ⟨rfl, hb4⟩;have HB4 := _root_.Zhd (Zaa HB3.out hb4);clear HPr hb4 hpr;go_wp2_with fail;refine (HI.out w4 HB4.out).mono ?_;rw [hir.out];rintro e w5 ⟨rfl, hb5⟩;have HB5 := _root_.Zhd (Zaa HB4.out hb5);clear HI hb5 hir;go_wp2_with fail;refine (HIn.out w5).mono ?_;rintro e w6 ⟨rfl, rfl⟩;go_wp2;go_ret;exact ⟨Zai HX3.out.symm, Zaa HB.out HB5.out⟩
     · have HX3 : Hid (Zde L s vni = false) := by show _ = _; rw [HX2.out, Yae hp0]; rfl
       have hd : Hid (decide (0 ≤ pr.1) = false) := Yae hp0;clear HX2 hp0 HIn;generalize max (ip s.data.toList) 0 = z at *;generalize decide (0 ≤ ip s.data.toList) = zb at *;generalize max pr.1 0 = y at *;go_wp2_with fail;refine (HPr.out w3 HB3.out).mono ?_;rw [hpr.out, hd.out];rintro e w4 ⟨rfl, hb4⟩;have HB4 := _root_.Zhd (Zaa HB3.out hb4);clear HPr hb4 hpr;go_wp2_with fail;refine (HI.out w4 HB4.out).mono ?_;rw [hir.out];rintro e w5 ⟨rfl, hb5⟩;have HB5 := _root_.Zhd (Zaa HB4.out hb5);clear HI hb5 hir;go_wp2;go_ret;exact ⟨Zai HX3.out.symm, Zaa HB.out HB5.out⟩
theorem Zant (A : Option Addr) (cap : Nat) (L : List Line) (i : Nat) (A2 : Option Addr) (c2 : Nat) (P : List ByteArray) (s : ByteArray) (w : World) (hE : Env w) (hR : Rd w 3 A L.length (lines L)) (hcap : L.length ≤ cap) (hc : cap ≤ maxLen) (hr : Zab L = true) (hi : i ≤ L.length) (hP : Rd w 1 A2 P.length (sv P)) (hp3 : P[3]? = some s) (hpl : P.length ≤ 100000) (hs : s.size ≤ 100000000) :
 Calls prog 123 #[.slice A L.length cap, .int .i64 i, .slice A2 P.length c2] w fun e w' => e = .returned (.bool (Zlp L i s)) ∧ Below w.heap.size w w' := by
 have h200 := Zas hr;have hP3 : 3 < P.length := (Yba.1 hp3).1;have hP3i : (3 : Int) < (P.length : Int) := by omega
 have hPs : P[3] = s := (Yba.1 hp3).2;have HE := _root_.Zhd hE;have HR := _root_.Zhd hR;have HP := _root_.Zhd hP;have HPS := _root_.Zhd hPs;have HPa := _root_.Zhd (fun (k : Nat) (hk : k < L.length) W hb => Ztp A cap L k W (hR.below hb) hcap hc hr hk)
 have HSh := _root_.Zhd (fun (k : Nat) (hk : k < L.length) => Ztn hr hk)
 have HX : Hid (Zlp L i s = Zht L s 0 (i - 0)) := rfl;unfold maxLen at hc;clear hE hR hP hPs hp3;go_enter func123, ntmps123;go_wp2;go_loopw [11] (fun vi wr => ∃ k : Nat, k ≤ i ∧ vi = .int .i64 k ∧ Hid (Zlp L i s = Zht L s k (i - k)) ∧ Hid (Below w.heap.size w wr)) (fun vi _ => i - (intOf vi).toNat)
 case atStart => exact ⟨0, Yav _, rfl, HX, Yac _ _⟩
 case round =>
  clear HX;obtain ⟨k, hk, rfl, HQ, HB⟩ := hrel;by_cases hlt : k < i
  · have hkl : k < L.length := by omega
    have hst : Hid (Zlp L i s = (Zbm [Zcl, Zgq, wIp, s] (Zek L k) || Zht L s (k + 1) (i - (k + 1)))) := by
     show _ = _;rw [HQ.out, show i - k = (i - (k + 1)) + 1 by omega]; rfl
    have HPk := HPa.out k hkl wr HB.out;have HSk := HSh.out k hkl;have hplen := Zami L k;unfold Zvb at HPk;obtain ⟨B2, O2, rfl, -, -, z0⟩ := (HP.out.below HB.out).strAt hP3;rw [HPS.out] at z0;generalize Zek L k = pk at *;clear HQ;go_wp2_with fail;refine HPk.mono ?_;clear HPk;rintro e w2 ⟨A3, c3, rfl, hk1, hk2, hrd, -, hb2⟩;have HB2 := _root_.Zhd (Zaa HB.out hb2);have z2 : w2.cell? ⟨B2, O2 + 3, none⟩ = some (.string s) := (hb2.cell (p := ⟨B2, O2 + 3, none⟩) (Lib.lt_of_cell z0)).trans z0;obtain ⟨w3, hw3⟩ : ∃ w3, w2.alloc (.cells #[.string Zcl, .string Zgq, .string wIp, .string s] 9) = w3 := ⟨_, rfl⟩;have hb3 : Below w2.heap.size w2 w3 := by rw [← hw3]; exact (Yac _ _).alloc (Yaf _) _
    have hlit : Rd w3 1 (some ⟨w2.heap.size, 0, none⟩) 4 (sv [Zcl, Zgq, wIp, s]) := by rw [← hw3]; exact Zajp w2 [Zcl, Zgq, wIp, s] _
    have HB3 := _root_.Zhd (Zaa HB2.out hb3)
    have HM := _root_.Zhd (Zjl (some ⟨w2.heap.size, 0, none⟩) 4 [Zcl, Zgq, wIp, s] A3 c3 pk w3 (HE.out.below HB3.out) hlit (hrd.below hb3) (by simp) (by omega) (fun x hx => by
     simp only [Yaw, Ybv, or_false] at hx;rcases hx with rfl | rfl | rfl | rfl
     · decide
     · decide
     · decide
     · exact hs) HSk)
    have HM2 : Hid (Calls prog 85 #[.slice (some ⟨w2.heap.size, 0, none⟩) 4 4, .slice A3 pk.length c3] w3 fun e w' => e = .returned (.bool (Zbm [Zcl, Zgq, wIp, s] pk)) ∧ Below w3.heap.size w3 w') := HM.out
    generalize Zbm [Zcl, Zgq, wIp, s] pk = mb at *;unfold Zcl Zgq wIp at hw3;clear HB hb2 z0 hrd hk1 hk2 HB2 hb3 hlit HM HSk;cases mb with
    | true =>
      have HF : Hid (Zlp L i s = true) := by show _ = _; rw [hst.out]; rfl
      clear hst;go_wp2_with fail;refine HM2.out.mono ?_;rintro e w4 ⟨rfl, hb4⟩;have HB4 := _root_.Zhd (Zaa HB3.out hb4);clear HM2 hb4;go_wp2;go_ret;exact ⟨Zai HF.out.symm, HB4.out⟩
    | false =>
      have HF : Hid (Zlp L i s = Zht L s (k + 1) (i - (k + 1))) := by show _ = _; rw [hst.out]; rfl
      clear hst;go_wp2_with fail;refine HM2.out.mono ?_;rintro e w4 ⟨rfl, hb4⟩;have HB4 := _root_.Zhd (Zaa HB3.out hb4);clear HM2 hb4;go_wp2_with fail;go_roundw
      case rel => exact ⟨k + 1, by omega, by go_num, HF, HB4⟩
      case measure => simp [intOf]; omega
  · obtain rfl : k = i := by omega
    have HF : Hid (Zlp L k s = false) := by show _ = _; rw [HQ.out, Yep]; rfl
    clear HQ;go_wp2;go_ret;exact ⟨Zai HF.out.symm, HB.out⟩
theorem Zaly (A : Option Addr) (cap : Nat) (L : List Line) (i : Nat) (b c : Nat) (r : Rule) (A2 : Option Addr) (c2 : Nat) (P : List ByteArray) (w : World) (hE : Env w) (hR : Rd w 3 A L.length (lines L)) (hcap : L.length ≤ cap) (hc : cap ≤ maxLen) (hr : Zab L = true) (hi : i ≤ L.length)
 (hru : r ∈ Zak) (hrd : Rd w 1 (some ⟨b, 0, none⟩) r.path.length (sv r.path)) (hrc : r.path.length ≤ c) (hP : Rd w 1 A2 P.length (sv P)) (hPl : r.path.length = P.length) (hpl : P.length ≤ 100000) (hps : Shw P) :
 Calls prog 93 #[.slice A L.length cap, .int .i64 i, .slice (some ⟨b, 0, none⟩) r.path.length c, .slice A2 P.length c2] w fun e w' => e = .returned (.bool (Zgw L i r.path P)) ∧ Below w.heap.size w w' := by
 have hlp : (r.path.map (·.data.toList)).length = r.path.length := Yax _;have hJ := Zadq (some ⟨b, 0, none⟩) c (r.path.map (·.data.toList)) 32 w (by rw [hlp]; exact hrc) (by rw [hlp, ← Zabm]; exact hrd) (fun ad e => by cases e; rfl) (by have := Zaka r hru; unfold Zfd at this; omega) (by rw [hlp]; have := (Zia r hru).2; omega)
 rw [hlp] at hJ;have HJ : Hid (Calls prog 122 #[.slice (some ⟨b, 0, none⟩) r.path.length c, .string ⟨#[32]⟩] w fun e w' => e = .returned (.string ⟨(Zfd r.path).toArray⟩) ∧ Below w.heap.size w w') := hJ
 have h4 := Zaeq r hru
 have HX : Hid (Zgw L i r.path P = if Zfd r.path = m1 then Zlp L i (P.getD 3 ⟨#[]⟩)
  else if Zfd r.path = m2 ∨ Zfd r.path = m3 then !(Zdb L Zcl (P.getD 3 ⟨#[]⟩))
  else if Zfd r.path = m4 then !(Zdb L Zfa (P.getD 3 ⟨#[]⟩))
  else if Zfd r.path = m5 then !(Zdb L Zfa (P.getD 3 ⟨#[]⟩)) || Zde L (P.getD 1 ⟨#[]⟩) (P.getD 3 ⟨#[]⟩)
  else false) := rfl
 have Hg := _root_.Zhd (fun l => show ((⟨(Zfd r.path).toArray⟩ : ByteArray).toList == l) = decide (Zfd r.path = l) by
  rw [Lib.toList_data, Zch, Ycj, beq_iff_eq, Yao])
 have HT := _root_.Zhd (fun s W hb hp3 hs => Zant A cap L i A2 c2 P s W (hE.below hb) (hR.below hb) hcap hc hr hi (hP.below hb) hp3 hpl hs)
 have HTh := _root_.Zhd (fun a b W hb => Zaex A cap L a b W (hR.below hb) hcap hc hr)
 have HO := _root_.Zhd (fun s v W hb hs => Zzi A cap L s v W (hE.below hb) (hR.below hb) hcap hc hr hs)
 have HP := _root_.Zhd hP;have HPS := _root_.Zhd hps;have HP4 : Hid ((Zfd r.path = m1 ∨ Zfd r.path = m2 ∨ Zfd r.path = m3 ∨ Zfd r.path = m4 ∨ Zfd r.path = m5) → 4 = P.length) := fun h => (h4 h).symm.trans hPl
 clear hJ hE hR hP hps h4 hrd hPl hlp;generalize Zfd r.path = g at *;by_cases e0 : g = m1
 · have HK : Hid (Zgw L i r.path P = (Zlp L i (P.getD 3 ⟨#[]⟩))) := by show _ = _; rw [HX.out, Yan e0]
   have hP4 := HP4.out (.inl e0);have q0 : ((⟨g.toArray⟩ : ByteArray).toList == [104, 111, 115, 116, 115, 32, 36, 110, 97, 109, 101, 32, 105, 112, 32, 36, 105, 112]) = true := (Hg.out _).trans (Yal e0);have p0 : (⟨g.toArray⟩ : ByteArray).toList = [104, 111, 115, 116, 115, 32, 36, 110, 97, 109, 101, 32, 105, 112, 32, 36, 105, 112] := by simpa using q0
   have hp3 : P[3]? = some (P[3]'(by omega)) := Yag _
   have hsz := HPS.out _ (Yat (by omega : 3 < P.length))
   have hg3 : P.getD 3 ⟨#[]⟩ = P[3]'(by omega) := by rw [Yap, hp3]; rfl
   rw [hg3] at HK;have h3i : (3 : Int) < (P.length : Int) := by omega
   clear HX HP4 Hg e0 HTh HO hg3;go_enter func93, ntmps93;go_wp2_with fail;refine HJ.out.mono ?_;rintro e w2 ⟨rfl, hb2⟩;go_wp2_with fail;refine (HT.out _ w2 hb2 hp3 hsz).mono ?_;rintro e w3 ⟨rfl, hb3⟩;have hb4 := Zaa hb2 hb3;clear HT hb2 hb3 hp3;go_wp2;go_ret;exact ⟨Zai HK.out.symm, hb4⟩
 by_cases e1 : g = m2
 · have HK : Hid (Zgw L i r.path P = (!(Zdb L Zcl (P.getD 3 ⟨#[]⟩)))) := by show _ = _; rw [HX.out, Yab e0, Yan (.inl e1)]
   have hP4 := HP4.out (.inr (.inl e1));have q0 : ((⟨g.toArray⟩ : ByteArray).toList == [104, 111, 115, 116, 115, 32, 36, 110, 97, 109, 101, 32, 105, 112, 32, 36, 105, 112]) = false := (Hg.out _).trans (Yae e0);have p0 : ¬ (⟨g.toArray⟩ : ByteArray).toList = [104, 111, 115, 116, 115, 32, 36, 110, 97, 109, 101, 32, 105, 112, 32, 36, 105, 112] := by simpa using q0
   have q1 : ((⟨g.toArray⟩ : ByteArray).toList == [98, 105, 110, 100, 105, 110, 103, 115, 32, 36, 105, 112, 32, 104, 111, 115, 116, 32, 36, 110, 97, 109, 101]) = true := (Hg.out _).trans (Yal e1);have p1 : (⟨g.toArray⟩ : ByteArray).toList = [98, 105, 110, 100, 105, 110, 103, 115, 32, 36, 105, 112, 32, 104, 111, 115, 116, 32, 36, 110, 97, 109, 101] := by simpa using q1
   have hp3 : P[3]? = some (P[3]'(by omega)) := Yag _
   have hsz := HPS.out _ (Yat (by omega : 3 < P.length))
   have hg3 : P.getD 3 ⟨#[]⟩ = P[3]'(by omega) := by rw [Yap, hp3]; rfl
   rw [hg3] at HK;have h3i : (3 : Int) < (P.length : Int) := by omega
   obtain ⟨tb, htb⟩ : ∃ tb, Zdb L Zcl P[3] = tb := ⟨_, rfl⟩;have HTH := _root_.Zhd (fun W hb => HTh.out Zcl P[3] W hb)
   rw [htb] at HTH HK;unfold Zcl at HTH;clear HX HP4 Hg e0 e1 HT HO hg3 HTh hp3 htb;go_enter func93, ntmps93;go_wp2_with fail;refine HJ.out.mono ?_;rintro e w2 ⟨rfl, hb2⟩;obtain ⟨B2, O2, rfl, -, -, z0⟩ := (HP.out.below hb2).strAt (by omega : 3 < P.length)
   generalize P[3] = s at *;go_wp2_with fail;refine (HTH.out w2 hb2).mono ?_;rintro e w3 ⟨rfl, hb3⟩;have hb4 := Zaa hb2 hb3;clear HTH hb2 hb3;go_wp2;go_ret;exact ⟨Zai HK.out.symm, hb4⟩
 by_cases e2 : g = m3
 · have HK : Hid (Zgw L i r.path P = (!(Zdb L Zcl (P.getD 3 ⟨#[]⟩)))) := by show _ = _; rw [HX.out, Yab e0, Yan (.inr e2)]
   have hP4 := HP4.out (.inr (.inr (.inl e2)));have q0 : ((⟨g.toArray⟩ : ByteArray).toList == [104, 111, 115, 116, 115, 32, 36, 110, 97, 109, 101, 32, 105, 112, 32, 36, 105, 112]) = false := (Hg.out _).trans (Yae e0);have p0 : ¬ (⟨g.toArray⟩ : ByteArray).toList = [104, 111, 115, 116, 115, 32, 36, 110, 97, 109, 101, 32, 105, 112, 32, 36, 105, 112] := by simpa using q0
   have q1 : ((⟨g.toArray⟩ : ByteArray).toList == [98, 105, 110, 100, 105, 110, 103, 115, 32, 36, 105, 112, 32, 104, 111, 115, 116, 32, 36, 110, 97, 109, 101]) = false := (Hg.out _).trans (Yae e1);have p1 : ¬ (⟨g.toArray⟩ : ByteArray).toList = [98, 105, 110, 100, 105, 110, 103, 115, 32, 36, 105, 112, 32, 104, 111, 115, 116, 32, 36, 110, 97, 109, 101] := by simpa using q1
   have q2 : ((⟨g.toArray⟩ : ByteArray).toList == [114, 111, 117, 116, 101, 115, 32, 36, 112, 114, 101, 102, 105, 120, 32, 118, 105, 97, 32, 36, 110, 97, 109, 101]) = true := (Hg.out _).trans (Yal e2);have p2 : (⟨g.toArray⟩ : ByteArray).toList = [114, 111, 117, 116, 101, 115, 32, 36, 112, 114, 101, 102, 105, 120, 32, 118, 105, 97, 32, 36, 110, 97, 109, 101] := by simpa using q2
   have hp3 : P[3]? = some (P[3]'(by omega)) := Yag _
   have hsz := HPS.out _ (Yat (by omega : 3 < P.length))
   have hg3 : P.getD 3 ⟨#[]⟩ = P[3]'(by omega) := by rw [Yap, hp3]; rfl
   rw [hg3] at HK;have h3i : (3 : Int) < (P.length : Int) := by omega
   obtain ⟨tb, htb⟩ : ∃ tb, Zdb L Zcl P[3] = tb := ⟨_, rfl⟩;have HTH := _root_.Zhd (fun W hb => HTh.out Zcl P[3] W hb)
   rw [htb] at HTH HK;unfold Zcl at HTH;clear HX HP4 Hg e0 e1 e2 HT HO hg3 HTh hp3 htb;go_enter func93, ntmps93;go_wp2_with fail;refine HJ.out.mono ?_;rintro e w2 ⟨rfl, hb2⟩;obtain ⟨B2, O2, rfl, -, -, z0⟩ := (HP.out.below hb2).strAt (by omega : 3 < P.length)
   generalize P[3] = s at *;go_wp2_with fail;refine (HTH.out w2 hb2).mono ?_;rintro e w3 ⟨rfl, hb3⟩;have hb4 := Zaa hb2 hb3;clear HTH hb2 hb3;go_wp2;go_ret;exact ⟨Zai HK.out.symm, hb4⟩
 by_cases e3 : g = m4
 · have HK : Hid (Zgw L i r.path P = (!(Zdb L Zfa (P.getD 3 ⟨#[]⟩)))) := by show _ = _; rw [HX.out, Yab e0, Yab (not_or.2 ⟨e1, e2⟩), Yan e3]
   have hP4 := HP4.out (.inr (.inr (.inr (.inl e3))));have q0 : ((⟨g.toArray⟩ : ByteArray).toList == [104, 111, 115, 116, 115, 32, 36, 110, 97, 109, 101, 32, 105, 112, 32, 36, 105, 112]) = false := (Hg.out _).trans (Yae e0);have p0 : ¬ (⟨g.toArray⟩ : ByteArray).toList = [104, 111, 115, 116, 115, 32, 36, 110, 97, 109, 101, 32, 105, 112, 32, 36, 105, 112] := by simpa using q0
   have q1 : ((⟨g.toArray⟩ : ByteArray).toList == [98, 105, 110, 100, 105, 110, 103, 115, 32, 36, 105, 112, 32, 104, 111, 115, 116, 32, 36, 110, 97, 109, 101]) = false := (Hg.out _).trans (Yae e1);have p1 : ¬ (⟨g.toArray⟩ : ByteArray).toList = [98, 105, 110, 100, 105, 110, 103, 115, 32, 36, 105, 112, 32, 104, 111, 115, 116, 32, 36, 110, 97, 109, 101] := by simpa using q1
   have q2 : ((⟨g.toArray⟩ : ByteArray).toList == [114, 111, 117, 116, 101, 115, 32, 36, 112, 114, 101, 102, 105, 120, 32, 118, 105, 97, 32, 36, 110, 97, 109, 101]) = false := (Hg.out _).trans (Yae e2);have p2 : ¬ (⟨g.toArray⟩ : ByteArray).toList = [114, 111, 117, 116, 101, 115, 32, 36, 112, 114, 101, 102, 105, 120, 32, 118, 105, 97, 32, 36, 110, 97, 109, 101] := by simpa using q2
   have q3 : ((⟨g.toArray⟩ : ByteArray).toList == [104, 111, 115, 116, 115, 32, 36, 110, 97, 109, 101, 32, 118, 110, 105, 115, 32, 36, 118, 110, 105]) = true := (Hg.out _).trans (Yal e3);have p3 : (⟨g.toArray⟩ : ByteArray).toList = [104, 111, 115, 116, 115, 32, 36, 110, 97, 109, 101, 32, 118, 110, 105, 115, 32, 36, 118, 110, 105] := by simpa using q3
   have hp3 : P[3]? = some (P[3]'(by omega)) := Yag _
   have hsz := HPS.out _ (Yat (by omega : 3 < P.length))
   have hg3 : P.getD 3 ⟨#[]⟩ = P[3]'(by omega) := by rw [Yap, hp3]; rfl
   rw [hg3] at HK;have h3i : (3 : Int) < (P.length : Int) := by omega
   obtain ⟨tb, htb⟩ : ∃ tb, Zdb L Zfa P[3] = tb := ⟨_, rfl⟩;have HTH := _root_.Zhd (fun W hb => HTh.out Zfa P[3] W hb)
   rw [htb] at HTH HK;unfold Zfa at HTH;clear HX HP4 Hg e0 e1 e2 e3 HT HO hg3 HTh hp3 htb;go_enter func93, ntmps93;go_wp2_with fail;refine HJ.out.mono ?_;rintro e w2 ⟨rfl, hb2⟩;obtain ⟨B2, O2, rfl, -, -, z0⟩ := (HP.out.below hb2).strAt (by omega : 3 < P.length)
   generalize P[3] = s at *;go_wp2_with fail;refine (HTH.out w2 hb2).mono ?_;rintro e w3 ⟨rfl, hb3⟩;have hb4 := Zaa hb2 hb3;clear HTH hb2 hb3;go_wp2;go_ret;exact ⟨Zai HK.out.symm, hb4⟩
 by_cases e4 : g = m5
 · have HK : Hid (Zgw L i r.path P = (!(Zdb L Zfa (P.getD 3 ⟨#[]⟩)) || Zde L (P.getD 1 ⟨#[]⟩) (P.getD 3 ⟨#[]⟩))) := by show _ = _; rw [HX.out, Yab e0, Yab (not_or.2 ⟨e1, e2⟩), Yab e3, Yan e4]
   have hP4 := HP4.out (.inr (.inr (.inr (.inr e4))));have q0 : ((⟨g.toArray⟩ : ByteArray).toList == [104, 111, 115, 116, 115, 32, 36, 110, 97, 109, 101, 32, 105, 112, 32, 36, 105, 112]) = false := (Hg.out _).trans (Yae e0);have p0 : ¬ (⟨g.toArray⟩ : ByteArray).toList = [104, 111, 115, 116, 115, 32, 36, 110, 97, 109, 101, 32, 105, 112, 32, 36, 105, 112] := by simpa using q0
   have q1 : ((⟨g.toArray⟩ : ByteArray).toList == [98, 105, 110, 100, 105, 110, 103, 115, 32, 36, 105, 112, 32, 104, 111, 115, 116, 32, 36, 110, 97, 109, 101]) = false := (Hg.out _).trans (Yae e1);have p1 : ¬ (⟨g.toArray⟩ : ByteArray).toList = [98, 105, 110, 100, 105, 110, 103, 115, 32, 36, 105, 112, 32, 104, 111, 115, 116, 32, 36, 110, 97, 109, 101] := by simpa using q1
   have q2 : ((⟨g.toArray⟩ : ByteArray).toList == [114, 111, 117, 116, 101, 115, 32, 36, 112, 114, 101, 102, 105, 120, 32, 118, 105, 97, 32, 36, 110, 97, 109, 101]) = false := (Hg.out _).trans (Yae e2);have p2 : ¬ (⟨g.toArray⟩ : ByteArray).toList = [114, 111, 117, 116, 101, 115, 32, 36, 112, 114, 101, 102, 105, 120, 32, 118, 105, 97, 32, 36, 110, 97, 109, 101] := by simpa using q2
   have q3 : ((⟨g.toArray⟩ : ByteArray).toList == [104, 111, 115, 116, 115, 32, 36, 110, 97, 109, 101, 32, 118, 110, 105, 115, 32, 36, 118, 110, 105]) = false := (Hg.out _).trans (Yae e3);have p3 : ¬ (⟨g.toArray⟩ : ByteArray).toList = [104, 111, 115, 116, 115, 32, 36, 110, 97, 109, 101, 32, 118, 110, 105, 115, 32, 36, 118, 110, 105] := by simpa using q3
   have q4 : ((⟨g.toArray⟩ : ByteArray).toList == [98, 105, 110, 100, 105, 110, 103, 115, 32, 36, 105, 112, 32, 118, 110, 105, 32, 36, 118, 110, 105]) = true := (Hg.out _).trans (Yal e4);have p4 : (⟨g.toArray⟩ : ByteArray).toList = [98, 105, 110, 100, 105, 110, 103, 115, 32, 36, 105, 112, 32, 118, 110, 105, 32, 36, 118, 110, 105] := by simpa using q4
   have hp3 : P[3]? = some (P[3]'(by omega)) := Yag _
   have hsz := HPS.out _ (Yat (by omega : 3 < P.length))
   have hg3 : P.getD 3 ⟨#[]⟩ = P[3]'(by omega) := by rw [Yap, hp3]; rfl
   rw [hg3] at HK;have hg1 : P.getD 1 ⟨#[]⟩ = P[1]'(by omega) := by rw [Yap, Yag (by omega)]; rfl
   rw [hg1] at HK;have hsz1 := HPS.out _ (Yat (by omega : 1 < P.length))
   have h3i : (3 : Int) < (P.length : Int) := by omega
   have h1i : (1 : Int) < (P.length : Int) := by omega
   clear HX HP4 Hg e0 e1 e2 e3 e4 HT hg3 hp3 hg1;go_enter func93, ntmps93;go_wp2_with fail;refine HJ.out.mono ?_;rintro e w2 ⟨rfl, hb2⟩;obtain ⟨B2, O2, rfl, -, -, z3⟩ := (HP.out.below hb2).strAt (by omega : 3 < P.length)
   obtain ⟨B3, O3, hA3, -, -, z1⟩ := (HP.out.below hb2).strAt (by omega : 1 < P.length)
   injection hA3 with hA3
   injection hA3 with ea eb
   subst ea eb;have hth : ∀ m os, Calls prog 124 #[.slice A L.length cap, .string Zfa, .string P[3]] (grow (redrawn w2 m) os) fun e w' => e = .returned (.bool (Zdb L Zfa P[3])) ∧ ∃ p : Regrown, w' = grow (redrawn w2 p.d) p.os := fun m os => Calls.regrown_of (HTh.out Zfa P[3] _ (Zaa hb2 (below_regrown w2 m os)))
   have hou : ∀ m os, Calls prog 125 #[.slice A L.length cap, .string P[1], .string P[3]] (grow (redrawn w2 m) os) fun e w' => e = .returned (.bool (Zde L P[1] P[3])) ∧ ∃ p : Regrown, w' = grow (redrawn w2 p.d) p.os := fun m os => Calls.regrown_of (HO.out P[1] P[3] _ (Zaa hb2 (below_regrown w2 m os)) hsz1)
   have Z3 := fun m os => cell_regrown z3 m os
   have Z1 := fun m os => cell_regrown z1 m os
   unfold Zfa at hth;have HK2 : Hid (Zgw L i r.path P = (!(Zdb L ⟨#[118, 110, 105, 115]⟩ P[3]) || Zde L P[1] P[3])) := HK.out
   have HB2 := _root_.Zhd hb2;clear z3 z1 HTh HO HK hb2;generalize Zdb L ⟨#[118, 110, 105, 115]⟩ P[3] = tb at *;generalize Zde L P[1] P[3] = ob at *;generalize P[3] = s3 at *;generalize P[1] = s1 at *;cases tb with
   | true =>
     have HK3 : Hid (Zgw L i r.path P = ob) := by show _ = _; rw [HK2.out]; rfl
     clear HK2;go_wp2_with fail;refine wp_region_quiet_below (by kernel_rfl) (by kernel_rfl) ?_
     repeat (go_big_quiet_step ((first | (go_at_call 124; exact hth _ _) | (go_at_call 125; exact hou _ _))))
     refine wpQuiet_nil ?_;intro _ hw';obtain ⟨⟨dq, osq⟩, hw''⟩ := hw';subst hw'';go_wp2_with fail;go_ret;exact ⟨Zai HK3.out.symm, Zaa HB2.out (below_regrown w2 dq osq)⟩
   | false =>
     have HK3 : Hid (Zgw L i r.path P = true) := by show _ = _; rw [HK2.out]; rfl
     clear HK2 hou;go_wp2_with fail;refine wp_region_quiet_below (by kernel_rfl) (by kernel_rfl) ?_
     repeat (go_big_quiet_step ((go_at_call 124; exact hth _ _)))
     refine wpQuiet_nil ?_;intro _ hw';obtain ⟨⟨dq, osq⟩, hw''⟩ := hw';subst hw'';go_wp2_with fail;go_ret;exact ⟨Zai HK3.out.symm, Zaa HB2.out (below_regrown w2 dq osq)⟩
 have HK : Hid (Zgw L i r.path P = false) := by show _ = _; rw [HX.out, Yab e0, Yab (not_or.2 ⟨e1, e2⟩), Yab e3, Yab e4]
 have q0 : (g == [104, 111, 115, 116, 115, 32, 36, 110, 97, 109, 101, 32, 105, 112, 32, 36, 105, 112]) = false := Yak.2 e0;have p0 : ¬ g = [104, 111, 115, 116, 115, 32, 36, 110, 97, 109, 101, 32, 105, 112, 32, 36, 105, 112] := e0;have q1 : (g == [98, 105, 110, 100, 105, 110, 103, 115, 32, 36, 105, 112, 32, 104, 111, 115, 116, 32, 36, 110, 97, 109, 101]) = false := Yak.2 e1;have p1 : ¬ g = [98, 105, 110, 100, 105, 110, 103, 115, 32, 36, 105, 112, 32, 104, 111, 115, 116, 32, 36, 110, 97, 109, 101] := e1;have q2 : (g == [114, 111, 117, 116, 101, 115, 32, 36, 112, 114, 101, 102, 105, 120, 32, 118, 105, 97, 32, 36, 110, 97, 109, 101]) = false := Yak.2 e2;have p2 : ¬ g = [114, 111, 117, 116, 101, 115, 32, 36, 112, 114, 101, 102, 105, 120, 32, 118, 105, 97, 32, 36, 110, 97, 109, 101] := e2;have q3 : (g == [104, 111, 115, 116, 115, 32, 36, 110, 97, 109, 101, 32, 118, 110, 105, 115, 32, 36, 118, 110, 105]) = false := Yak.2 e3;have p3 : ¬ g = [104, 111, 115, 116, 115, 32, 36, 110, 97, 109, 101, 32, 118, 110, 105, 115, 32, 36, 118, 110, 105] := e3;have q4 : (g == [98, 105, 110, 100, 105, 110, 103, 115, 32, 36, 105, 112, 32, 118, 110, 105, 32, 36, 118, 110, 105]) = false := Yak.2 e4;have p4 : ¬ g = [98, 105, 110, 100, 105, 110, 103, 115, 32, 36, 105, 112, 32, 118, 110, 105, 32, 36, 118, 110, 105] := e4;clear HX HP4 Hg HT HO HTh;go_enter func93, ntmps93;go_wp2_with fail;refine HJ.out.mono ?_;rintro e w2 ⟨rfl, hb2⟩;go_wp2_with fail;go_ret;exact ⟨Zai HK.out.symm, hb2⟩
end Go.Proofs.Zq
namespace Sch
open Go Go.Lib Adr Mtr Tre
abbrev Zpd := List ByteArray × Int
def Zdt (f : Zpd) : List ByteArray × List Value := (f.1, [.int .i64 f.2])
def Zlh (L : List Line) (s : ByteArray) (k : Nat) : Bool := decide (Zbd L k = s)
def Zaee (L : List Line) (i : Nat) (s : ByteArray) : Bool := (kidsB L i).any (Zlh L s)
def oneF (L : List Line) (i : Nat) (r : Rule) (P : List ByteArray) : List Zpd :=
 if r.one && decide ((kidsB L i).length = 0) then [(P, 1)] else if r.one && decide (1 < (kidsB L i).length) then [(P, 4)] else []
def Zgi (L : List Line) (i : Nat) (P : List ByteArray) (W : List ByteArray) : List Zpd := (W.filter fun s => !(Zaee L i s)).map fun s => (P ++ [s], 1)
def Ztb (L : List Line) (i : Nat) (r : Rule) (P : List ByteArray) : List Zpd := if Zgw L i r.path P then [(P, 7)] else []
def Zrq (L : List Line) (i : Nat) (r : Rule) (P : List ByteArray) : List Zpd := oneF L i r P ++ Zgi L i P (Zeb P) ++ Ztb L i r P
theorem Zauf {L : List Line} {i : Nat} {r : Rule} {P : List ByteArray} (h : r.one = false) : oneF L i r P = [] := by unfold oneF; rw [h]; rfl
theorem Zagk (L : List Line) (i : Nat) (P W : List ByteArray) (s : ByteArray) : Zgi L i P (W ++ [s]) = Zgi L i P W ++ (if Zaee L i s then [] else [(P ++ [s], 1)]) := by
 unfold Zgi;rw [Yco, Ybs];cases h : Zaee L i s <;> simp [h]
theorem Znm (L : List Line) (i : Nat) (P W : List ByteArray) : (Zgi L i P W).length ≤ W.length := by
 unfold Zgi; rw [Yax]; exact Ycc _ _
def Zcq (f : Nat → Bool) : Nat → List Nat → Int
 | _, [] => -1
 | j, k :: l => if f k then (j : Int) else Zcq f (j + 1) l
theorem Zqz {f : Nat → Bool} : ∀ (l : List Nat) (j : Nat), decide (0 ≤ Zcq f j l) = l.any f
 | [], j => rfl
 | k :: l, j => by
   unfold Zcq;cases h : f k with
   | true => simp [h]
   | false => simp only [Ydu, if_false, List.any_cons, h, Bool.false_or]; exact Zqz l (j + 1)
theorem Ztw {f : Nat → Bool} : ∀ (l : List Nat) (j : Nat), -1 ≤ Zcq f j l
 | [], j => by unfold Zcq; omega
 | k :: l, j => by
   unfold Zcq;split
   · omega
   · exact Ztw l (j + 1)
theorem Zwz {f : Nat → Bool} {l : List Nat} {j : Nat} (h : j < l.length) : Zcq f j (l.drop j) = if f l[j] then (j : Int) else Zcq f (j + 1) (l.drop (j + 1)) := by
 rw [Yay h]; rfl
end Sch
namespace Go.Proofs.Zq
open Tryz
open Go Go.RowKit Go.Sort Sch Adr Mtr Tre
theorem Zamm (A : Option Addr) (cap : Nat) (L : List Line) (k pt pw : Nat) (s : ByteArray) (w : World) (hR : Rd w 3 A L.length (lines L)) (_hc : cap ≤ maxLen) (_hcap : L.length ≤ cap) (hk : k < L.length) (ht : w.cell? ⟨pt, 0, none⟩ = some (.slice A L.length cap)) (hw : w.cell? ⟨pw, 0, none⟩ = some (.string s)) :
 Calls prog 91 #[.int .i64 k, .pointer (some ⟨pt, 0, none⟩), .pointer (some ⟨pw, 0, none⟩)] w fun e w' => e = .returned (.bool (Zlh L s k)) ∧ Below w.heap.size w w' := by
 unfold maxLen at _hc;obtain ⟨B, O, rfl, hab, hadd, x0, x1, x2⟩ := hR.line hk;have HX : Hid (Zlh L s k = (L[k].word.toList == s.toList)) := by show _ = _; unfold Zlh; rw [Zbi hk, Zads]
 generalize L[k].word = u at *;have hki : (k : Int) < (L.length : Int) := by omega
 have hk0 : (0 : Int) ≤ (k : Int) := by omega
 clear hR x0 x2 hab;go_enter func91, ntmps91;go_wp2_with fail;go_quiet (fail);go_wp2;go_ret;exact ⟨Zai HX.out.symm, below_drewN (Yac _ _) _⟩
theorem Zvd (A : Option Addr) (cap : Nat) (L : List Line) (pt pw : Nat) (s : ByteArray) (Ak : Option Addr) (ck : Nat) (K : List Nat) (w : World) (hR : Rd w 3 A L.length (lines L)) (hc : cap ≤ maxLen) (hcap : L.length ≤ cap) (hK : ∀ k ∈ K, k < L.length) (ht : w.cell? ⟨pt, 0, none⟩ = some (.slice A L.length cap)) (hw : w.cell? ⟨pw, 0, none⟩ = some (.string s))
 (hRk : Rd w 1 Ak K.length (iv K)) (hkl : K.length ≤ 100000) :
 Calls prog 121 #[.slice Ak K.length ck, .func (.func 91) #[] #[.pointer (some ⟨pt, 0, none⟩), .pointer (some ⟨pw, 0, none⟩)]] w fun e w' => e = .returned (.int .i64 (Zcq (Zlh L s) 0 K)) ∧ Below w.heap.size w w' := by
 have HF := _root_.Zhd (fun W (hb : Below w.heap.size w W) k (hk : k < L.length) => Zamm A cap L k pt pw s W (hR.below hb) hc hcap hk ((hb.cell (p := ⟨pt, 0, none⟩) (Lib.lt_of_cell ht)).trans ht) ((hb.cell (p := ⟨pw, 0, none⟩) (Lib.lt_of_cell hw)).trans hw))
 have HR := _root_.Zhd hRk;have HKL := _root_.Zhd hK;have HQ0 : Hid (Zcq (Zlh L s) 0 K = Zcq (Zlh L s) 0 (K.drop 0)) := rfl;generalize Zlh L s = f at *;clear hR hK ht hw hRk;go_enter func121, ntmps121;go_wp2;go_loopw [8] (fun vi wr => ∃ k : Nat, k ≤ K.length ∧ vi = .int .i64 k ∧ Hid (Zcq f 0 K = Zcq f k (K.drop k)) ∧ Hid (Below w.heap.size w wr)) (fun vi _ => K.length - (intOf vi).toNat)
 case atStart => exact ⟨0, Yav _, rfl, HQ0, Yac _ _⟩
 case round =>
  clear HQ0;obtain ⟨k, hk, rfl, HQ, HB⟩ := hrel;by_cases hlt : k < K.length
  · obtain ⟨B, O, rfl, hab, hadd, x0⟩ := (HR.out.below HB.out).intAt hlt;have HC := _root_.Zhd (HF.out wr HB.out _ (HKL.out _ (Yat hlt)));have hst : Hid (Zcq f 0 K = if f K[k] then (k : Int) else Zcq f (k + 1) (K.drop (k + 1))) := HQ.out.trans (Zwz hlt)
    generalize K[k] = r at *;clear HQ;cases hf : f r with
    | true =>
      rw [hf] at hst HC;have HK : Hid (Zcq f 0 K = (k : Int)) := by show _ = _; rw [hst.out]; rfl
      clear hst hf;go_wp2_with fail;refine HC.out.mono ?_;rintro e w2 ⟨rfl, hb2⟩;have HB2 := _root_.Zhd (Zaa HB.out hb2);clear HC HB hb2 x0;go_wp2;go_ret;exact ⟨Zcg HK.out.symm, HB2.out⟩
    | false =>
      rw [hf] at hst HC;have HK : Hid (Zcq f 0 K = Zcq f (k + 1) (K.drop (k + 1))) := by show _ = _; rw [hst.out]; rfl
      clear hst hf;go_wp2_with fail;refine HC.out.mono ?_;rintro e w2 ⟨rfl, hb2⟩;have HB2 := _root_.Zhd (Zaa HB.out hb2);clear HC HB hb2 x0;go_wp2_with fail;go_roundw
      case rel => exact ⟨k + 1, by omega, by go_num, HK, HB2⟩
      case measure => simp [intOf]; omega
  · obtain rfl : k = K.length := by omega
    have HK : Hid (Zcq f 0 K = -1) := by
     show _ = _;rw [HQ.out, Ydh]; rfl
    clear HQ;go_wp2;go_ret;exact ⟨Zcg HK.out.symm, HB.out⟩
theorem Zafk (A : Option Addr) (cap : Nat) (L : List Line) (pt pw : Nat) (s : ByteArray) (Ak : Option Addr) (ck : Nat) (K : List Nat) (w : World) (hR : Rd w 3 A L.length (lines L)) (hc : cap ≤ maxLen) (hcap : L.length ≤ cap) (hK : ∀ k ∈ K, k < L.length) (ht : w.cell? ⟨pt, 0, none⟩ = some (.slice A L.length cap)) (hw : w.cell? ⟨pw, 0, none⟩ = some (.string s))
 (hRk : Rd w 1 Ak K.length (iv K)) (hkl : K.length ≤ 100000) :
 Calls prog 90 #[.slice Ak K.length ck, .func (.func 91) #[] #[.pointer (some ⟨pt, 0, none⟩), .pointer (some ⟨pw, 0, none⟩)]] w fun e w' => e = .returned (.bool (K.any (Zlh L s))) ∧ Below w.heap.size w w' := by
 have HI := _root_.Zhd (Zvd A cap L pt pw s Ak ck K w hR hc hcap hK ht hw hRk hkl);have HA := _root_.Zhd (Zqz (f := Zlh L s) K 0);have hlo := Ztw (f := Zlh L s) K 0;generalize Zcq (Zlh L s) 0 K = z at *;generalize K.any (Zlh L s) = b at *;clear hR hK ht hw hRk;go_enter func90, ntmps90;go_wp2_with fail;refine HI.out.mono ?_;rintro e w2 ⟨rfl, hb2⟩;go_wp2;go_ret;exact ⟨Zai HA.out, hb2⟩
theorem Ztx : (prog.info? 104).map (fun i => (i.zero, i.size, i.bytes)) = some (some (.agg #[.slice none 0 0, .int .i64 0]), 2, 32) := by kernel_rfl
theorem Zet (f : Zpd) : ∀ c ∈ (Zdt f).2, c.oneCell' = true := by
 intro c hc;simp only [Zdt, Yaw, Ybv, or_false] at hc;subst hc; rfl
def Zauj (F : List Zpd) (w : World) (e : Ending) (w' : World) : Prop := (∃ v, e = .returned v ∧ Pl w' w.heap.size 104 2 v (F.map Zdt)) ∧ Below w.heap.size w w'
theorem Ztf (L : List Line) (i : Nat) (r : Rule) (P : List ByteArray) :
 (r.one = false ∧ oneF L i r P = []) ∨ (r.one = true ∧ (kidsB L i).length = 0 ∧ oneF L i r P = [(P, 1)]) ∨ (r.one = true ∧ (kidsB L i).length = 1 ∧ oneF L i r P = []) ∨ (r.one = true ∧ 1 < (kidsB L i).length ∧ oneF L i r P = [(P, 4)]) := by
 unfold oneF;cases h : r.one with
 | false => exact .inl ⟨rfl, rfl⟩
 | true =>
   generalize (kidsB L i).length = n;rcases Nat.lt_trichotomy n 1 with h1 | h1 | h1
   · obtain rfl : n = 0 := by omega
     exact .inr (.inl ⟨rfl, rfl, rfl⟩)
   · subst h1;exact .inr (.inr (.inl ⟨rfl, rfl, rfl⟩))
   · refine .inr (.inr (.inr ⟨rfl, h1, ?_⟩));rw [Yae (by omega), Yal h1]; rfl
end Go.Proofs.Zq
