import Derived.Test.YtkbojechhmmkcaaGreatDoorJ12
set_option linter.unusedVariables false
set_option linter.unusedSimpArgs false
set_option maxHeartbeats 4000000
set_option maxRecDepth 100000
namespace Sch
open Go Go.Lib Adr Mtr Tre
def Zdg (L:List Line) (a b:ByteArray):Bool:=(Zar L [a,b]).isSome
def Zdj (L:List Line) (s vni:ByteArray):Bool:=
 match Zar L [Zfp,vni,Zjd]with
 |none=>false
 | some n=>match kidsB L n with
   | []=>false
   |k::_=>decide (0≤(pre (Zbf L k).data.toList).1)&& !(isIn (pre (Zbf L k).data.toList).1 (pre (Zbf L k).data.toList).2 (max (ip s.data.toList) 0))
def Zik (L:List Line) (s:ByteArray) (k:Nat):Nat→Bool
 |0=>false
 |n+1=>Zbm [Zcn,Zgs,wIp,s] (Zen L k)||Zik L s (k+1) n
def Zlt (L:List Line) (i:Nat) (s:ByteArray):Bool:=Zik L s 0 i
theorem Zzs (L:List Line): ∀ k,k≤L.length→ ∀ s∈ups L k,∃ j,j<L.length∧s=Zbf L j
 |0,_,s,h=>by rw[Zqf]at h;cases h
 | k+1,hk,s,h=>by
   have hu:=Zim L k;rw[Zli]at h;rcases Yax.1 h with rfl|h
   · exact⟨k,by omega,rfl⟩
   · exact Zzs L (Zdp L k+1).toNat (by omega) s h
theorem Zahl {L:List Line} {i:Nat} (hi:i<L.length): ∀ s∈Zen L i,∃ j,j<L.length∧s=Zbf L j:=by
 intro s h;unfold Zen at h;exact Zzs L (i+1) (by omega) s (by simpa using h)
def m1:List UInt8:= [104,111,115,116,115,32,36,110,97,109,101,32,105,112,32,36,105,112]
def m2:List UInt8:= [98,105,110,100,105,110,103,115,32,36,105,112,32,104,111,115,116,32,36,110,97,109,101]
def m3:List UInt8:= [114,111,117,116,101,115,32,36,112,114,101,102,105,120,32,118,105,97,32,36,110,97,109,101]
def m4:List UInt8:= [104,111,115,116,115,32,36,110,97,109,101,32,118,110,105,115,32,36,118,110,105]
def m5:List UInt8:= [98,105,110,100,105,110,103,115,32,36,105,112,32,118,110,105,32,36,118,110,105]
def Zff (p:List ByteArray):List UInt8:=glue 32 (p.map (·.data.toList))
def Zgy (L:List Line) (i:Nat) (p P:List ByteArray):Bool:=
 if Zff p=m1 then Zlt L i (P.getD 3 ⟨#[]⟩)
 else if Zff p=m2∨Zff p=m3 then !(Zdg L Zcn (P.getD 3 ⟨#[]⟩))
 else if Zff p=m4 then !(Zdg L Zfp (P.getD 3 ⟨#[]⟩))
 else if Zff p=m5 then !(Zdg L Zfp (P.getD 3 ⟨#[]⟩))||Zdj L (P.getD 1 ⟨#[]⟩) (P.getD 3 ⟨#[]⟩)
 else false
theorem Zahg: ∀ r∈Zam,(Zff r.path=m1∨Zff r.path=m2∨Zff r.path=m3∨Zff r.path=m4∨Zff r.path=m5)→r.path.length=4:=by decide+kernel
theorem Zakn: ∀ r∈Zam,(Zff r.path).length≤100:=by decide+kernel
end Sch
namespace Go.Proofs.Zq
open Tryz
open Go Go.RowKit Go.Sort Sch Adr Mtr Tre
theorem Zzv {L:List Line} (hr:Zab L=true) {j:Nat} (hj:j<L.length):(Zbf L j).size≤40:=by
 rw[Zbj hj];have:=Zsc hr _ (Yau hj);unfold Zbx at this;simp only[Yat,Yap]at this;omega
theorem Zud {L:List Line} (hr:Zab L=true) {i:Nat} (hi:i<L.length):Shw (Zen L i):=fun s hs=>by
 obtain⟨j,hj,rfl⟩:=Zahl hi s hs;have:=Zzv hr hj;omega
theorem Zanf (w:World) (P:List ByteArray) (T:TypeId):Rd (w.alloc (.cells (sv P).toArray T)) 1 (some ⟨w.heap.size,0,none⟩) P.length (sv P):=
 ⟨by rw[Zij];simp,fun _=>⟨_,rfl,by simp,fun j u hu=>by
  rw[Zag,Ybj,World.cell?_alloc_at _ _ _ _ rfl];simpa using hu⟩⟩
theorem Zaie (A:Option Addr) (cap:Nat) (L:List Line) (a b:ByteArray) (w:World) (hR:Rd w 3 A L.length (lines L)) (hcap:L.length≤cap) (hc:cap≤maxLen) (hr:Zab L=true):
 Calls prog 141 #[.slice A L.length cap, .string a, .string b] w fun e w'=>e= .returned (.bool (Zdg L a b))∧Below w.heap.size w w':=by
 obtain⟨w0,hw0⟩: ∃ w0,w.alloc (.cells #[.string a, .string b] 9)=w0:=⟨_,rfl⟩;have hb0:Below w.heap.size w w0:=by rw[←hw0];exact(Yae _ _).alloc (Yag _) _
 have hlit:Rd w0 1 (some ⟨w.heap.size,0,none⟩) 2 (sv [a,b]):=by rw[←hw0];exact Zanf w [a,b] _
 have HC:=Zhd (Zbq A cap L (some ⟨w.heap.size,0,none⟩) 2 [a,b] w0 (hR.below hb0) hcap hc hr hlit (Yag 2) (by unfold maxLen;decide))
 have HX:Hid (Zdg L a b=(Zar L [a,b]).isSome):=rfl;have HB:=Zhd hb0;have HC2:Hid (Calls prog 47 #[.slice A L.length cap, .slice (some ⟨w.heap.size,0,none⟩) 2 2] w0 fun e w'=>e= .returned (.tuple #[.int .i64 (Zpd (Zar L [a,b])), .bool (Zar L [a,b]).isSome])∧Below w0.heap.size w0 w'):=HC.out
 clear hR hb0 hlit HC;generalize Zpd (Zar L [a,b])=z at *;generalize (Zar L [a,b]).isSome=t at *;go_enter func141,ntmps141;go_wp2_with fail;refine HC2.out.mono ?_;rintro e w2 ⟨rfl,hb2⟩;go_wp2;go_ret;exact⟨Zaj HX.out.symm,Zaa HB.out hb2⟩
theorem Zabs (A:Option Addr) (cap:Nat) (L:List Line) (s vni:ByteArray) (w:World) (hE:Env w) (hR:Rd w 3 A L.length (lines L)) (hcap:L.length≤cap) (hc:cap≤maxLen) (hr:Zab L=true) (hs:s.size≤100000000):
 Calls prog 142 #[.slice A L.length cap, .string s, .string vni] w fun e w'=>e= .returned (.bool (Zdj L s vni))∧Below w.heap.size w w':=by
 obtain⟨w0,hw0⟩: ∃ w0,w.alloc (.cells #[.string Zfp, .string vni, .string Zjd] 9)=w0:=⟨_,rfl⟩;have hb0:Below w.heap.size w w0:=by rw[←hw0];exact(Yae _ _).alloc (Yag _) _
 have hlit:Rd w0 1 (some ⟨w.heap.size,0,none⟩) 3 (sv [Zfp,vni,Zjd]):=by rw[←hw0];exact Zanf w [Zfp,vni,Zjd] _
 have HC:=Zbq A cap L (some ⟨w.heap.size,0,none⟩) 3 [Zfp,vni,Zjd] w0 (hR.below hb0) hcap hc hr hlit (Yag 3) (by unfold maxLen;decide)
 have h200:=Zas hr;have HB:=Zhd hb0;have HE:=Zhd (hE.below hb0);have HR:=Zhd (hR.below hb0);have HW0:=hw0;unfold Zfp Zjd at HW0;clear hw0;cases hf:Zar L [Zfp,vni,Zjd]with
 | none=>
   have HX:Hid (Zdj L s vni=false):=by show _=_;unfold Zdj;rw[hf]
   rw[hf]at HC;have HC2:Hid (Calls prog 47 #[.slice A L.length cap, .slice (some ⟨w.heap.size,0,none⟩) 3 3] w0 fun e w'=>e= .returned (.tuple #[.int .i64 0, .bool false])∧Below w0.heap.size w0 w'):=HC
   clear hR hb0 hlit HC hE hf HE HR;go_enter func142,ntmps142;go_wp2_with fail;refine HC2.out.mono ?_;rintro e w2 ⟨rfl,hb2⟩;go_wp2;go_ret;exact⟨Zaj HX.out.symm,Zaa HB.out hb2⟩
 | some n=>
   have hn:=Zce hf
   have HX:Hid (Zdj L s vni=match kidsB L n with| []=>false|k::_=>decide (0≤(pre (Zbf L k).data.toList).1)&& !(isIn (pre (Zbf L k).data.toList).1 (pre (Zbf L k).data.toList).2 (max (ip s.data.toList) 0))):=by
    show _=_;unfold Zdj;rw[hf]
   rw[hf]at HC;have HC2:Hid (Calls prog 47 #[.slice A L.length cap, .slice (some ⟨w.heap.size,0,none⟩) 3 3] w0 fun e w'=>e= .returned (.tuple #[.int .i64 n, .bool true])∧Below w0.heap.size w0 w'):=HC
   have HK:=Zhd (fun W hb=>Zmz A cap L n W (HR.out.below hb) hcap hc hr hn)
   have HI:=Zhd (fun W hb=>Zadx s W (HE.out.below hb) hs)
   have HKL:Hid (∀ k∈kidsB L n,k<L.length):=fun k hk=>by
    have:=Zbb.1 hk;have h2:=Zbc L n hn;omega
   have hws:=Zhd (fun j (hj:j<L.length)=>Zzv hr hj)
   clear hR hb0 hlit HC hE hf;go_enter func142,ntmps142;go_wp2_with fail;refine HC2.out.mono ?_;rintro e w2 ⟨rfl,hb2⟩;have HC3:=HK.out w2 hb2;have HB2:=Zhd hb2;clear HC2 hb2 HK;go_wp2_with fail;refine HC3.mono ?_;clear HC3;unfold Zgc;rintro e w3 ⟨A3,c3,rfl,hk1,hk2,hrd,hb3⟩;have HB3:=Zhd (Zaa HB2.out hb3);unfold maxLen at hk2;cases hks:kidsB L n with
   | nil=>
     rw[hks]at HX;clear HB2 hb3 hrd hk1 hk2 HKL HI hws;go_wp2;go_ret;exact⟨Zaj HX.out.symm,Zaa HB.out HB3.out⟩
   | cons k ks=>
     rw[hks]at hrd HX hk1;have hkl:k<L.length:=HKL.out k (by rw[hks];simp)
     obtain⟨B4,O4,rfl,-,-,k0⟩:=hrd.intAt (i:=0) (by simp)
     simp only[Yef,Yej]at k0;obtain⟨B,O,rfl,hab,hadd,x0,x1,x2⟩:=(HR.out.below HB3.out).line hkl;have HPr:=Zhd (fun W hb=>Zamv L[k].word W (HE.out.below hb) (by have:=hws.out k hkl;rw[Zbj hkl]at this;omega))
     have HX2:Hid (Zdj L s vni=(decide (0≤(pre L[k].word.data.toList).1)&& !(isIn (pre L[k].word.data.toList).1 (pre L[k].word.data.toList).2 (max (ip s.data.toList) 0)))):=by
      show _=_;rw[HX.out,←Zbj hkl]
     generalize L[k].word=sw at *;generalize pre sw.data.toList=pr at *;have hnl:(k::ks).length=ks.length+1:=rfl;clear HX HB2 hb3 hrd hk1 HKL hws x0 x2 hks;have hpr:Hid (Zji pr= .tuple #[.int .i64 (max pr.1 0), .int .i64 pr.2, .bool (decide (0≤pr.1))]):=rfl;have hir:Hid (Zln (ip s.data.toList)= .tuple #[.int .i64 (max (ip s.data.toList) 0), .bool (decide (0≤ip s.data.toList))]):=rfl;have HIn:=Zhd (fun W=>Zaxu pr.1 pr.2 (max (ip s.data.toList) 0) W)
     by_cases hp0:0≤pr.1
     · have HX3:Hid (Zdj L s vni= !(isIn pr.1 pr.2 (max (ip s.data.toList) 0))):=by show _=_;rw[HX2.out,Yal hp0];rfl
       have hd:Hid (decide (0≤pr.1)=true):=Yal hp0;have hm:Hid (max pr.1 0=pr.1):=by show _=_;omega
       clear HX2 hp0;generalize max (ip s.data.toList) 0=z at *;generalize decide (0≤ip s.data.toList)=zb at *;generalize isIn pr.1 pr.2 z=ib at *;go_wp2_with fail;refine(HPr.out w3 HB3.out).mono ?_;rw[hpr.out,hd.out,hm.out];rintro e w4 ⟨rfl,hb4⟩;have HB4:=Zhd (Zaa HB3.out hb4);clear HPr hb4 hpr;go_wp2_with fail;refine(HI.out w4 HB4.out).mono ?_;rw[hir.out];rintro e w5 ⟨rfl,hb5⟩;have HB5:=Zhd (Zaa HB4.out hb5);clear HI hb5 hir;go_wp2_with fail;refine(HIn.out w5).mono ?_;rintro e w6 ⟨rfl,rfl⟩;go_wp2;go_ret;exact⟨Zaj HX3.out.symm,Zaa HB.out HB5.out⟩
     · have HX3:Hid (Zdj L s vni=false):=by show _=_;rw[HX2.out,Yah hp0];rfl
       have hd:Hid (decide (0≤pr.1)=false):=Yah hp0;clear HX2 hp0 HIn;generalize max (ip s.data.toList) 0=z at *;generalize decide (0≤ip s.data.toList)=zb at *;generalize max pr.1 0=y at *;go_wp2_with fail;refine(HPr.out w3 HB3.out).mono ?_;rw[hpr.out,hd.out];rintro e w4 ⟨rfl,hb4⟩;have HB4:=Zhd (Zaa HB3.out hb4);clear HPr hb4 hpr;go_wp2_with fail;refine(HI.out w4 HB4.out).mono ?_;rw[hir.out];rintro e w5 ⟨rfl,hb5⟩;have HB5:=Zhd (Zaa HB4.out hb5);clear HI hb5 hir;go_wp2;go_ret;exact⟨Zaj HX3.out.symm,Zaa HB.out HB5.out⟩
theorem Zaol (A:Option Addr) (cap:Nat) (L:List Line) (i:Nat) (A2:Option Addr) (c2:Nat) (P:List ByteArray) (s:ByteArray) (w:World) (hE:Env w) (hR:Rd w 3 A L.length (lines L)) (hcap:L.length≤cap) (hc:cap≤maxLen) (hr:Zab L=true) (hi:i≤L.length) (hP:Rd w 1 A2 P.length (sv P)) (hp3:P[3]?=some s) (hpl:P.length≤100000) (hs:s.size≤100000000):
 Calls prog 140 #[.slice A L.length cap, .int .i64 i, .slice A2 P.length c2] w fun e w'=>e= .returned (.bool (Zlt L i s))∧Below w.heap.size w w':=by
 have h200:=Zas hr;have hP3:3<P.length:=(Yba.1 hp3).1;have hP3i:(3:Int)<(P.length:Int):=by omega
 have hPs:P[3]=s:=(Yba.1 hp3).2;have HE:=Zhd hE;have HR:=Zhd hR;have HP:=Zhd hP;have HPS:=Zhd hPs;have HPa:=Zhd (fun(k:Nat) (hk:k<L.length) W hb=>Zuc A cap L k W (hR.below hb) hcap hc hr hk)
 have HSh:=Zhd (fun(k:Nat) (hk:k<L.length)=>Zud hr hk)
 have HX:Hid (Zlt L i s=Zik L s 0 (i-0)):=rfl;unfold maxLen at hc;clear hE hR hP hPs hp3;go_enter func140,ntmps140;go_wp2;go_loopw [11] (fun vi wr=> ∃ k:Nat,k≤i∧vi= .int .i64 k∧Hid (Zlt L i s=Zik L s k (i-k))∧Hid (Below w.heap.size w wr)) (fun vi _=>i-(intOf vi).toNat)
 case atStart=>exact⟨0,Yao _,rfl,HX,Yae _ _⟩
 case round=>
  clear HX;obtain⟨k,hk,rfl,HQ,HB⟩:=hrel;by_cases hlt:k<i
  · have hkl:k<L.length:=by omega
    have hst:Hid (Zlt L i s=(Zbm [Zcn,Zgs,wIp,s] (Zen L k)||Zik L s (k+1) (i-(k+1)))):=by
     show _=_;rw[HQ.out,show i-k=(i-(k+1))+1 by omega];rfl
    have HPk:=HPa.out k hkl wr HB.out;have HSk:=HSh.out k hkl;have hplen:=Zamm L k;unfold Zuo at HPk;obtain⟨B2,O2,rfl,-,-,z0⟩:=(HP.out.below HB.out).strAt hP3;rw[HPS.out]at z0;generalize Zen L k=pk at *;clear HQ;go_wp2_with fail;refine HPk.mono ?_;clear HPk;rintro e w2 ⟨A3,c3,rfl,hk1,hk2,hrd,-,hb2⟩;have HB2:=Zhd (Zaa HB.out hb2);have z2:w2.cell? ⟨B2,O2+3,none⟩=some (.string s):=(hb2.cell (p:=⟨B2,O2+3,none⟩) (Lib.lt_of_cell z0)).trans z0;obtain⟨w3,hw3⟩: ∃ w3,w2.alloc (.cells #[.string Zcn, .string Zgs, .string wIp, .string s] 9)=w3:=⟨_,rfl⟩;have hb3:Below w2.heap.size w2 w3:=by rw[←hw3];exact(Yae _ _).alloc (Yag _) _
    have hlit:Rd w3 1 (some ⟨w2.heap.size,0,none⟩) 4 (sv [Zcn,Zgs,wIp,s]):=by rw[←hw3];exact Zanf w2 [Zcn,Zgs,wIp,s] _
    have HB3:=Zhd (Zaa HB2.out hb3)
    have HM:=Zhd (Zka (some ⟨w2.heap.size,0,none⟩) 4 [Zcn,Zgs,wIp,s] A3 c3 pk w3 (HE.out.below HB3.out) hlit (hrd.below hb3) (by simp) (by omega) (fun x hx=>by
     simp only[Yax,Yby,or_false]at hx;rcases hx with rfl|rfl|rfl|rfl
     · decide
     · decide
     · decide
     · exact hs) HSk)
    have HM2:Hid (Calls prog 101 #[.slice (some ⟨w2.heap.size,0,none⟩) 4 4, .slice A3 pk.length c3] w3 fun e w'=>e= .returned (.bool (Zbm [Zcn,Zgs,wIp,s] pk))∧Below w3.heap.size w3 w'):=HM.out
    generalize Zbm [Zcn,Zgs,wIp,s] pk=mb at *;unfold Zcn Zgs wIp at hw3;clear HB hb2 z0 hrd hk1 hk2 HB2 hb3 hlit HM HSk;cases mb with
    | true=>
      have HF:Hid (Zlt L i s=true):=by show _=_;rw[hst.out];rfl
      clear hst;go_wp2_with fail;refine HM2.out.mono ?_;rintro e w4 ⟨rfl,hb4⟩;have HB4:=Zhd (Zaa HB3.out hb4);clear HM2 hb4;go_wp2;go_ret;exact⟨Zaj HF.out.symm,HB4.out⟩
    | false=>
      have HF:Hid (Zlt L i s=Zik L s (k+1) (i-(k+1))):=by show _=_;rw[hst.out];rfl
      clear hst;go_wp2_with fail;refine HM2.out.mono ?_;rintro e w4 ⟨rfl,hb4⟩;have HB4:=Zhd (Zaa HB3.out hb4);clear HM2 hb4;go_wp2_with fail;go_roundw
      case rel=>exact⟨k+1,by omega,by go_num,HF,HB4⟩
      case measure=>simp[intOf];omega
  · obtain rfl:k=i:=by omega
    have HF:Hid (Zlt L k s=false):=by show _=_;rw[HQ.out,Yep];rfl
    clear HQ;go_wp2;go_ret;exact⟨Zaj HF.out.symm,HB.out⟩
theorem Zalv (A:Option Addr) (cap:Nat) (L:List Line) (i:Nat) (b c:Nat) (r:Rule) (A2:Option Addr) (c2:Nat) (P:List ByteArray) (w:World) (hE:Env w) (hR:Rd w 3 A L.length (lines L)) (hcap:L.length≤cap) (hc:cap≤maxLen) (hr:Zab L=true) (hi:i≤L.length)
 (hru:r∈Zam) (hrd:Rd w 1 (some ⟨b,0,none⟩) r.path.length (sv r.path)) (hrc:r.path.length≤c) (hP:Rd w 1 A2 P.length (sv P)) (hPl:r.path.length=P.length) (hpl:P.length≤100000) (hps:Shw P):
 Calls prog 109 #[.slice A L.length cap, .int .i64 i, .slice (some ⟨b,0,none⟩) r.path.length c, .slice A2 P.length c2] w fun e w'=>e= .returned (.bool (Zgy L i r.path P))∧Below w.heap.size w w':=by
 have hlp:(r.path.map (·.data.toList)).length=r.path.length:=Yaz _;have hJ:=Zadz (some ⟨b,0,none⟩) c (r.path.map (·.data.toList)) 32 w (by rw[hlp];exact hrc) (by rw[hlp,←Zacj];exact hrd) (fun ad e=>by cases e;rfl) (by have:=Zakn r hru;unfold Zff at this;omega) (by rw[hlp];have:=(Zig r hru).2;omega)
 rw[hlp]at hJ;have HJ:Hid (Calls prog 139 #[.slice (some ⟨b,0,none⟩) r.path.length c, .string ⟨#[32]⟩] w fun e w'=>e= .returned (.string ⟨(Zff r.path).toArray⟩)∧Below w.heap.size w w'):=hJ
 have h4:=Zahg r hru
 have HX:Hid (Zgy L i r.path P=if Zff r.path=m1 then Zlt L i (P.getD 3 ⟨#[]⟩)
  else if Zff r.path=m2∨Zff r.path=m3 then !(Zdg L Zcn (P.getD 3 ⟨#[]⟩))
  else if Zff r.path=m4 then !(Zdg L Zfp (P.getD 3 ⟨#[]⟩))
  else if Zff r.path=m5 then !(Zdg L Zfp (P.getD 3 ⟨#[]⟩))||Zdj L (P.getD 1 ⟨#[]⟩) (P.getD 3 ⟨#[]⟩)
  else false):=rfl
 have Hg:=Zhd (fun l=>show((⟨(Zff r.path).toArray⟩:ByteArray).toList==l)=decide (Zff r.path=l) by
  rw[Lib.toList_data,Zch,Ycl,beq_iff_eq,Yap])
 have HT:=Zhd (fun s W hb hp3 hs=>Zaol A cap L i A2 c2 P s W (hE.below hb) (hR.below hb) hcap hc hr hi (hP.below hb) hp3 hpl hs)
 have HTh:=Zhd (fun a b W hb=>Zaie A cap L a b W (hR.below hb) hcap hc hr)
 have HO:=Zhd (fun s v W hb hs=>Zabs A cap L s v W (hE.below hb) (hR.below hb) hcap hc hr hs)
 have HP:=Zhd hP;have HPS:=Zhd hps;have HP4:Hid ((Zff r.path=m1∨Zff r.path=m2∨Zff r.path=m3∨Zff r.path=m4∨Zff r.path=m5)→4=P.length):=fun h=>(h4 h).symm.trans hPl
 clear hJ hE hR hP hps h4 hrd hPl hlp;generalize Zff r.path=g at *;by_cases e0:g=m1
 · have HK:Hid (Zgy L i r.path P=(Zlt L i (P.getD 3 ⟨#[]⟩))):=by show _=_;rw[HX.out,Yan e0]
   have hP4:=HP4.out (.inl e0);have q0:((⟨g.toArray⟩:ByteArray).toList== [104,111,115,116,115,32,36,110,97,109,101,32,105,112,32,36,105,112])=true:=(Hg.out _).trans (Yal e0);have p0:(⟨g.toArray⟩:ByteArray).toList= [104,111,115,116,115,32,36,110,97,109,101,32,105,112,32,36,105,112]:=by simpa using q0
   have hp3:P[3]?=some (P[3]'(by omega)):=Yaj _
   have hsz:=HPS.out _ (Yau (by omega:3<P.length))
   have hg3:P.getD 3 ⟨#[]⟩=P[3]'(by omega):=by rw[Yaq,hp3];rfl
   rw[hg3]at HK;have h3i:(3:Int)<(P.length:Int):=by omega
   clear HX HP4 Hg e0 HTh HO hg3;go_enter func109,ntmps109;go_wp2_with fail;refine HJ.out.mono ?_;rintro e w2 ⟨rfl,hb2⟩;go_wp2_with fail;refine(HT.out _ w2 hb2 hp3 hsz).mono ?_;rintro e w3 ⟨rfl,hb3⟩;have hb4:=Zaa hb2 hb3;clear HT hb2 hb3 hp3;go_wp2;go_ret;exact⟨Zaj HK.out.symm,hb4⟩
 by_cases e1:g=m2
 · have HK:Hid (Zgy L i r.path P=(!(Zdg L Zcn (P.getD 3 ⟨#[]⟩)))):=by show _=_;rw[HX.out,Yad e0,Yan (.inl e1)]
   have hP4:=HP4.out (.inr (.inl e1));have q0:((⟨g.toArray⟩:ByteArray).toList== [104,111,115,116,115,32,36,110,97,109,101,32,105,112,32,36,105,112])=false:=(Hg.out _).trans (Yah e0);have p0: ¬ (⟨g.toArray⟩:ByteArray).toList= [104,111,115,116,115,32,36,110,97,109,101,32,105,112,32,36,105,112]:=by simpa using q0
   have q1:((⟨g.toArray⟩:ByteArray).toList== [98,105,110,100,105,110,103,115,32,36,105,112,32,104,111,115,116,32,36,110,97,109,101])=true:=(Hg.out _).trans (Yal e1);have p1:(⟨g.toArray⟩:ByteArray).toList= [98,105,110,100,105,110,103,115,32,36,105,112,32,104,111,115,116,32,36,110,97,109,101]:=by simpa using q1
   have hp3:P[3]?=some (P[3]'(by omega)):=Yaj _
   have hsz:=HPS.out _ (Yau (by omega:3<P.length))
   have hg3:P.getD 3 ⟨#[]⟩=P[3]'(by omega):=by rw[Yaq,hp3];rfl
   rw[hg3]at HK;have h3i:(3:Int)<(P.length:Int):=by omega
   obtain⟨tb,htb⟩: ∃ tb,Zdg L Zcn P[3]=tb:=⟨_,rfl⟩;have HTH:=Zhd (fun W hb=>HTh.out Zcn P[3] W hb)
   rw[htb]at HTH HK;unfold Zcn at HTH;clear HX HP4 Hg e0 e1 HT HO hg3 HTh hp3 htb;go_enter func109,ntmps109;go_wp2_with fail;refine HJ.out.mono ?_;rintro e w2 ⟨rfl,hb2⟩;obtain⟨B2,O2,rfl,-,-,z0⟩:=(HP.out.below hb2).strAt (by omega:3<P.length)
   generalize P[3]=s at *;go_wp2_with fail;refine(HTH.out w2 hb2).mono ?_;rintro e w3 ⟨rfl,hb3⟩;have hb4:=Zaa hb2 hb3;clear HTH hb2 hb3;go_wp2;go_ret;exact⟨Zaj HK.out.symm,hb4⟩
 by_cases e2:g=m3
 · have HK:Hid (Zgy L i r.path P=(!(Zdg L Zcn (P.getD 3 ⟨#[]⟩)))):=by show _=_;rw[HX.out,Yad e0,Yan (.inr e2)]
   have hP4:=HP4.out (.inr (.inr (.inl e2)));have q0:((⟨g.toArray⟩:ByteArray).toList== [104,111,115,116,115,32,36,110,97,109,101,32,105,112,32,36,105,112])=false:=(Hg.out _).trans (Yah e0);have p0: ¬ (⟨g.toArray⟩:ByteArray).toList= [104,111,115,116,115,32,36,110,97,109,101,32,105,112,32,36,105,112]:=by simpa using q0
   have q1:((⟨g.toArray⟩:ByteArray).toList== [98,105,110,100,105,110,103,115,32,36,105,112,32,104,111,115,116,32,36,110,97,109,101])=false:=(Hg.out _).trans (Yah e1);have p1: ¬ (⟨g.toArray⟩:ByteArray).toList= [98,105,110,100,105,110,103,115,32,36,105,112,32,104,111,115,116,32,36,110,97,109,101]:=by simpa using q1
   have q2:((⟨g.toArray⟩:ByteArray).toList== [114,111,117,116,101,115,32,36,112,114,101,102,105,120,32,118,105,97,32,36,110,97,109,101])=true:=(Hg.out _).trans (Yal e2);have p2:(⟨g.toArray⟩:ByteArray).toList= [114,111,117,116,101,115,32,36,112,114,101,102,105,120,32,118,105,97,32,36,110,97,109,101]:=by simpa using q2
   have hp3:P[3]?=some (P[3]'(by omega)):=Yaj _
   have hsz:=HPS.out _ (Yau (by omega:3<P.length))
   have hg3:P.getD 3 ⟨#[]⟩=P[3]'(by omega):=by rw[Yaq,hp3];rfl
   rw[hg3]at HK;have h3i:(3:Int)<(P.length:Int):=by omega
   obtain⟨tb,htb⟩: ∃ tb,Zdg L Zcn P[3]=tb:=⟨_,rfl⟩;have HTH:=Zhd (fun W hb=>HTh.out Zcn P[3] W hb)
   rw[htb]at HTH HK;unfold Zcn at HTH;clear HX HP4 Hg e0 e1 e2 HT HO hg3 HTh hp3 htb;go_enter func109,ntmps109;go_wp2_with fail;refine HJ.out.mono ?_;rintro e w2 ⟨rfl,hb2⟩;obtain⟨B2,O2,rfl,-,-,z0⟩:=(HP.out.below hb2).strAt (by omega:3<P.length)
   generalize P[3]=s at *;go_wp2_with fail;refine(HTH.out w2 hb2).mono ?_;rintro e w3 ⟨rfl,hb3⟩;have hb4:=Zaa hb2 hb3;clear HTH hb2 hb3;go_wp2;go_ret;exact⟨Zaj HK.out.symm,hb4⟩
 by_cases e3:g=m4
 · have HK:Hid (Zgy L i r.path P=(!(Zdg L Zfp (P.getD 3 ⟨#[]⟩)))):=by show _=_;rw[HX.out,Yad e0,Yad (not_or.2 ⟨e1,e2⟩),Yan e3]
   have hP4:=HP4.out (.inr (.inr (.inr (.inl e3))));have q0:((⟨g.toArray⟩:ByteArray).toList== [104,111,115,116,115,32,36,110,97,109,101,32,105,112,32,36,105,112])=false:=(Hg.out _).trans (Yah e0);have p0: ¬ (⟨g.toArray⟩:ByteArray).toList= [104,111,115,116,115,32,36,110,97,109,101,32,105,112,32,36,105,112]:=by simpa using q0
   have q1:((⟨g.toArray⟩:ByteArray).toList== [98,105,110,100,105,110,103,115,32,36,105,112,32,104,111,115,116,32,36,110,97,109,101])=false:=(Hg.out _).trans (Yah e1);have p1: ¬ (⟨g.toArray⟩:ByteArray).toList= [98,105,110,100,105,110,103,115,32,36,105,112,32,104,111,115,116,32,36,110,97,109,101]:=by simpa using q1
   have q2:((⟨g.toArray⟩:ByteArray).toList== [114,111,117,116,101,115,32,36,112,114,101,102,105,120,32,118,105,97,32,36,110,97,109,101])=false:=(Hg.out _).trans (Yah e2);have p2: ¬ (⟨g.toArray⟩:ByteArray).toList= [114,111,117,116,101,115,32,36,112,114,101,102,105,120,32,118,105,97,32,36,110,97,109,101]:=by simpa using q2
   have q3:((⟨g.toArray⟩:ByteArray).toList== [104,111,115,116,115,32,36,110,97,109,101,32,118,110,105,115,32,36,118,110,105])=true:=(Hg.out _).trans (Yal e3);have p3:(⟨g.toArray⟩:ByteArray).toList= [104,111,115,116,115,32,36,110,97,109,101,32,118,110,105,115,32,36,118,110,105]:=by simpa using q3
   have hp3:P[3]?=some (P[3]'(by omega)):=Yaj _
   have hsz:=HPS.out _ (Yau (by omega:3<P.length))
   have hg3:P.getD 3 ⟨#[]⟩=P[3]'(by omega):=by rw[Yaq,hp3];rfl
   rw[hg3]at HK;have h3i:(3:Int)<(P.length:Int):=by omega
   obtain⟨tb,htb⟩: ∃ tb,Zdg L Zfp P[3]=tb:=⟨_,rfl⟩;have HTH:=Zhd (fun W hb=>HTh.out Zfp P[3] W hb)
   rw[htb]at HTH HK;unfold Zfp at HTH;clear HX HP4 Hg e0 e1 e2 e3 HT HO hg3 HTh hp3 htb;go_enter func109,ntmps109;go_wp2_with fail;refine HJ.out.mono ?_;rintro e w2 ⟨rfl,hb2⟩;obtain⟨B2,O2,rfl,-,-,z0⟩:=(HP.out.below hb2).strAt (by omega:3<P.length)
   generalize P[3]=s at *;go_wp2_with fail;refine(HTH.out w2 hb2).mono ?_;rintro e w3 ⟨rfl,hb3⟩;have hb4:=Zaa hb2 hb3;clear HTH hb2 hb3;go_wp2;go_ret;exact⟨Zaj HK.out.symm,hb4⟩
 by_cases e4:g=m5
 · have HK:Hid (Zgy L i r.path P=(!(Zdg L Zfp (P.getD 3 ⟨#[]⟩))||Zdj L (P.getD 1 ⟨#[]⟩) (P.getD 3 ⟨#[]⟩))):=by show _=_;rw[HX.out,Yad e0,Yad (not_or.2 ⟨e1,e2⟩),Yad e3,Yan e4]
   have hP4:=HP4.out (.inr (.inr (.inr (.inr e4))));have q0:((⟨g.toArray⟩:ByteArray).toList== [104,111,115,116,115,32,36,110,97,109,101,32,105,112,32,36,105,112])=false:=(Hg.out _).trans (Yah e0);have p0: ¬ (⟨g.toArray⟩:ByteArray).toList= [104,111,115,116,115,32,36,110,97,109,101,32,105,112,32,36,105,112]:=by simpa using q0
   have q1:((⟨g.toArray⟩:ByteArray).toList== [98,105,110,100,105,110,103,115,32,36,105,112,32,104,111,115,116,32,36,110,97,109,101])=false:=(Hg.out _).trans (Yah e1);have p1: ¬ (⟨g.toArray⟩:ByteArray).toList= [98,105,110,100,105,110,103,115,32,36,105,112,32,104,111,115,116,32,36,110,97,109,101]:=by simpa using q1
   have q2:((⟨g.toArray⟩:ByteArray).toList== [114,111,117,116,101,115,32,36,112,114,101,102,105,120,32,118,105,97,32,36,110,97,109,101])=false:=(Hg.out _).trans (Yah e2);have p2: ¬ (⟨g.toArray⟩:ByteArray).toList= [114,111,117,116,101,115,32,36,112,114,101,102,105,120,32,118,105,97,32,36,110,97,109,101]:=by simpa using q2
   have q3:((⟨g.toArray⟩:ByteArray).toList== [104,111,115,116,115,32,36,110,97,109,101,32,118,110,105,115,32,36,118,110,105])=false:=(Hg.out _).trans (Yah e3);have p3: ¬ (⟨g.toArray⟩:ByteArray).toList= [104,111,115,116,115,32,36,110,97,109,101,32,118,110,105,115,32,36,118,110,105]:=by simpa using q3
   have q4:((⟨g.toArray⟩:ByteArray).toList== [98,105,110,100,105,110,103,115,32,36,105,112,32,118,110,105,32,36,118,110,105])=true:=(Hg.out _).trans (Yal e4);have p4:(⟨g.toArray⟩:ByteArray).toList= [98,105,110,100,105,110,103,115,32,36,105,112,32,118,110,105,32,36,118,110,105]:=by simpa using q4
   have hp3:P[3]?=some (P[3]'(by omega)):=Yaj _
   have hsz:=HPS.out _ (Yau (by omega:3<P.length))
   have hg3:P.getD 3 ⟨#[]⟩=P[3]'(by omega):=by rw[Yaq,hp3];rfl
   rw[hg3]at HK;have hg1:P.getD 1 ⟨#[]⟩=P[1]'(by omega):=by rw[Yaq,Yaj (by omega)];rfl
   rw[hg1]at HK;have hsz1:=HPS.out _ (Yau (by omega:1<P.length))
   have h3i:(3:Int)<(P.length:Int):=by omega
   have h1i:(1:Int)<(P.length:Int):=by omega
   clear HX HP4 Hg e0 e1 e2 e3 e4 HT hg3 hp3 hg1;go_enter func109,ntmps109;go_wp2_with fail;refine HJ.out.mono ?_;rintro e w2 ⟨rfl,hb2⟩;obtain⟨B2,O2,rfl,-,-,z3⟩:=(HP.out.below hb2).strAt (by omega:3<P.length)
   obtain⟨B3,O3,hA3,-,-,z1⟩:=(HP.out.below hb2).strAt (by omega:1<P.length)
   injection hA3 with hA3
   injection hA3 with ea eb
   subst ea eb;have hth: ∀ m os,Calls prog 141 #[.slice A L.length cap, .string Zfp, .string P[3]] (grow (redrawn w2 m) os) fun e w'=>e= .returned (.bool (Zdg L Zfp P[3]))∧ ∃ p:Regrown,w'=grow (redrawn w2 p.d) p.os:=fun m os=>Calls.regrown_of (HTh.out Zfp P[3] _ (Zaa hb2 (below_regrown w2 m os)))
   have hou: ∀ m os,Calls prog 142 #[.slice A L.length cap, .string P[1], .string P[3]] (grow (redrawn w2 m) os) fun e w'=>e= .returned (.bool (Zdj L P[1] P[3]))∧ ∃ p:Regrown,w'=grow (redrawn w2 p.d) p.os:=fun m os=>Calls.regrown_of (HO.out P[1] P[3] _ (Zaa hb2 (below_regrown w2 m os)) hsz1)
   have Z3:=fun m os=>cell_regrown z3 m os
   have Z1:=fun m os=>cell_regrown z1 m os
   unfold Zfp at hth;have HK2:Hid (Zgy L i r.path P=(!(Zdg L ⟨#[118,110,105,115]⟩ P[3])||Zdj L P[1] P[3])):=HK.out
   have HB2:=Zhd hb2;clear z3 z1 HTh HO HK hb2;generalize Zdg L ⟨#[118,110,105,115]⟩ P[3]=tb at *;generalize Zdj L P[1] P[3]=ob at *;generalize P[3]=s3 at *;generalize P[1]=s1 at *;cases tb with
   | true=>
     have HK3:Hid (Zgy L i r.path P=ob):=by show _=_;rw[HK2.out];rfl
     clear HK2;go_wp2_with fail;refine wp_region_quiet_below (by kernel_rfl) (by kernel_rfl) ?_
     repeat (go_big_quiet_step ((first|(go_at_call 141;exact hth _ _)|(go_at_call 142;exact hou _ _))))
     refine wpQuiet_nil ?_;intro _ hw';obtain⟨⟨dq,osq⟩,hw''⟩:=hw';subst hw'';go_wp2_with fail;go_ret;exact⟨Zaj HK3.out.symm,Zaa HB2.out (below_regrown w2 dq osq)⟩
   | false=>
     have HK3:Hid (Zgy L i r.path P=true):=by show _=_;rw[HK2.out];rfl
     clear HK2 hou;go_wp2_with fail;refine wp_region_quiet_below (by kernel_rfl) (by kernel_rfl) ?_
     repeat (go_big_quiet_step ((go_at_call 141;exact hth _ _)))
     refine wpQuiet_nil ?_;intro _ hw';obtain⟨⟨dq,osq⟩,hw''⟩:=hw';subst hw'';go_wp2_with fail;go_ret;exact⟨Zaj HK3.out.symm,Zaa HB2.out (below_regrown w2 dq osq)⟩
 have HK:Hid (Zgy L i r.path P=false):=by show _=_;rw[HX.out,Yad e0,Yad (not_or.2 ⟨e1,e2⟩),Yad e3,Yad e4]
 have q0:(g== [104,111,115,116,115,32,36,110,97,109,101,32,105,112,32,36,105,112])=false:=Yai.2 e0;have p0: ¬ g= [104,111,115,116,115,32,36,110,97,109,101,32,105,112,32,36,105,112]:=e0;have q1:(g== [98,105,110,100,105,110,103,115,32,36,105,112,32,104,111,115,116,32,36,110,97,109,101])=false:=Yai.2 e1;have p1: ¬ g= [98,105,110,100,105,110,103,115,32,36,105,112,32,104,111,115,116,32,36,110,97,109,101]:=e1;have q2:(g== [114,111,117,116,101,115,32,36,112,114,101,102,105,120,32,118,105,97,32,36,110,97,109,101])=false:=Yai.2 e2;have p2: ¬ g= [114,111,117,116,101,115,32,36,112,114,101,102,105,120,32,118,105,97,32,36,110,97,109,101]:=e2;have q3:(g== [104,111,115,116,115,32,36,110,97,109,101,32,118,110,105,115,32,36,118,110,105])=false:=Yai.2 e3;have p3: ¬ g= [104,111,115,116,115,32,36,110,97,109,101,32,118,110,105,115,32,36,118,110,105]:=e3;have q4:(g== [98,105,110,100,105,110,103,115,32,36,105,112,32,118,110,105,32,36,118,110,105])=false:=Yai.2 e4;have p4: ¬ g= [98,105,110,100,105,110,103,115,32,36,105,112,32,118,110,105,32,36,118,110,105]:=e4;clear HX HP4 Hg HT HO HTh;go_enter func109,ntmps109;go_wp2_with fail;refine HJ.out.mono ?_;rintro e w2 ⟨rfl,hb2⟩;go_wp2_with fail;go_ret;exact⟨Zaj HK.out.symm,hb2⟩
end Go.Proofs.Zq
namespace Sch
open Go Go.Lib Adr Mtr Tre
abbrev Zpk:=List ByteArray×Int
def Zdu (f:Zpk):List ByteArray×List Value:=(f.1,[.int .i64 f.2])
def Zlm (L:List Line) (s:ByteArray) (k:Nat):Bool:=decide (Zbf L k=s)
def Zaea (L:List Line) (i:Nat) (s:ByteArray):Bool:=(kidsB L i).any (Zlm L s)
def oneF (L:List Line) (i:Nat) (r:Rule) (P:List ByteArray):List Zpk:=
 if r.one&&decide ((kidsB L i).length=0)then [(P,1)]else if r.one&&decide (1<(kidsB L i).length)then [(P,4)]else []
def Zgl (L:List Line) (i:Nat) (P:List ByteArray) (W:List ByteArray):List Zpk:=(W.filter fun s=> !(Zaea L i s)).map fun s=>(P++ [s],1)
def Ztz (L:List Line) (i:Nat) (r:Rule) (P:List ByteArray):List Zpk:=if Zgy L i r.path P then [(P,7)]else []
def Zrj (L:List Line) (i:Nat) (r:Rule) (P:List ByteArray):List Zpk:=oneF L i r P++Zgl L i P (Zea P)++Ztz L i r P
theorem Zavz {L:List Line} {i:Nat} {r:Rule} {P:List ByteArray} (h:r.one=false):oneF L i r P= []:=by unfold oneF;rw[h];rfl
theorem Zahi (L:List Line) (i:Nat) (P W:List ByteArray) (s:ByteArray):Zgl L i P (W++ [s])=Zgl L i P W++(if Zaea L i s then []else [(P++ [s],1)]):=by
 unfold Zgl;rw[Yco,Ybu];cases h:Zaea L i s<;>simp[h]
theorem Zne (L:List Line) (i:Nat) (P W:List ByteArray):(Zgl L i P W).length≤W.length:=by
 unfold Zgl;rw[Yaz];exact Yce _ _
def Zcs (f:Nat→Bool):Nat→List Nat→Int
 |_,[]=> -1
 |j,k::l=>if f k then(j:Int)else Zcs f (j+1) l
theorem Zrb {f:Nat→Bool}: ∀ (l:List Nat) (j:Nat),decide (0≤Zcs f j l)=l.any f
 | [],j=>rfl
 | k::l,j=>by
   unfold Zcs;cases h:f k with
   |true=>simp[h]
   |false=>simp only[Ydu,if_false,List.any_cons,h,Bool.false_or];exact Zrb l (j+1)
theorem Ztr {f:Nat→Bool}: ∀ (l:List Nat) (j:Nat),-1≤Zcs f j l
 | [],j=>by unfold Zcs;omega
 | k::l,j=>by
   unfold Zcs;split
   · omega
   · exact Ztr l (j+1)
theorem Zxw {f:Nat→Bool} {l:List Nat} {j:Nat} (h:j<l.length):Zcs f j (l.drop j)=if f l[j]then(j:Int)else Zcs f (j+1) (l.drop (j+1)):=by
 rw[Yay h];rfl
end Sch
namespace Go.Proofs.Zq
open Tryz
open Go Go.RowKit Go.Sort Sch Adr Mtr Tre
theorem Zaln (A:Option Addr) (cap:Nat) (L:List Line) (k pt pw:Nat) (s:ByteArray) (w:World) (hR:Rd w 3 A L.length (lines L)) (_hc:cap≤maxLen) (_hcap:L.length≤cap) (hk:k<L.length) (ht:w.cell? ⟨pt,0,none⟩=some (.slice A L.length cap)) (hw:w.cell? ⟨pw,0,none⟩=some (.string s)):
 Calls prog 107 #[.int .i64 k, .pointer (some ⟨pt,0,none⟩), .pointer (some ⟨pw,0,none⟩)] w fun e w'=>e= .returned (.bool (Zlm L s k))∧Below w.heap.size w w':=by
 unfold maxLen at _hc;obtain⟨B,O,rfl,hab,hadd,x0,x1,x2⟩:=hR.line hk;have HX:Hid (Zlm L s k=(L[k].word.toList==s.toList)):=by show _=_;unfold Zlm;rw[Zbj hk,Zadh]
 generalize L[k].word=u at *;have hki:(k:Int)<(L.length:Int):=by omega
 have hk0:(0:Int)≤(k:Int):=by omega
 clear hR x0 x2 hab;go_enter func107,ntmps107;go_wp2_with fail;go_quiet (fail);go_wp2;go_ret;exact⟨Zaj HX.out.symm,below_drewN (Yae _ _) _⟩
theorem Zvt (A:Option Addr) (cap:Nat) (L:List Line) (pt pw:Nat) (s:ByteArray) (Ak:Option Addr) (ck:Nat) (K:List Nat) (w:World) (hR:Rd w 3 A L.length (lines L)) (hc:cap≤maxLen) (hcap:L.length≤cap) (hK: ∀ k∈K,k<L.length) (ht:w.cell? ⟨pt,0,none⟩=some (.slice A L.length cap)) (hw:w.cell? ⟨pw,0,none⟩=some (.string s))
 (hRk:Rd w 1 Ak K.length (iv K)) (hkl:K.length≤100000):
 Calls prog 138 #[.slice Ak K.length ck, .func (.func 107) #[] #[.pointer (some ⟨pt,0,none⟩), .pointer (some ⟨pw,0,none⟩)]] w fun e w'=>e= .returned (.int .i64 (Zcs (Zlm L s) 0 K))∧Below w.heap.size w w':=by
 have HF:=Zhd (fun W (hb:Below w.heap.size w W) k (hk:k<L.length)=>Zaln A cap L k pt pw s W (hR.below hb) hc hcap hk ((hb.cell (p:=⟨pt,0,none⟩) (Lib.lt_of_cell ht)).trans ht) ((hb.cell (p:=⟨pw,0,none⟩) (Lib.lt_of_cell hw)).trans hw))
 have HR:=Zhd hRk;have HKL:=Zhd hK;have HQ0:Hid (Zcs (Zlm L s) 0 K=Zcs (Zlm L s) 0 (K.drop 0)):=rfl;generalize Zlm L s=f at *;clear hR hK ht hw hRk;go_enter func138,ntmps138;go_wp2;go_loopw [8] (fun vi wr=> ∃ k:Nat,k≤K.length∧vi= .int .i64 k∧Hid (Zcs f 0 K=Zcs f k (K.drop k))∧Hid (Below w.heap.size w wr)) (fun vi _=>K.length-(intOf vi).toNat)
 case atStart=>exact⟨0,Yao _,rfl,HQ0,Yae _ _⟩
 case round=>
  clear HQ0;obtain⟨k,hk,rfl,HQ,HB⟩:=hrel;by_cases hlt:k<K.length
  · obtain⟨B,O,rfl,hab,hadd,x0⟩:=(HR.out.below HB.out).intAt hlt;have HC:=Zhd (HF.out wr HB.out _ (HKL.out _ (Yau hlt)));have hst:Hid (Zcs f 0 K=if f K[k]then(k:Int)else Zcs f (k+1) (K.drop (k+1))):=HQ.out.trans (Zxw hlt)
    generalize K[k]=r at *;clear HQ;cases hf:f r with
    | true=>
      rw[hf]at hst HC;have HK:Hid (Zcs f 0 K=(k:Int)):=by show _=_;rw[hst.out];rfl
      clear hst hf;go_wp2_with fail;refine HC.out.mono ?_;rintro e w2 ⟨rfl,hb2⟩;have HB2:=Zhd (Zaa HB.out hb2);clear HC HB hb2 x0;go_wp2;go_ret;exact⟨Zci HK.out.symm,HB2.out⟩
    | false=>
      rw[hf]at hst HC;have HK:Hid (Zcs f 0 K=Zcs f (k+1) (K.drop (k+1))):=by show _=_;rw[hst.out];rfl
      clear hst hf;go_wp2_with fail;refine HC.out.mono ?_;rintro e w2 ⟨rfl,hb2⟩;have HB2:=Zhd (Zaa HB.out hb2);clear HC HB hb2 x0;go_wp2_with fail;go_roundw
      case rel=>exact⟨k+1,by omega,by go_num,HK,HB2⟩
      case measure=>simp[intOf];omega
  · obtain rfl:k=K.length:=by omega
    have HK:Hid (Zcs f 0 K= -1):=by
     show _=_;rw[HQ.out,Ydi];rfl
    clear HQ;go_wp2;go_ret;exact⟨Zci HK.out.symm,HB.out⟩
theorem Zagt (A:Option Addr) (cap:Nat) (L:List Line) (pt pw:Nat) (s:ByteArray) (Ak:Option Addr) (ck:Nat) (K:List Nat) (w:World) (hR:Rd w 3 A L.length (lines L)) (hc:cap≤maxLen) (hcap:L.length≤cap) (hK: ∀ k∈K,k<L.length) (ht:w.cell? ⟨pt,0,none⟩=some (.slice A L.length cap)) (hw:w.cell? ⟨pw,0,none⟩=some (.string s))
 (hRk:Rd w 1 Ak K.length (iv K)) (hkl:K.length≤100000):
 Calls prog 106 #[.slice Ak K.length ck, .func (.func 107) #[] #[.pointer (some ⟨pt,0,none⟩), .pointer (some ⟨pw,0,none⟩)]] w fun e w'=>e= .returned (.bool (K.any (Zlm L s)))∧Below w.heap.size w w':=by
 have HI:=Zhd (Zvt A cap L pt pw s Ak ck K w hR hc hcap hK ht hw hRk hkl);have HA:=Zhd (Zrb (f:=Zlm L s) K 0);have hlo:=Ztr (f:=Zlm L s) K 0;generalize Zcs (Zlm L s) 0 K=z at *;generalize K.any (Zlm L s)=b at *;clear hR hK ht hw hRk;go_enter func106,ntmps106;go_wp2_with fail;refine HI.out.mono ?_;rintro e w2 ⟨rfl,hb2⟩;go_wp2;go_ret;exact⟨Zaj HA.out,hb2⟩
theorem Ztv:(prog.info? 111).map (fun i=>(i.zero,i.size,i.bytes))=some (some (.agg #[.slice none 0 0, .int .i64 0]),2,32):=by kernel_rfl
theorem Zew (f:Zpk): ∀ c∈(Zdu f).2,c.oneCell'=true:=by
 intro c hc;simp only[Zdu,Yax,Yby,or_false]at hc;subst hc;rfl
def Zaue (F:List Zpk) (w:World) (e:Ending) (w':World):Prop:=(∃ v,e= .returned v∧Pl w' w.heap.size 111 2 v (F.map Zdu))∧Below w.heap.size w w'
theorem Zua (L:List Line) (i:Nat) (r:Rule) (P:List ByteArray):
 (r.one=false∧oneF L i r P= [])∨(r.one=true∧(kidsB L i).length=0∧oneF L i r P= [(P,1)])∨(r.one=true∧(kidsB L i).length=1∧oneF L i r P= [])∨(r.one=true∧1<(kidsB L i).length∧oneF L i r P= [(P,4)]):=by
 unfold oneF;cases h:r.one with
 |false=>exact .inl ⟨rfl,rfl⟩
 | true=>
   generalize (kidsB L i).length=n;rcases Nat.lt_trichotomy n 1 with h1|h1|h1
   · obtain rfl:n=0:=by omega
     exact .inr (.inl ⟨rfl,rfl,rfl⟩)
   · subst h1;exact .inr (.inr (.inl ⟨rfl,rfl,rfl⟩))
   · refine .inr (.inr (.inr ⟨rfl,h1, ?_⟩));rw[Yah (by omega),Yal h1];rfl
end Go.Proofs.Zq
namespace Sch
open Go Go.Lib Adr Mtr Tre
def Zyo (P:List ByteArray):Bool:=(Zjj P).isSome
def Zeo (P:List ByteArray):Bool:=(List.range P.length).all fun q=>decide (q=0)||Zyo (P.take q)
def Zjs (L:List Line) (i:Nat):List Zpk:=
 if Zeo (pa L i)then(match Zjj (pa L i)with|none=> [(pa L i,Zgq (pa L i))]|some r=>Zrj L i r (pa L i))else []
def Zjf (L:List Line):List Zpk:=(List.range L.length).flatMap (Zjs L)
def Zco (L:List Line) (k:Nat):List Zpk:=(List.range k).flatMap (Zjs L)
theorem Zmm {P:List ByteArray}:Zeo P=true↔ ∀ q,1≤q→q<P.length→Zyo (P.take q)=true:=by
 unfold Zeo;rw[Ybq];constructor
 · intro h q h1 h2;have:=h q (Ycz.2 h2);simpa[show q≠0 by omega]using this
 · intro h q hq;rcases Ybn q with h0|h0
   · simp[h0]
   · simp[h q h0 (List.mem_range.1 hq)]
theorem Zaiy (a:ByteArray):Zeo [a]=true:=by
 rw[Zmm];intro q h1 h2;simp at h2;omega
section
variable {L:List Line} (hr:Zab L=true)
include hr
theorem Zafo (h:0<L.length):Zeo (pa L 0)=true:=by
 rw[Zrv (Zac hr).2.1 h];exact Zaiy _
theorem Zafn {i:Nat} (h:i+1<L.length) (ha:Zeo (pa L i)=true) (hk:Zyo (pa L i)=true):Zeo (pa L (i+1))=true:=by
 obtain⟨-,hd,-⟩:=Zac hr;have h1:=Zkt hd h;have h2:=Zbt hd (show i<L.length by omega)
 have h3:=Zby hd h;have h4:=Zby hd (show i<L.length by omega)
 rw[Zmm]at ha⊢;rw[Zjb h];intro q hq1 hq2;rw[Yak,Yaf,Ybv]at hq2;have hq3:q≤(Zao L (i+1)).toNat:=by omega
 rw[Ycf (by rw[Yaf];omega),Yct,Ybb hq3]
 by_cases hl:q<(pa L i).length
 · exact ha q hq1 hl
 · rw[Ybk (by omega)];exact hk
theorem Zaix {i:Nat} (hi:i<L.length) (h:endB L i<L.length) (ha:Zeo (pa L i)=true):Zeo (pa L (endB L i))=true:=by
 obtain⟨-,hd,-⟩:=Zac hr;have hb:=Zbc L i hi;have ho:=Zqy hi h;obtain⟨e,he⟩: ∃ e,endB L i=e+1:=⟨endB L i-1,by omega⟩
 have h2:=Zbt hd hi;have h4:=Zby hd hi;have h5:=Zby hd h
 have hkp:=Zru hd (D:=(Zao L (endB L i)).toNat) (i:=i) (k:=e) (by omega) (by omega) (fun m m1 m2=>by
  have:=Zto hi m1 (by omega:m<endB L i)
  omega)
 rw[Zmm]at ha⊢;rw[he]at h hkp h5 ho⊢;have h6:=Zbt hd (show e<L.length by omega)
 have h7:=Zkt hd h;rw[Zjb h];intro q hq1 hq2;rw[Yak,Yaf,Ybv]at hq2;have hq3:q≤(Zao L (e+1)).toNat:=by omega
 rw[Ycf (by rw[Yaf];omega),hkp,Yct,Ybb hq3]
 exact ha q hq1 (by omega)
theorem Zauz {i m:Nat} (hi:i<L.length) (h1:i<m) (h2:m<endB L i) (hk:Zyo (pa L i)=false):Zeo (pa L m)=false:=by
 obtain⟨-,hd,-⟩:=Zac hr;have hb:=Zbc L i hi;have hl:=Zbt hd hi;have hm:=Zbt hd (show m<L.length by omega)
 have h4:=Zby hd hi;have h5:=Zto hi h1 h2
 have hkp:=Zru hd (D:=(Zao L i).toNat+1) (i:=i) (k:=m) (by omega) (by omega) (fun x x1 x2=>by
  have:=Zto hi x1 (by omega:x<endB L i)
  omega)
 rw[Ybk (l:=pa L i) (by omega)]at hkp
 cases ha:Zeo (pa L m)with
 |false=>rfl
 | true=>
   rw[Zmm]at ha;have:=ha ((Zao L i).toNat+1) (by omega) (by omega)
   rw[hkp,hk]at this;cases this
omit hr in
theorem Zajh:Zco L L.length=Zjf L:=rfl
omit hr in
theorem Zafy:Zco L 0= []:=rfl
omit hr in
theorem Zaae {i:Nat} {r:Rule} (ha:Zeo (pa L i)=true) (h:Zjj (pa L i)=some r):Zco L (i+1)=Zco L i++Zrj L i r (pa L i):=by
 unfold Zco;rw[Ydm,Ycg];congr 1;unfold Zjs;rw[Ybw,List.flatMap_nil,Ybg,ha,h];rfl
theorem Zafx {i:Nat} (hi:i<L.length) (ha:Zeo (pa L i)=true) (h:Zjj (pa L i)=none):Zco L (endB L i)=Zco L i++ [(pa L i,Zgq (pa L i))]:=by
 have hb:=Zbc L i hi;have hk:Zyo (pa L i)=false:=by unfold Zyo;rw[h];rfl
 have key: ∀ n,i+1+n≤endB L i→Zco L (i+1+n)=Zco L i++ [(pa L i,Zgq (pa L i))]:=by
  intro n
  induction n with
  | zero=>
    intro _;unfold Zco;rw[Yef,Ydm,Ycg];congr 1;unfold Zjs;rw[Ybw,List.flatMap_nil,Ybg,ha,h];rfl
  | succ n ih=>
    intro hn;have e:=ih (by omega)
    rw[←e];unfold Zco;rw[←Ydh,Ydm,Ycg];have hdead:=Zauz hr hi (show i<i+1+n by omega) (by omega) hk
    have:Zjs L (i+1+n)= []:=by unfold Zjs;rw[hdead];rfl
    rw[Ybw,this,List.flatMap_nil,Ybg,Ybg]
 have:=key (endB L i-(i+1)) (by omega)
 rwa [show i+1+(endB L i-(i+1))=endB L i by omega]at this
end
instance (a b:List ByteArray):Decidable (pLt a b):=inferInstanceAs (Decidable (List.lt (key a) (key b)))
section
variable {L:List Line} (hr:Zab L=true)
include hr
omit hr in
theorem Zbs {Q:List ByteArray}:Q∈Zaf L↔ ∃ j,j<L.length∧pa L j=Q:=by
 rw[Zrx,Yda];simp[List.mem_range]
end
end Sch
