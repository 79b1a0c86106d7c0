import Derived.StillTailTactics
import Derived.Shelf.Spec.SlicesInsert
import Derived.Lib.AppendZerosOnto
import Derived.Laws.CopyRow
import Derived.Test.YtkbojechhmmkcaaGreatDoorK15
set_option linter.unusedVariables false
set_option linter.unusedSimpArgs false
set_option maxHeartbeats 8000000
set_option maxRecDepth 100000
namespace Go.Proofs.Zq
open Tryz
open Go Go.RowKit Go.Sort Sch Adr Mtr Tre
theorem Zbdh {w:World} {A:Option Addr} {P:List ByteArray} {c:Nat} (h:Rd w 1 A P.length (sv P)) (hz:Zd A) (hp:0<P.length) (h1:P.length≤c) (h2:c≤maxLen): ∃ b,A=some ⟨b,0,none⟩∧Pv w (.slice (some ⟨b,0,none⟩) P.length c) P:=by
 obtain⟨ad,e,-⟩:=h.2 hp;obtain⟨b,e2⟩:=hz ad e;subst e;subst e2;exact⟨b,rfl,b,c,rfl,h1,h2,hp,h⟩
theorem Zaaq (A:Option Addr) (cap:Nat) (L:List Line) (k:Nat) (w:World) (hR:Rd w 3 A L.length (lines L)) (hcap:L.length≤cap) (hc:cap≤maxLen) (hr:Zab L=true) (hk:k<L.length):
 Calls prog 62 #[.slice A L.length cap, .int .i64 k] w fun e w'=>e= .returned (.int .i64 (endB L k:Nat))∧Below w.heap.size w w':=by
 have:=Zsz A cap L k w hR hcap hc;rw[Zgk hr hk,Yam rfl,Ybr]at this;exact this
def Zatl (L:List Line) (w:World) (e:Ending) (w':World):Prop:=
 ((Zab L=true∧ ∃ v,e= .returned (.tuple #[v, .int .i64 0])∧Pl w' w.heap.size 111 2 v ((Zhx L).map Zer))∨(Zab L=false∧e= .returned (.tuple #[.slice none 0 0, .int .i64 1])))∧Below w.heap.size w w'
theorem Zavr (A:Option Addr) (cap:Nat) (L:List Line) (w:World) (hR:Rd w 3 A L.length (lines L)) (hcap:L.length≤cap) (hc:cap≤maxLen) (hr:Zab L=false):
 Calls prog 33 #[.slice A L.length cap] w fun e w'=>e= .returned (.tuple #[.slice none 0 0, .int .i64 1])∧Below w.heap.size w w':=by
 have HC:=Zbm A cap L w hR hcap hc;rw[hr]at HC;have HC2:=Zhd HC;clear HC hR;go_enter func33,ntmps33;go_wp2_with fail;refine HC2.out.mono ?_;rintro e w2 ⟨rfl,hb2⟩;go_wp2_with fail;refine bodyPost_ret (results_tmp2 rfl _ _ _) rfl ?_;exact⟨rfl,hb2⟩
theorem Zayn {L:List Line} (hr:Zab L=true) {k:Nat} (hk:k<L.length):(pa L k).length≤16∧0<(pa L k).length∧Shw (pa L k):=by
 have hd:=(Zac hr).2.1;have h1:=Zbz hd hk;have h2:=Zcf hd hk;exact⟨by omega,by omega,by rw[←Zkh hd hk];exact Zwm hr hk⟩
theorem Zayz {P:List ByteArray} {r:Rule} (h:Zfi P=some r):r.path.length=P.length:=Zoy (by have:=List.find?_some h;exact this)
theorem Zaxy (P:List ByteArray):(Zek P).length≤34:=by have:=Znx P 34;rwa [Znw]at this
theorem Zabq (L:List Line) (i:Nat) (r:Rule) (P:List ByteArray):(Zot L i r P).length≤36:=by
 have h1:=Zoz L i P (Zek P);have h2:=Zaxy P
 have h3:(oneF L i r P).length≤1:=by
  rcases Zwi L i r P with⟨-,h⟩|⟨-,-,h⟩|⟨-,-,h⟩|⟨-,-,h⟩<;>rw[h]<;>simp
 have h4:(Zts L i r P).length≤1:=by unfold Zts;split<;>simp
 unfold Zot;rw[Yae,Yae];omega
theorem Zadu (L:List Line) (i:Nat):(Zjv L i).length≤36:=by
 unfold Zjv;split
 · split
   · simp
   · exact Zabq _ _ _ _
 · simp
theorem Zanf (L:List Line) (k:Nat):(Zde L k).length≤36*k:=by
 induction k with
 |zero=>simp[Zajl]
 | succ k ih=>
   have:=Zadu L k;unfold Zde at ih⊢;rw[Ydg,Ycf,Yae,Ybl,List.flatMap_nil,Ybg];omega
theorem Zaek (F:List Zku): ∀ y∈F.map Zer,∀ u∈y.2,u.oneCell'=true:=by
 intro y hy;obtain⟨f,-,rfl⟩:=Yct.1 hy;exact Zfy f
theorem Zang (A:Option Addr) (cap:Nat) (L:List Line) (w:World) (hE:Env w) (hR:Rd w 3 A L.length (lines L)) (hcap:L.length≤cap) (hc:cap≤maxLen) (hr:Zab L=true):
 Calls prog 33 #[.slice A L.length cap] w fun e w'=>(∃ v,e= .returned (.tuple #[v, .int .i64 0])∧Pl w' w.heap.size 111 2 v ((Zhx L).map Zer))∧Below w.heap.size w w':=by
 obtain⟨i0,hii,hz0,hz1,hz2⟩:=info_parts Zwd;have HRg:=Zbm A cap L w hR hcap hc;rw[hr]at HRg;have h200:=Zau hr;have HRi:=Zhd HRg;have HRu:=Zhd (fun W (hb:Below w.heap.size w W)=>Zart W (hE.below hb))
 have HPa:=Zhd (fun(k:Nat) (hk:k<L.length) W (hb:Below w.heap.size w W)=>Zwl A cap L k W (hR.below hb) hcap hc hr hk)
 have HEn:=Zhd (fun(k:Nat) (hk:k<L.length) W (hb:Below w.heap.size w W)=>Zaaq A cap L k W (hR.below hb) hcap hc hr hk)
 have HLi:=Zhd (fun(k:Nat) (hk:k<L.length) Ar cr r b c pb pc P W (hb:Below w.heap.size w W)=>Zaxj A cap L k Ar cr r b c pb pc P W (hE.below hb) (hR.below hb) hcap hc hr hk)
 have HFi:=Zhd (fun Ar cr A2 c2 P W (hb:Below w.heap.size w W)=>Zawo Ar cr A2 c2 P W (hE.below hb))
 have HUn:=Zhd (fun Ar cr A2 c2 P W (hb:Below w.heap.size w W)=>Zafs Ar cr A2 c2 P W (hE.below hb))
 have HPP:Hid (∀ k,k<L.length→Zdg L k=pa L k):=fun k hk=>Zkh (Zac hr).2.1 hk
 have HSh:=Zhd (fun(k:Nat) (hk:k<L.length)=>Zayn hr hk)
 have HA0:Hid (0<L.length→Zec (pa L 0)=true):=fun h=>Zaiy hr h
 have HKn:Hid (∀ k,k<L.length→Zec (pa L k)=true→ ∀ r,Zfi (pa L k)=some r→Zde L (k+1)=Zde L k++Zot L k r (pa L k)∧(k+1<L.length→Zec (pa L (k+1))=true)):=fun k hk ha r h=>
  ⟨Zadi ha h,fun h2=>Zaix hr h2 ha (by unfold Zabp;rw[h];rfl)⟩
 have HSk:Hid (∀ k,k<L.length→Zec (pa L k)=true→Zfi (pa L k)=none→Zde L (endB L k)=Zde L k++ [(pa L k,Zgl (pa L k))]∧(endB L k<L.length→Zec (pa L (endB L k))=true)):=fun k hk ha h=>
  ⟨Zajk hr hk ha h,fun h2=>Zamr hr hk h2 ha⟩
 have HEb:=Zhd (fun(k:Nat) (hk:k<L.length)=>Zbb L k hk)
 have HCL:=Zhd (Zanf L);have HLL:=Zhd (Zabq L);have HAll:=Zhd (Zand (L:=L));clear hE hR HRg hr;go_enter func33,ntmps33;go_wp2_with fail;refine HRi.out.mono ?_;rintro e w1 ⟨rfl,hb1⟩;have HB1:=Zhd hb1;clear HRi hb1;go_wp2_with fail;refine(HRu.out w1 HB1.out).mono ?_;rintro e w2 ⟨⟨v2,rfl,hv2⟩,hb2⟩;have HB2:=Zhd (Zaa HB1.out hb2);obtain⟨Ar,cr,rfl,hcr1,hcr2,hRu⟩:=Zalp hv2;have HRl:=Zhd hRu;clear HRu hv2 hRu hb2 HB1;go_wp2;go_loopw [5,6] (fun v vi wr=> ∃ k:Nat,k≤L.length∧vi= .int .i64 k∧Hid (k<L.length→Zec (pa L k)=true)∧Hid (Pl wr w2.heap.size 111 2 v ((Zde L k).map Zer))∧Hid (Below w2.heap.size w2 wr)) (fun _ vi _=>L.length-(intOf vi).toNat)
 case atStart=>exact⟨0,Yas _,rfl,HA0,Pl.nil _ _ _ _,Yag _ _⟩
 case round=>
  clear HA0;obtain⟨k,hk,rfl,HA,HP,HB⟩:=hrel;by_cases hlt:k<L.length
  · have ha:=HA.out hlt;have HBw:=Zhd (Zaa HB2.out HB.out);have HPk:=HPa.out k hlt wr HBw.out;have hks:=HKn.out k hlt ha;have hss:=HSk.out k hlt ha;have hsh:=HSh.out k hlt;have HEk:=Zhd (HEn.out k hlt);have HLk:=Zhd (HLi.out k hlt);have HEB:=HEb.out k hlt;have hcl:=HCL.out k;have hll:=fun r=>HLL.out k r (pa L k)
    rw[HPP.out k hlt]at HPk;generalize pa L k=P at *;have HKS:=Zhd hks;have HSS:=Zhd hss;have HSP:=Zhd hsh.2.2;have HLG:=Zhd hll;obtain⟨hp16,hp0,-⟩:=hsh;unfold Zxc at HPk;clear HA ha hks hss hll;go_wp2_with fail;refine HPk.mono ?_;rintro e w3 ⟨A3,c3,rfl,hc31,hc32,hrd,hz,hb3⟩;obtain⟨pb,rfl,hpv⟩:=Zbdh hrd hz hp0 hc31 hc32;have HPv:=Zhd hpv;have HB3:=Zhd (Zaa HB.out hb3);have HBw3:=Zhd (Zaa HB2.out HB3.out);have HP3:=Zhd (HP.out.below hb3);have HF:=Zhd (HFi.out Ar cr (some ⟨pb,0,none⟩) c3 P w3 HBw3.out (HRl.out.below HB3.out) hrd (by omega) HSP.out)
    clear HPk HP HB HBw hpv hrd hz hb3;go_wp2_with fail;refine HF.out.mono ?_;clear HF;unfold Zami;rintro e w4 ⟨⟨hno,rfl⟩|⟨r,b,c,hyes,hmem,rfl,hrc1,hrc2,hrrd⟩,hb4⟩
    · have hS:=HSS.out hno;have HB4:=Zaa HB3.out hb4;have HP4:=HP3.out.below hb4;have HPv4:=HPv.out.below hb4;clear HKS HSS HP3 HB3 HPv hb4 HBw3;obtain⟨wo,hwo⟩: ∃ wo,w4.alloc (.cells #[.slice none 0 0, .bool false, .bool false] 106)=wo:=⟨_,rfl⟩;have hbo:Below w4.heap.size w4 wo:=by rw[←hwo];exact(Yag _ _).alloc (Yaf _) _
      have HBo:=Zhd (Zaa HB4 hbo);have HPo:=Zhd (HP4.below hbo);have HPvo:=Zhd (HPv4.below hbo);have HUk:=Zhd (HUn.out Ar cr (some ⟨pb,0,none⟩) c3 P wo (Zaa HB2.out HBo.out) (HRl.out.below HBo.out) HPvo.out.rd.1 (by omega) hc31 hc32 (by omega) HSP.out)
      have HST:=Zhd hS.1;have HAL:=Zhd hS.2;generalize Zgl P=u at *;have HWO:=Zhd hwo;clear HB4 HP4 HPv4 hbo hS hno hwo;go_wp2_with fail;rw[HWO.out];refine HUk.out.mono ?_;rintro e w5 ⟨rfl,hb5⟩;have HB5:=Zhd (Zaa HBo.out hb5);have HP5:=Zhd (HPo.out.below hb5);have HPv5:=Zhd (HPvo.out.below hb5);clear HUk HPo HPvo HBo hb5 HWO;go_wp2_with (at_builtin;refine Zoh rfl _ _ 76 rfl w2 w5 111 i0 _ 2 32 underlying76 hii hz0 hz1 hz2 rfl (by decide) (by decide) HP5.out HB5.out rfl (.slice (some ⟨pb,0,none⟩) P.length c3) (Zer (P,u)) rfl (Zfy _) HPv5.out rfl (by rw[Yay];omega) ?_;intro v' w' hown' hb')
      have HB6:=Zhd hb';have HP6:=Zhd hown';clear hown' hb' HP5 HB5 HPv5;refine(HEk.out _ (Zaa HB2.out HB6.out)).mono ?_;rintro e w7 ⟨rfl,hb7⟩;obtain⟨q,hq⟩: ∃ q,endB L k=q+1:=⟨endB L k-1,by omega⟩
      rw[hq]at HST HAL HEB⊢;have hq1:((q+1:Nat):Int)-1=(q:Int):=by omega
      have HB7:=Zhd (Zaa HB6.out hb7)
      have HP7:Hid (Pl w7 w2.heap.size 111 2 v' ((Zde L (q+1)).map Zer)):=by
       show Pl _ _ _ _ _ _;rw[HST.out,Ybv];exact HP6.out.below hb7
      clear HP6 HB6 hb7 hq HST HEk;go_wp2_with fail;go_roundw
      case rel=>exact⟨q+1,by omega,by go_num,HAL,HP7,HB7⟩
      case measure=>simp[intOf];omega
    · have hS:=HKS.out r hyes;have HB4:=Zaa HB3.out hb4;have HP4:=HP3.out.below hb4;have HPv4:=HPv.out.below hb4;have hrl:=Zayz hyes;have hcl2:=HLG.out r;clear HKS HSS HP3 HB3 HPv hb4 HBw3 HLG;obtain⟨wo,hwo⟩: ∃ wo,w4.alloc (.cells #[.slice (some ⟨b,0,none⟩) r.path.length c, .bool r.one, .bool r.needed] 106)=wo:=⟨_,rfl⟩;have hbo:Below w4.heap.size w4 wo:=by rw[←hwo];exact(Yag _ _).alloc (Yaf _) _
      have HBo:=Zhd (Zaa HB4 hbo);have HPo:=Zhd (HP4.below hbo);have HPvo:=HPv4.below hbo;have HLk2:=Zhd (HLk.out Ar cr r b c pb c3 P wo (Zaa HB2.out HBo.out) (HRl.out.below HBo.out) hmem (hrrd.below hbo) hrc1 HPvo hrl (by omega) HSP.out)
      have HST:=Zhd hS.1;have HAL:=Zhd hS.2;generalize Zot L k r P=lf at *;have HWO:=Zhd hwo;clear HB4 HP4 HPv4 HPvo hbo hS hyes hwo hrrd hrl HLk;go_wp2_with fail;rw[HWO.out];refine HLk2.out.mono ?_;rintro e w5 ⟨⟨v5,rfl,hv5⟩,hb5⟩;have hyc:=Zaek lf;have hyl:(lf.map Zer).length=lf.length:=Yay _;obtain⟨ys,hys⟩: ∃ ys,lf.map Zer=ys:=⟨_,rfl⟩;rw[hys]at hv5 hyc hyl;have HYS:=Zhd hys;have HYC:=Zhd hyc;have HYL:Hid (((Zde L k).map Zer).length+ys.length≤1000000000):=by show _≤_;rw[Yay];omega
      obtain⟨A5,c5,rfl,hc51,hc52,hpd5,hn5⟩:=hv5.read;have HB5:=Zhd (Zaa HBo.out hb5);have HP5:=Zhd (HPo.out.below hb5);have HPD:=Zhd hpd5;have HN5:=Zhd hn5;clear HLk2 HPo HBo hb5 HWO hv5 hpd5 hn5 hys hyc hyl;go_wp2_with (at_builtin;refine Zamt rfl _ _ 76 rfl w2 w5 111 i0 _ 2 32 underlying76 hii hz0 hz1 hz2 rfl (by decide) (by decide) HP5.out HB5.out rfl A5 c5 ys rfl HPD.out HN5.out HYC.out HYL.out ?_;intro v' w' hown' hb')
      have HB6:=Zhd hb'
      have HP6:Hid (Pl w' w2.heap.size 111 2 v' ((Zde L (k+1)).map Zer)):=by
       show Pl _ _ _ _ _ _;rw[HST.out,Ybv,HYS.out];exact hown'
      clear hown' hb' HP5 HB5 HPD HN5 HST HYS HYC HYL;go_roundw
      case rel=>exact⟨k+1,by omega,by go_num,HAL,HP6,HB6⟩
      case measure=>simp[intOf];omega
  · obtain rfl:k=L.length:=by omega
    have HPF:=HP.out;rw[HAll.out]at HPF;have HPG:=Zhd (HPF.base HB2.out.size);have HBG:=Zhd (Zaa HB2.out HB.out);clear HP HB HPF HA;go_wp2_with fail;refine bodyPost_ret (results_tmp2 rfl _ _ _) rfl ?_;exact⟨⟨_,rfl,HPG.out⟩,HBG.out⟩
theorem Zane (A:Option Addr) (cap:Nat) (L:List Line) (w:World) (hE:Env w) (hR:Rd w 3 A L.length (lines L)) (hcap:L.length≤cap) (hc:cap≤maxLen):
 Calls prog 33 #[.slice A L.length cap] w (Zatl L w):=by
 cases hr:Zab L with
 |false=>exact(Zavr A cap L w hR hcap hc hr).mono fun e w' ⟨h1,h2⟩=>⟨.inr ⟨hr,h1⟩,h2⟩
 |true=>exact(Zang A cap L w hE hR hcap hc hr).mono fun e w' ⟨⟨v,h1,h3⟩,h2⟩=>⟨.inl ⟨hr,v,h1,h3⟩,h2⟩
end Go.Proofs.Zq
namespace Sch
open Go Go.Lib Adr Mtr Tre
end Sch
namespace Go.Proofs.Zq
open Tryz
open Go Go.RowKit Go.Sort Sch Adr Mtr Tre
end Go.Proofs.Zq
namespace Sch
open Go Go.Lib Adr Mtr Tre
end Sch
namespace Go.Proofs.Zq
open Tryz
open Go Go.RowKit Go.Sort Sch Adr Mtr Tre
theorem Pd.fault {w:World} {A:Option Addr} {F:List Zku} (h:Pd w 2 A (F.map Zer)) {i:Nat} (hi:i<F.length):
 ∃ B O b c,A=some ⟨B,O,none⟩∧B<w.heap.size∧(⟨B,O,none⟩:Addr).add (i*2)=⟨B,O+i*2,none⟩∧Pv w (.slice (some ⟨b,0,none⟩) F[i].1.length c) F[i].1∧
   w.cell? ⟨B,O+i*2,none⟩=some (.slice (some ⟨b,0,none⟩) F[i].1.length c)∧w.cell? ⟨B,O+i*2+1,none⟩=some (.int .i64 F[i].2):=by
 obtain⟨B,O,v,e,h1,h2,h3,h4,h5⟩:=h.at (i:=i) (by rw[Yay];exact hi)
 rw[Ycz]at h3;obtain⟨b,c,rfl,-,-,-,-,h6,-⟩:=h3.slice;refine⟨B,O,b,c,e,h1,h2,h6,h4, ?_⟩;have:=h5 0 (.int .i64 F[i].2) (by rw[Ycz];rfl)
 simpa using this
end Go.Proofs.Zq
namespace Sch
open Go Go.Lib Adr Mtr Tre
def atOf (f:Nat→Bool) (d:Nat):List Nat→Nat
 | []=>d
 |k::l=>if f k then k else atOf f d l
theorem Zxi {f:Nat→Bool} {d:Nat}: ∀ {K:List Nat},K.Pairwise (· < ·)→ ∀ k∈K,k<atOf f d K→f k=false
 | [],_,k,h,_=>by cases h
 | q ::K,hp,k,h,hl=>by
   unfold atOf at hl;obtain⟨h1,h2⟩:=Ycj.1 hp;cases hq:f q with
   | true=>
     rw[hq,Yam rfl]at hl;rcases Yav.1 h with e|e
     · omega
     · have:=h1 k e;omega
   | false=>
     rw[hq,Yab (by simp)]at hl
     rcases Yav.1 h with e|e
     · rw[e];exact hq
     · exact Zxi h2 k e hl
theorem Zsi {f:Nat→Bool} {d:Nat}: ∀ (K:List Nat),atOf f d K=d∨(atOf f d K∈K∧f (atOf f d K)=true)
 | []=> .inl rfl
 | q ::K=>by
   unfold atOf;cases hq:f q with
   |true=>right;simp[hq]
   | false=>
     rw[Yab (by simp)]
     rcases Zsi K with h|⟨h1,h2⟩
     · exact .inl h
     · exact .inr ⟨Yca _ h1,h2⟩
theorem Zaag {f:Nat→Bool} {d:Nat} {K:List Nat} {j:Nat} (h:j<K.length):atOf f d (K.drop j)=if f K[j]then K[j]else atOf f d (K.drop (j+1)):=by
 rw[Yaz h];rfl
def gtAt (L:List Line) (s:ByteArray) (k:Nat):Bool:=Op.bytesLess s.toList (Zbd L k).toList
def atW (L:List Line) (s:ByteArray):Nat:=atOf (gtAt L s) L.length (Zat L)
theorem Zmy (L:List Line):(Zat L).Pairwise (· < ·):=by
 unfold Zat kidsTo;exact List.Pairwise.filter _ List.pairwise_lt_range
theorem Zbfy (L:List Line) (s:ByteArray):atW L s≤L.length:=by
 rcases Zsi (f:=gtAt L s) (d:=L.length) (Zat L)with h|⟨h,-⟩
 · exact Nat.le_of_eq h
 · have:=(Zbh.1 h).1;unfold atW;omega
section
variable {L:List Line} (hr:Zab L=true) {s:ByteArray} (hn: ¬ [s]∈Zad L)
include hr
theorem Zawy {i:Nat} (hi:i<L.length): ∃ m a t,m≤i∧m∈Zat L∧Zbd L m=a∧pa L m= [a]∧pa L i=a::t:=by
 obtain⟨-,hd,-⟩:=Zac hr;have hl:=Zbz hd hi;obtain⟨m,hm,e⟩:=Zqi hd hi (q:=1) (by omega) (by omega)
 cases hp:pa L i with
 |nil=>rw[hp]at hl;simp at hl
 | cons a t=>
   rw[hp]at e;have hlm:=Zbz hd (show m<L.length by omega)
   have e:pa L m= [a]:=e;have hdm:=Zcf hd (show m<L.length by omega)
   rw[e]at hlm;simp only[Ybz]at hlm;have h0:Zaj L m=0:=by omega
   have hw:=Zel hr (show m<L.length by omega)
   rw[e]at hw;exact⟨m,a,t,hm,Zbh.2 ⟨by omega,by omega,h0⟩,by rw[←hw];rfl,e,rfl⟩
include hn
theorem Zaxm {i:Nat} (hi:i<L.length) (h:i<atW L s):pLt (pa L i) [s]:=by
 obtain⟨m,a,t,h1,h2,h3,h4,h5⟩:=Zawy hr hi;have hf:=Zxi (f:=gtAt L s) (d:=L.length) (Zmy L) m h2 (by unfold atW at h;omega)
 unfold gtAt at hf;rw[h3,Proofs.bytesLess_eq,decide_eq_false_iff_not]at hf;have hne:a≠s:=fun e=>hn (Zbp.2 ⟨m,by omega,by rw[h4,e]⟩)
 rw[h5];refine Zke ?_;rcases List.le_iff_lt_or_eq.1 (List.not_lt.1 hf)with h|h
 · exact h
 · exact absurd (Zlc h) hne
omit hn in
theorem Zaov {i:Nat} (hi:i<L.length) (h:atW L s≤i):pLt [s] (pa L i):=by
 rcases Zsi (f:=gtAt L s) (d:=L.length) (Zat L)with e|⟨h1,h2⟩
 · unfold atW at h;omega
 · have hk:=Zbh.1 h1;have hd:=(Zac hr).2.1;have hw:=Zel hr hk.1;have hlm:=Zbz hd hk.1;rw[hk.2.2]at hlm;obtain⟨a,ha⟩:=Yex.1 hlm;change Op.bytesLess s.toList (Zbd L (atOf (gtAt L s) L.length (Zat L))).toList=true at h2;rw[Proofs.bytesLess_eq,Yao,←hw,ha]at h2;have h3:pLt [s] (pa L (atOf (gtAt L s) L.length (Zat L))):=by rw[ha];exact Zke h2
   rcases Ybp (atOf (gtAt L s) L.length (Zat L)) i with g|g
   · exact Zcl h3 (Znd hr g hi)
   · have:atOf (gtAt L s) L.length (Zat L)=i:=by unfold atW at h;omega
     rw[this]at h3;exact h3
end
end Sch
namespace Lns
open Go Tre
def insB (L:List Line) (k:Nat) (l:Line):List Line:=L.take k++(l::L.drop k)
theorem Zjy {L:List Line} {k:Nat} (l:Line):(insB L k l).length=L.length+1:=by
 unfold insB;rw[Yae,Ybd,Yah,Yan];omega
end Lns
namespace Go.Proofs.Zq
open Tryz
open Go Go.RowKit Tre Lns
theorem Zii:(prog.info? 62).map (fun i=>(i.zero,i.size,i.bytes))=some (some (.agg #[.int .i64 0, .string ⟨#[]⟩, .int .i64 0]),3,32):=by kernel_rfl
theorem Zjz (L:List Line): ∀ u∈lines L,u.oneCell'=true:=by
 intro u hu;unfold lines at hu;obtain⟨l,-,hl⟩:=Ydk.1 hu;exact cells_one l u hl
end Go.Proofs.Zq
namespace Lns
open Go Go.Lib Adr Mtr Tre Sch
def Zcc (L:List Line) (U:List ByteArray) (s:ByteArray):Nat:=
 match Zas L U with
 |some a=>atOf (gtAt L s) (endB L a) (kidsB L a)
 |none=>atOf (gtAt L s) L.length (Zat L)
def wAt (P:List ByteArray) (d:Nat):ByteArray:=P.getD d ⟨#[]⟩
def Zeq (P:List ByteArray):Nat→Nat→List Line→Option (List Line)
 |0,_,out=>some out
 | f+1,d,out=>
   if(Zas out (P.take (d+1))).isSome then Zeq P f (d+1) out
   else if 200≤out.length then none
   else Zeq P f (d+1) (insB out (Zcc out (P.take d) (wAt P d)) ⟨d,wAt P d,0⟩)
def Zfj (P:List ByteArray):Bool:=decide (0<P.length)&&P.all fun s=>decide (s.size≤40)
def addB (L:List Line) (P:List ByteArray):List Line×Int:=
 if Zab L=false∨Zfj P=false then(L,1)
 else if 16<P.length then(L,6)
 else match Zeq P P.length 0 L with
  |some M=>(M,0)
  |none=>(L,5)
theorem beside: ∀ {U b:List ByteArray} (t:List ByteArray),pLt U b→(∀ s,b≠U++s)→pLt (U++t) b
 | [],b,_,_,h=>absurd rfl (h b)
 |x::U,[],_,h,_=>absurd h (Zkf _)
 | x::U,y::b,t,h,hn=>by
   rw[Ycn,Zfh];rcases Zfh.1 h with h1|⟨rfl,h1⟩
   · exact .inl h1
   · exact .inr ⟨rfl,beside t h1 fun s e=>hn s (by rw[e,Ycn])⟩
theorem Ztn (L:List Line) (i:Nat):(kidsB L i).Pairwise (· < ·):=by
 unfold kidsB kidsTo;exact List.Pairwise.filter _ List.pairwise_lt_range
section
variable {L:List Line} (hr:Zab L=true) {s:ByteArray}
include hr
omit hr in
theorem Zun (U:List ByteArray) (h:U= []):Zcc L U s=atW L s:=by
 subst h;unfold Zcc;have:Zas L []=none:=by unfold Zas;rw[Yam (.inl rfl)]
 rw[this];rfl
theorem Zuo {a:Nat} (ha:a<L.length):Zcc L (pa L a) s=atOf (gtAt L s) (endB L a) (kidsB L a):=by
 unfold Zcc;rw[Zrq hr ha]
theorem Zask {a:Nat} (ha:a<L.length):Zcc L (pa L a) s≤endB L a:=by
 rw[Zuo hr ha];rcases Zsi (f:=gtAt L s) (d:=endB L a) (kidsB L a)with e|⟨h1,-⟩
 · omega
 · have:=(Zbh.1 h1).1;omega
theorem Zzl {U:List ByteArray} (hU:U= []∨U∈Zad L):Zcc L U s≤L.length:=by
 rcases hU with hU|hU
 · rw[Zun U hU];exact Zbfy L s
 · obtain⟨a,ha,rfl⟩:=Zbp.1 hU;have:=Zask hr (s:=s) ha;have:=Zbb L a ha;omega
theorem Zaij {U:List ByteArray} (hU:U= []∨U∈Zad L) (hn: ¬ U++ [s]∈Zad L) {i:Nat} (hi:i<L.length) (h:i<Zcc L U s):pLt (pa L i) (U++ [s]):=by
 rcases hU with hU|hU
 · rw[Zun U hU]at h;subst hU;exact Zaxm hr hn hi h
 · obtain⟨a,ha,rfl⟩:=Zbp.1 hU;have hle:=Zask hr (s:=s) ha;rw[Zuo hr ha]at h hle;by_cases h1:i≤a
   · have hp:pLt (pa L a) (pa L a++ [s]):=Zms _ _ _;rcases Ybp i a with g|g
     · exact Zcl (Znd hr g ha) hp
     · obtain rfl:i=a:=by omega
       exact hp
   · obtain⟨t,ht⟩:=(Zes hr ha hi).2 ⟨by omega,by omega⟩
     cases t with
     |nil=>rw[Ybg]at ht;exact absurd (Zwj hr hi ha ht) (by omega)
     | cons x t=>
       have hd:=(Zac hr).2.1;obtain⟨m,hm,e⟩:=Zqi hd hi (q:=(pa L a).length+1) (by omega) (by rw[ht];simp)
       have e2:pa L m=pa L a++ [x]:=by
        rw[e,ht,List.take_append,Ybh (by omega)];simp
       have hml:m<L.length:=by omega
       have hk:=(Ztl hr ha hml).1 (Ziy.2 ⟨x,e2⟩);have hf:=Zxi (f:=gtAt L s) (d:=endB L a) (Ztn L a) m (Zbh.2 ⟨hk.2.1,hk.1,hk.2.2⟩) (by omega)
       have hw:=Zel hr hml;rw[e2,Ycd,Ycy]at hw;have hw:x=Zbd L m:=hw;unfold gtAt at hf;rw[←hw,Proofs.bytesLess_eq,decide_eq_false_iff_not]at hf;have hne:x≠s:=fun ee=>hn (Zbp.2 ⟨m,hml,by rw[e2,ee]⟩)
       rw[ht];refine Zgi.2 (Zke ?_);rcases List.le_iff_lt_or_eq.1 (List.not_lt.1 hf)with h|h
       · exact h
       · exact absurd (Zlc h) hne
theorem Zacp {U:List ByteArray} (hU:U= []∨U∈Zad L) {i:Nat} (hi:i<L.length) (h:Zcc L U s≤i):pLt (U++ [s]) (pa L i):=by
 rcases hU with hU|hU
 · rw[Zun U hU]at h;subst hU;exact Zaov hr hi h
 · obtain⟨a,ha,rfl⟩:=Zbp.1 hU;rw[Zuo hr ha]at h;rcases Zsi (f:=gtAt L s) (d:=endB L a) (kidsB L a)with e|⟨h1,h2⟩
   · rw[e]at h;have:=Zbb L a ha
     exact beside _ (Znd hr (by omega) hi) fun t ht=>by
      have:=(Zes hr ha hi).1 ⟨t,ht⟩;omega
   · obtain⟨m,hm⟩: ∃ m,atOf (gtAt L s) (endB L a) (kidsB L a)=m:=⟨_,rfl⟩;rw[hm]at h h1 h2;have hk:=Zbh.1 h1;have hml:m<L.length:=by omega
     obtain⟨x,e2⟩:=Ziy.1 ((Ztl hr ha hml).2 ⟨hk.2.1,hk.1,hk.2.2⟩);have hw:=Zel hr hml;rw[e2,Ycd,Ycy]at hw;have hw:x=Zbd L m:=hw;unfold gtAt at h2;rw[←hw,Proofs.bytesLess_eq,Yao]at h2;have h3:pLt (pa L a++ [s]) (pa L m):=by rw[e2];exact Zgi.2 (Zke h2)
     rcases Ybp m i with g|g
     · exact Zcl h3 (Znd hr g hi)
     · obtain rfl:m=i:=by omega
       exact h3
theorem Zape {U:List ByteArray} (hU:U= []∨U∈Zad L) (hn: ¬ U++ [s]∈Zad L) (hl:L.length<200) (hs:s.size≤40) (hd:U.length<16):
 Zab (insB L (Zcc L U s) ⟨(U.length:Nat),s,0⟩)=true∧ ∀ q,q∈Zad (insB L (Zcc L U s) ⟨(U.length:Nat),s,0⟩)↔q=U++ [s]∨q∈Zad L:=by
 obtain⟨ht,hf⟩:=Zcx hr;have hle:=Zzl hr (s:=s) hU
 have hside: ∀ q,(q∈(Zad L).take (Zcc L U s)→pLt q (U++ [s]))∧(q∈(Zad L).drop (Zcc L U s)→pLt (U++ [s]) q):=fun q=>by
  constructor
  · intro h;obtain⟨i,hi,e⟩:=Ybs h;rw[Yah,Zaf]at hi;rw[Ycs]at e;rw[←e,←Zfu (by omega)]
    exact Zaij hr hU hn (by omega) (by omega)
  · intro h;obtain⟨i,hi,e⟩:=Ybs h;rw[Yan,Zaf]at hi;rw[Ydr]at e;rw[←e,←Zfu (by omega)]
    exact Zacp hr hU (by omega) (by omega)
 have hmem: ∀ q,q∈(Zad L).take (Zcc L U s)++((U++ [s])::(Zad L).drop (Zcc L U s))↔q=U++ [s]∨q∈Zad L:=fun q=>by
  rw[Ybn,Yav]
  conv=>rhs;rhs;rw[←Ybk (Zcc L U s) (Zad L),Ybn]
  constructor
  · rintro(h|h|h)
    · exact .inr (.inl h)
    · exact .inl h
    · exact .inr (.inr h)
  · rintro(h|h|h)
    · exact .inr (.inl h)
    · exact .inl h
    · exact .inr (.inr h)
 have hres:Zab (insB L (Zcc L U s) ⟨(U.length:Nat),s,0⟩)=true∧Zad (insB L (Zcc L U s) ⟨(U.length:Nat),s,0⟩)=(Zad L).take (Zcc L U s)++((U++ [s])::(Zad L).drop (Zcc L U s)):=by
  refine Zlu (Zhi (Ziw _ hf) ⟨⟨?_, ?_, ?_⟩,Ziv _ hf⟩) ⟨?_,fun q hq=> ?_⟩ ?_
  · unfold Zco;simp only[Yaq,Yao];omega
  · simp
  · rw[Ycd,Ycy];rfl
  · rw[Yfg];refine⟨List.Pairwise.sublist (List.take_sublist _ _) ht.1,Ycj.2 ⟨fun q h=>(hside q).2 h,List.Pairwise.sublist (List.drop_sublist _ _) ht.1⟩,fun a ha b hb=> ?_⟩
    rcases Yav.1 hb with e|e
    · rw[e];exact(hside a).1 ha
    · exact Zcl ((hside a).1 ha) ((hside b).2 e)
  · rcases(hmem q).1 hq with e|e
    · rw[e];refine⟨by simp, ?_⟩
      rw[Yeq];rcases hU with hU|hU
      · exact .inr hU
      · exact .inl ((hmem _).2 (.inr hU))
    · obtain⟨h1,h2⟩:=ht.2 q e;exact⟨h1,h2.imp (fun h=>(hmem _).2 (.inr h)) id⟩
  · rw[Zjy];omega
 exact⟨hres.1,fun q=>by rw[hres.2];exact hmem q⟩
end
theorem Zuv {P:List ByteArray} {d:Nat} (h:d<P.length):P.take (d+1)=P.take d++ [wAt P d]:=by
 rw[Yax h];unfold wAt;rw[Yar,Yaj h];rfl
theorem Zse {P:List ByteArray} (hP:Zfj P=true) {d:Nat} (h:d<P.length):(wAt P d).size≤40:=by
 unfold Zfj at hP;rw[Yaq,Ybt]at hP;have:=hP.2 P[d] (Yaw h);unfold wAt;rw[Yar,Yaj h];simpa using this
theorem Zxg {P:List ByteArray} (hP:Zfj P=true) (h16:P.length≤16) {out:List Line} (hr:Zab out=true) {d:Nat} (hd:d<P.length) (hU:d=0∨P.take d∈Zad out) (hf:Zas out (P.take (d+1))=none) (hl:out.length<200):
 Zab (insB out (Zcc out (P.take d) (wAt P d)) ⟨d,wAt P d,0⟩)=true∧Zcc out (P.take d) (wAt P d)≤out.length∧ ∀ q,q∈Zad (insB out (Zcc out (P.take d) (wAt P d)) ⟨d,wAt P d,0⟩)↔q=P.take (d+1)∨q∈Zad out:=by
 have hU2:P.take d= []∨P.take d∈Zad out:=hU.imp (fun e=>by rw[e];rfl) id
 have hn: ¬ P.take d++ [wAt P d]∈Zad out:=by
  rw[←Zuv hd];intro h;have:=Zcz hr|>.2 h
  rw[hf]at this;cases this
 have hl2:(P.take d).length=d:=by rw[Yah];omega
 have:=Zape hr hU2 hn hl (Zse hP hd) (by omega)
 rw[hl2]at this;exact⟨this.1,Zzl hr hU2,fun q=>by rw[this.2 q,Zuv hd]⟩
theorem Zmg {P:List ByteArray} (hP:Zfj P=true) (h16:P.length≤16): ∀ (f d:Nat) (out M:List Line),d+f=P.length→Zab out=true→(d=0∨P.take d∈Zad out)→Zeq P f d out=some M→
 Zab M=true∧ ∀ q,q∈Zad M↔q∈Zad out∨ ∃ j,d<j∧j≤P.length∧q=P.take j
 | 0,d,out,M,hd,hr,_,h=>by
   unfold Zeq at h;injection h with h
   subst h;exact⟨hr,fun q=>⟨.inl,fun hq=>hq.elim id fun⟨j,h1,h2,_⟩=>absurd h1 (by omega)⟩⟩
 | f + 1,d,out,M,hd,hr,hU,h=>by
   unfold Zeq at h;cases hf:Zas out (P.take (d+1))with
   | some k=>
     rw[hf,Yam (show(some k).isSome=true from rfl)]at h;have hin:P.take (d+1)∈Zad out:=(Zcz hr).1 (by rw[hf];rfl)
     obtain⟨h1,h2⟩:=Zmg hP h16 f (d+1) out M (by omega) hr (.inr hin) h
     refine⟨h1,fun q=> ?_⟩
     rw[h2];constructor
     · rintro(h|⟨j,j1,j2,e⟩)
       · exact .inl h
       · exact .inr ⟨j,by omega,j2,e⟩
     · rintro(h|⟨j,j1,j2,e⟩)
       · exact .inl h
       · by_cases hj:j=d+1
         · subst hj;rw[e];exact .inl hin
         · exact .inr ⟨j,by omega,j2,e⟩
   | none=>
     rw[hf,Yab (show ¬ (none:Option Nat).isSome=true by simp)]at h
     by_cases hl:200≤out.length
     · rw[Yam hl]at h;cases h
     · rw [Yab hl]at h;obtain⟨g1,-,g2⟩:=Zxg hP h16 hr (by omega) hU hf (by omega)
       obtain⟨h1,h2⟩:=Zmg hP h16 f (d+1) _ M (by omega) g1 (.inr ((g2 _).2 (.inl rfl))) h
       refine⟨h1,fun q=> ?_⟩
       rw[h2,g2];constructor
       · rintro((h|h)|⟨j,j1,j2,e⟩)
         · exact .inr ⟨d+1,by omega,by omega,h⟩
         · exact .inl h
         · exact .inr ⟨j,by omega,j2,e⟩
       · rintro(h|⟨j,j1,j2,e⟩)
         · exact .inl (.inr h)
         · by_cases hj:j=d+1
           · subst hj;rw[e];exact .inl (.inl rfl)
           · exact .inr ⟨j,by omega,j2,e⟩
end Lns
namespace Go.Proofs.Zq
open Tryz
open Go Go.RowKit Go.Sort Tre Sch Lns
theorem Zals (s:ByteArray) (w:World):Calls prog 126 #[.string s] w fun e w'=>e= .returned (.bool (decide (40<s.size)))∧w'=w:=by
 go_enter func126,ntmps126;go_wp2;go_ret;exact⟨Zah (by simp;omega),rfl⟩
def Zfo:Nat→List ByteArray→Int
 |_,[]=> -1
 |i,s::l=>if 40<s.size then(i:Int)else Zfo (i+1) l
theorem Zahm: ∀ (l:List ByteArray) (i:Nat),(decide (0≤Zfo i l))= !(l.all fun s=>decide (s.size≤40))
 | [],i=>rfl
 | s ::l,i=>by
   unfold Zfo;by_cases h:40<s.size
   · rw[Yam h,Ydd,Yai (by omega: ¬ s.size≤40),Yfi]
     simp
   · rw[Yab h,Ydd,Yal (by omega:s.size≤40),Ydw]
     exact Zahm l (i+1)
theorem Zyj (A:Option Addr) (c:Nat) (P:List ByteArray) (w:World) (hR:Rd w 1 A P.length (sv P)) (hl:P.length≤1000000):
 Calls prog 165 #[.slice A P.length c, .func (.func 126) #[] #[]] w fun e w'=>e= .returned (.int .i64 (Zfo 0 P))∧w'=w:=by
 have HR:=Zhd hR;clear hR;go_enter func165,ntmps165;go_wp2;go_loopw [8] (fun vi wr=> ∃ k:Nat,k≤P.length∧vi= .int .i64 k∧wr=w∧Hid (Zfo 0 P=Zfo k (P.drop k))) (fun vi _=>P.length-(intOf vi).toNat)
 case atStart=>exact⟨0,Yas _,rfl,rfl,rfl⟩
 case round=>
  obtain⟨k,hk,rfl,hwe,HQ⟩:=hrel;have hwe:=hwe.symm;subst hwe;by_cases hlt:k<P.length
  · obtain⟨B,O,rfl,hab,hadd,hx⟩:=HR.out.strAt hlt;have hst:Zfo 0 P=if 40<P[k].size then(k:Int)else Zfo (k+1) (P.drop (k+1)):=by rw[HQ.out,Yaz hlt];rfl
    generalize P[k]=s at *;have HC:=Zhd (Zals s w);by_cases h40:40<s.size
    · rw[Yam h40]at hst;rw[Yal h40]at HC;have HN:=Zhd hst;clear hst HQ;go_wp2_with (go_at_call 126;refine HC.out.mono ?_;rintro e w' ⟨rfl,rfl⟩);go_ret;exact⟨by rw[HN.out];rfl,rfl⟩
    · rw[Yab h40]at hst;rw[Yai h40]at HC;have HN:=Zhd hst;clear hst HQ;go_wp2_with (go_at_call 126;refine HC.out.mono ?_;rintro e w' ⟨rfl,rfl⟩);go_roundw
      case rel=>exact⟨k+1,by omega,by go_num,by simp,HN⟩
      case measure=>simp[intOf];omega
  · have HN:Hid (Zfo 0 P= -1):=by
     show _=_;rw[HQ.out,Ybe (by omega)];rfl
    have hke:k=P.length:=by omega
    clear HQ;go_wp2;go_ret;exact⟨by rw[HN.out];rfl,rfl⟩
theorem Zmx (A:Option Addr) (c:Nat) (P:List ByteArray) (w:World) (hR:Rd w 1 A P.length (sv P)) (hl:P.length≤1000000):
 Calls prog 93 #[.slice A P.length c] w fun e w'=>e= .returned (.bool (Zfj P))∧w'=w:=by
 have HI:=Zhd (Zyj A c P w hR hl)
 have HX:Hid (Zfj P=(decide (0<P.length)&& !(decide (0≤Zfo 0 P)))):=by
  show _=_;rw[Zahm];unfold Zfj;simp
 clear hR;generalize Zfo 0 P=q at *
 have HCo:Hid (∀ W,W=w→Calls prog 125 #[.slice A P.length c, .func (.func 126) #[] #[]] W fun e w'=>e= .returned (.bool (decide (0≤q)))∧w'=W):=by
  rintro W rfl;go_enter func125,ntmps125;go_wp2_with (go_at_call 165;refine HI.out.mono ?_;rintro e w' ⟨rfl,rfl⟩);go_ret;exact⟨Zah rfl,rfl⟩
 by_cases h0:0<P.length
 · have h0':(0:Int)<(P.length:Int):=by omega
   go_enter func93,ntmps93;go_wp2_with (go_at_call 125;refine(HCo.out _ rfl).mono ?_;rintro e w' ⟨rfl,rfl⟩);go_ret;exact⟨Zah (by rw[HX.out,Yal h0];simp),rfl⟩
 · have h0': ¬ (0:Int)<(P.length:Int):=by omega
   go_enter func93,ntmps93;go_wp2_with fail;go_ret;exact⟨Zah (by rw[HX.out,Yai h0];simp),rfl⟩
theorem Zaga {f:Nat→Bool} {d:Nat} {K:List Nat} {j:Nat} (h:K.length≤j):atOf f d (K.drop j)=d:=by
 rw[Ybe h];rfl
theorem Zaii (A:Option Addr) (cap:Nat) (L:List Line) (Ap:Option Addr) (cp:Nat) (U:List ByteArray) (s:ByteArray) (w:World) (hR:Rd w 3 A L.length (lines L)) (hcap:L.length≤cap) (hc:cap≤maxLen) (hr:Zab L=true) (hP:Rd w 1 Ap U.length (sv U)) (hcp:U.length≤cp) (hc2:cp≤maxLen):
 Calls prog 95 #[.slice A L.length cap, .slice Ap U.length cp, .string s] w fun e w'=>e= .returned (.int .i64 (Zcc L U s:Nat))∧Below w.heap.size w w':=by
 have HFi:=Zhd (Zca A cap L Ap cp U w hR hcap hc hr hP hcp hc2);have h200:=Zau hr;have HEn:=Zhd (fun k (hk:k<L.length) W (hb:Below w.heap.size w W)=>Zsz A cap L k W (hR.below hb) hcap hc)
 have HTh:=Zhd (fun k (hk:k<L.length)=>Zgk hr hk)
 have HKi:=Zhd (fun k (hk:k<L.length) W (hb:Below w.heap.size w W)=>Zor A cap L k W (hR.below hb) hcap hc hr hk)
 have HKt:=Zhd (fun W (hb:Below w.heap.size w W)=>Zyo A cap L W (hR.below hb) hcap hc hr)
 have HFl:=Zhd (fun k (h:Zas L U=some k)=>Zcu h)
 have HGT:Hid (∀ k,(h:k<L.length)→(Op.bytesLess L[k].word.toList s.toList||L[k].word.toList==s.toList)= !(gtAt L s k)):=fun k h=>by unfold gtAt;rw[Zbe h,Zahk]
 have HX:Hid (Zcc L U s=match Zas L U with|some a=>atOf (gtAt L s) (endB L a) (kidsB L a)|none=>atOf (gtAt L s) L.length (Zat L)):=rfl
 have HR:=Zhd hR
 have HKm:=Zhd (fun k (hk:k<L.length) j (h:j<(kidsB L k).length)=>show(kidsB L k)[j]<L.length from by
  have h1:=(Zbh.1 (Yaw h)).1;have:=Zbb L k hk;omega)
 have HKl:=Zhd (fun k (hk:k<L.length)=>show(kidsB L k).length≤200 from by
  have h1:=kidsTo_len L (Zaj L k+1) (k+1) (endB L k);have:=Zbb L k hk;unfold kidsB;omega)
 have HTm:=Zhd (fun j (h:j<(Zat L).length)=>show(Zat L)[j]<L.length from(Zbh.1 (Yaw h)).1)
 have HTl:Hid ((Zat L).length≤200):=by
  have h1:=kidsTo_len L 0 0 L.length;show _≤_;unfold Zat;omega
 clear hR hP hr;go_enter func95,ntmps95;cases hf:Zas L U with
 | none =>
   rw[hf]at HFi HX;have HX2:Hid (Zcc L U s=atOf (gtAt L s) L.length (Zat L)):=HX.out;clear HX HKi HKm HKl HEn HTh HFl hf;have HAD:=Zhd (fun j h=>Zaag (f:=gtAt L s) (d:=L.length) (K:=Zat L) (j:=j) h)
   have HAE:=Zhd (fun j h=>Zaga (f:=gtAt L s) (d:=L.length) (K:=Zat L) (j:=j) h)
   have hkl:=HTl.out;generalize Zat L=K at *;generalize gtAt L s=f at *;go_wp2_with (first|(go_at_call 47;refine HFi.out.mono ?_;rintro e w1 ⟨rfl,hb1⟩)|(go_at_call 88;refine(HKt.out _ hb1).mono ?_;unfold Zha;rintro e w2 ⟨A2,c2,rfl,hc21,hc22,hrd2,hb2⟩;have HI:=Zhd hrd2;have HB2:=Zhd (Zaa hb1 hb2);clear hrd2 hb2 hb1))
   go_loopw [28] (fun vi wr=> ∃ j:Nat,j≤K.length∧vi= .int .i64 j∧wr=w2∧Hid (Zcc L U s=atOf f L.length (K.drop j))) (fun vi _=>K.length-(intOf vi).toNat)
   case atStart=>exact⟨0,Yas _,rfl,rfl,HX2.out⟩
   case round=>
    obtain⟨j,hj,rfl,hwe,HQ⟩:=hrel;have hwe:=hwe.symm;subst hwe;by_cases hlt:j<K.length
    · obtain⟨B,O,rfl,hab,hadd,hx⟩:=HI.out.intAt hlt;have hql:=HTm.out j hlt;have had:=HAD.out j hlt;generalize K[j]=q at *;obtain⟨B2,O2,rfl,hab2,hadd2,y0,y1,y2⟩:=(HR.out.below HB2.out).line hql;have hgt:=HGT.out q hql;generalize L[q].word=u at *;have hqi:(q:Int)<(L.length:Int):=by omega
      clear HGT HAD y0 y2;cases hf:f q with
      | true=>
        rw[hf,Bool.not_true]at hgt;rw[hf,Yam rfl]at had;have hg1:Op.bytesLess u.toList s.toList=false:=by cases h:Op.bytesLess u.toList s.toList<;>simp[h]at hgt⊢
        have hg2:(u.toList==s.toList)=false:=by rw[hg1]at hgt;simpa using hgt
        have hg3: ¬ u.toList=s.toList:=by simpa using hg2
        have HN:Hid (Zcc L U s=q):=by show _=_;rw[HQ.out,had]
        clear hf had HQ;go_wp2_with fail;go_ret;exact⟨by rw[HN.out];rfl,HB2.out⟩
      | false=>
        rw[hf,Bool.not_false]at hgt;rw[hf,Yab (by simp)]at had
        have hg4:(!(Op.bytesLess u.toList s.toList)&& !(u.toList==s.toList))=false:=by
         rw[←Bool.not_or,hgt];rfl
        have HN:Hid (Zcc L U s=atOf f L.length (K.drop (j+1))):=by show _=_;rw[HQ.out,had]
        clear hf had HQ;go_wp2_with fail;go_roundw
        case rel=>exact⟨j+1,by omega,by go_num,by simp,HN⟩
        case measure=>simp[intOf];omega
    · have HN:Hid (Zcc L U s=L.length):=by show _=_;rw[HQ.out,HAE.out j (by omega)]
      have hjk:j=K.length:=by omega
      clear HQ;go_wp2_with fail;go_ret;exact⟨by rw[HN.out];rfl,HB2.out⟩
 | some k=>
   have hk:=HFl.out k hf;rw[hf]at HFi HX;have HX2:Hid (Zcc L U s=atOf (gtAt L s) (endB L k) (kidsB L k)):=HX.out;have HEk:=HEn.out k hk;rw[HTh.out k hk]at HEk;have HEk2:Hid (∀ W,Below w.heap.size w W→Calls prog 62 #[.slice A L.length cap, .int .i64 k] W fun e w'=>e= .returned (.int .i64 (endB L k:Nat))∧Below W.heap.size W w'):=HEk
   have HKk:=Zhd (HKi.out k hk);have hkl:=HKl.out k hk;have HKM:=Zhd (HKm.out k hk);clear HX HKi HKm HKl HEn HTh HFl HKt HTm HTl hf HEk;have HAD:=Zhd (fun j h=>Zaag (f:=gtAt L s) (d:=endB L k) (K:=kidsB L k) (j:=j) h)
   have HAE:=Zhd (fun j h=>Zaga (f:=gtAt L s) (d:=endB L k) (K:=kidsB L k) (j:=j) h)
   generalize kidsB L k=K at *;generalize gtAt L s=f at *;generalize endB L k=d at *;go_wp2_with (first|(go_at_call 47;refine HFi.out.mono ?_;rintro e w1 ⟨rfl,hb1⟩)|(go_at_call 62;refine(HEk2.out _ hb1).mono ?_;rintro e w1b ⟨rfl,hb1b⟩;have hb1c:=Zaa hb1 hb1b)|(go_at_call 88;refine(HKk.out _ hb1c).mono ?_;unfold Zha;rintro e w2 ⟨A2,c2,rfl,hc21,hc22,hrd2,hb2⟩;have HI:=Zhd hrd2;have HB2:=Zhd (Zaa hb1c hb2);clear hrd2 hb2 hb1 hb1b hb1c))
   go_loopw [28] (fun vi wr=> ∃ j:Nat,j≤K.length∧vi= .int .i64 j∧wr=w2∧Hid (Zcc L U s=atOf f d (K.drop j))) (fun vi _=>K.length-(intOf vi).toNat)
   case atStart=>exact⟨0,Yas _,rfl,rfl,HX2.out⟩
   case round=>
    obtain⟨j,hj,rfl,hwe,HQ⟩:=hrel;have hwe:=hwe.symm;subst hwe;by_cases hlt:j<K.length
    · obtain⟨B,O,rfl,hab,hadd,hx⟩:=HI.out.intAt hlt;have hql:=HKM.out j hlt;have had:=HAD.out j hlt;generalize K[j]=q at *;obtain⟨B2,O2,rfl,hab2,hadd2,y0,y1,y2⟩:=(HR.out.below HB2.out).line hql;have hgt:=HGT.out q hql;generalize L[q].word=u at *;have hqi:(q:Int)<(L.length:Int):=by omega
      clear HGT HAD y0 y2;cases hf:f q with
      | true=>
        rw[hf,Bool.not_true]at hgt;rw[hf,Yam rfl]at had;have hg1:Op.bytesLess u.toList s.toList=false:=by cases h:Op.bytesLess u.toList s.toList<;>simp[h]at hgt⊢
        have hg2:(u.toList==s.toList)=false:=by rw[hg1]at hgt;simpa using hgt
        have hg3: ¬ u.toList=s.toList:=by simpa using hg2
        have HN:Hid (Zcc L U s=q):=by show _=_;rw[HQ.out,had]
        clear hf had HQ;go_wp2_with fail;go_ret;exact⟨by rw[HN.out];rfl,HB2.out⟩
      | false=>
        rw[hf,Bool.not_false]at hgt;rw[hf,Yab (by simp)]at had
        have hg4:(!(Op.bytesLess u.toList s.toList)&& !(u.toList==s.toList))=false:=by
         rw[←Bool.not_or,hgt];rfl
        have HN:Hid (Zcc L U s=atOf f d (K.drop (j+1))):=by show _=_;rw[HQ.out,had]
        clear hf had HQ;go_wp2_with fail;go_roundw
        case rel=>exact⟨j+1,by omega,by go_num,by simp,HN⟩
        case measure=>simp[intOf];omega
    · have HN:Hid (Zcc L U s=d):=by show _=_;rw[HQ.out,HAE.out j (by omega)]
      have hjk:j=K.length:=by omega
      clear HQ;go_wp2_with fail;go_ret;exact⟨by rw[HN.out];rfl,HB2.out⟩
theorem Zdc {P:Program} (k:Nat) (w:World) (dT sT ty elem:TypeId) (g o dLen dCap:Nat) (a:Addr) (sLen sCap:Nat) (cur:Array Value) (t:TypeId) (cs:List Value)
 (hu:P.underlying dT=some (.slice elem)) (hs:(P.info? elem).map (·.size)=some k)
 (hg:w.heap[g]?=some (.cells cur t (0,0))) (hn:cs.length=Nat.min sLen dLen*k)
 (hsrc: ∀ j v,cs[j]?=some v→w.cell? (a.add j)=some v) (hfit:o+cs.length≤cur.size) (h1: ∀ v∈cs,v.oneCell'=true):
 (Builtin.copy_ #[dT,sT] ty #[.slice (some ⟨g,o,none⟩) dLen dCap, .slice (some a) sLen sCap]).run P w=
  .ok (goInt (Nat.min sLen dLen)) (w.setRow g (cur.toList.take o++cs++cur.toList.drop (o+cs.length)).toArray):=by
 have hl:=run_loadCells_list (P:=P) w a cs hsrc;have hst:=run_storeCells_at P g o t cs 0 cur w hg (by simpa using hfit) h1
 cases hq:P.info? elem with
 |none=>simp[hq]at hs
 | some i=>
   have hi:i.size=k:=by simpa[hq]using hs
   simp[Builtin.copy_,run_underlying hu,Builtin.lenOf,Builtin.firstCells,sizeOf,typeInfo,hq,hi,←hn,hl,hst]
def segs (cur:List Value) (o:Nat) (cs:List Value):List Value:=cur.take o++cs++cur.drop (o+cs.length)
theorem Zid {cur:List Value} {o:Nat} {cs:List Value} (h:o+cs.length≤cur.length):(segs cur o cs).length=cur.length:=by
 unfold segs;rw[Yae,Yae,Yah,Yan];omega
theorem Zdu {n:Nat} {a w:World} (h:Below n a w) {g:Nat} (hg:n≤g) (cs:Array Value):Below n a (w.setRow g cs):=
 ⟨h.os,h.tape,h.output,by
  have:=h.size;simpa[World.setRow]using this,fun k hk=>by
  rw[←h.block k hk];simp only[World.setRow];rw[Ydi,Yab (by omega)]⟩
theorem Zhk (L:List Line) (i:Nat):lines L=lines (L.take i)++lines (L.drop i):=by rw[←Zbg,Ybk]
theorem Ztp (L:List Line) (l:Line) (i:Nat):lines (insB L i l)=lines (L.take i)++l.cells++lines (L.drop i):=by
 unfold insB;rw[Zbg,show l::L.drop i= [l]++L.drop i from rfl,Zbg,Zou,Ybc]
theorem Zsd {cur:List Value} {L:List Line} {i:Nat} (hi:i≤L.length) (h:cur.take (L.length*3)=lines L):cur.take (i*3)=lines (L.take i):=by
 have h2:(lines (L.take i)).length=i*3:=by rw[Zae,Yah,Yba hi]
 have e2:cur.take (i*3)=(cur.take (L.length*3)).take (i*3):=by rw[Ycl,Yba (by omega)]
 rw[e2,h,Zhk L i,Yea h2]
theorem Zalr (L:List Line) (l:Line) (i:Nat) (hi:i≤L.length) (cur:List Value) (h:cur.take (i*3)=lines (L.take i)) (hc:(L.length+1)*3≤cur.length):
 (segs (segs cur ((i+1)*3) (lines (L.drop i))) (i*3) l.cells).take ((L.length+1)*3)=lines (insB L i l):=by
 have h1:(lines (L.drop i)).length=(L.length-i)*3:=by rw[Zae,Yan]
 have h4:((segs cur ((i+1)*3) (lines (L.drop i))).take (i*3))=lines (L.take i):=by
  unfold segs;rw[Ybc,Yce (by rw[Yah];omega),Ycl,Yba (by omega),h]
 have h5:(segs cur ((i+1)*3) (lines (L.drop i))).drop (i*3+l.cells.length)=lines (L.drop i)++cur.drop ((i+1)*3+(lines (L.drop i)).length):=by
  have e:(cur.take ((i+1)*3)).length=i*3+l.cells.length:=by
   rw[Yah];show _=i*3+3;omega
  unfold segs;rw[Ybc,List.drop_left' e]
 have h7:segs (segs cur ((i+1)*3) (lines (L.drop i))) (i*3) l.cells=lines (insB L i l)++cur.drop ((i+1)*3+(lines (L.drop i)).length):=by
  rw[show segs (segs cur ((i+1)*3) (lines (L.drop i))) (i*3) l.cells=(segs cur ((i+1)*3) (lines (L.drop i))).take (i*3)++l.cells++(segs cur ((i+1)*3) (lines (L.drop i))).drop (i*3+l.cells.length)from rfl];rw[h4,h5,Ztp];simp only[Ybc]
 rw[h7,Yea];rw[Zae,Zjy]
theorem Zalq (L:List Line) (l:Line) (i:Nat) (hi:i≤L.length) (cur:List Value) (h:cur.take (i*3)=lines (L.take i)):
 (segs (segs cur (i*3) l.cells) ((i+1)*3) (lines (L.drop i))).take ((L.length+1)*3)=lines (insB L i l):=by
 have h2:(lines (L.take i)).length=i*3:=by rw[Zae,Yah,Yba hi]
 have h4:(segs cur (i*3) l.cells).take ((i+1)*3)=lines (L.take i)++l.cells:=by
  unfold segs;rw[h,Yea];rw[Yae,h2];show i*3+3=_;omega
 have h7: ∃ r,segs (segs cur (i*3) l.cells) ((i+1)*3) (lines (L.drop i))=lines (insB L i l)++r:=by
  refine⟨(segs cur (i*3) l.cells).drop ((i+1)*3+(lines (L.drop i)).length), ?_⟩;rw[show segs (segs cur (i*3) l.cells) ((i+1)*3) (lines (L.drop i))=(segs cur (i*3) l.cells).take ((i+1)*3)++lines (L.drop i)++(segs cur (i*3) l.cells).drop ((i+1)*3+(lines (L.drop i)).length)from rfl];rw[h4,Ztp]
 obtain⟨r,h7⟩:=h7;rw[h7,Yea];rw[Zae,Zjy]
end Go.Proofs.Zq
