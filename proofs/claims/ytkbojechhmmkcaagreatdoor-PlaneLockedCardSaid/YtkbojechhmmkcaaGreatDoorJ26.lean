import Derived.Deep.MidRow
import Derived.Test.YtkbojechhmmkcaaGreatDoorJ25
set_option linter.unusedVariables false
set_option linter.unusedSimpArgs false
set_option maxHeartbeats 4000000
set_option maxRecDepth 100000
namespace Go.Proofs.Zq
open Tryz
open Go Go.RowKit Go.Sort Tre Lx Prs Lns Edt Sch
theorem Zahr (w:World) (T:TypeId) (a:ByteArray):Rd (w.alloc (.cells #[.string a] T)) 1 (some ⟨w.heap.size,0,none⟩) 1 (sv [a]):=by
 refine⟨rfl,fun _=>⟨_,rfl,by simp,fun j u hu=> ?_⟩⟩
 rw[Zag,Ybj,World.cell?_alloc_at _ _ _ _ rfl,Ydd];exact hu
theorem Zaxx {w w':World} {L:List Line} {P:List ByteArray} {e:Ending} (h:Zje L P w e w'): ∃ v,e= .returned (.tuple #[v, .int .i64 (addB L P).2])∧Lr w' v (addB L P).1∧Below w.heap.size w w':=by
 obtain⟨A,c,h1,h2,h3,h4,h5,h6⟩:=h;exact⟨_,h1,⟨A,c,rfl,h2,h3,h4,h5⟩,h6⟩
theorem Zagj (v:Value) (L:List Line) (w:World) (hL:Lr w v L) (hr:Zab L=true):
 Calls prog 32 #[v] w (Zhc (Zdd L) w):=by
 obtain⟨i0,hi,hz0,hz1,hz2⟩:=info_parts Zhs;have HEx:=Zhd (Zpc v L w hL hr);have HA:=Zhd (fun(W:World) (hb:Below w.heap.size w W)=>Znz v L W (hL.below hb) hr)
 have ha:=(Zef hr).1;have hx:=(Zof hr).1;have HW:=Zhd (fun(vt p:Value) (W:World) (h1:Lr W vt (Zal L)) (h2:Pr W p [Zgz])=>Zsy vt p (Zal L) [Zgz] W h1 ha h2)
 have hwl:(Zdb (Zal L) [Zgz]).length≤200:=Yas (Zzw _) (Zas ha);have HG:=Zhd (fun(g:ByteArray) (W:World) (hb:Below w.heap.size w W)=>Zagq v L g W (hL.below hb) hr)
 have HGl:=Zhd (fun g=>Zaxr hr g)
 have HGm:=Zhd (fun g q (h:q∈gsB L g)=>Zaxs hr h)
 have HGd:Hid (∀ g,gsB L g=(Zis L g).getD []):=fun _=>rfl
 have HIn:=Zhd (fun(vt p:Value) (P:List ByteArray) (W:World) (h1:Lr W vt (Ziq L)) (h2:QOwn W (p,P)) (h3:0<P.length) (h4:P.length≤16)=>Zvv vt p (Ziq L) P W h1 hx h2 h3 h4)
 obtain⟨z,hz⟩: ∃ z,Zdd L=z:=⟨_,rfl⟩;have HZ:Hid (z=if(Zdb (Zal L) [Zgz]).any fun g=>(Zis L g).isNone then([],3)else Zgd (Ziq L) (Ziq L) ((Zdb (Zal L) [Zgz]).flatMap (gsB L))):=hz.symm
 have HXr:=Zhd hx;rw[hz];clear hz hL hr ha hx;unfold Zacr at HG;generalize Zdb (Zal L) [Zgz]=gs at *;generalize Zal L=a at *;generalize Ziq L=X at *;generalize hgp:Zis L=gp at *;generalize hgs:gsB L=gf at *;clear hgp hgs;go_enter func32,ntmps32;go_wp2_with fail;refine HEx.out.mono ?_;rintro e w1 ⟨⟨v1,rfl,ho1⟩,hb1⟩;have HX1:=Zhd (Lr.own ho1);have HB1:=Zhd hb1;have HA1:=Zhd (HA.out w1 HB1.out);clear ho1 hb1 HEx HA;go_wp2_with fail;refine HA1.out.mono ?_;rintro e w2 ⟨⟨v2,rfl,ho2⟩,hb2⟩;have HX2:=Zhd ((HX1.out.below hb2).below ((Yae _ _).alloc (Yag _) (.cells #[.string Zgz] 9)));have HB2:=Zhd ((Zaa HB1.out hb2).alloc (Zaa HB1.out hb2).size (.cells #[.string Zgz] 9));have HW2:=Zhd (HW.out v2 (.slice (some ⟨w2.heap.size,0,none⟩) 1 1) (w2.alloc (.cells #[.string Zgz] 9)) ((Lr.own ho2).below ((Yae _ _).alloc (Yag _) _)) ⟨_,1,rfl,Yag _,by unfold maxLen;omega,Zahr w2 9 Zgz⟩)
 clear ho2 hb2 HA1 HX1 HB1 HW;go_wp2_with fail;refine HW2.out.mono ?_;rintro e w3 ⟨⟨v3,rfl,ho3⟩,hb3⟩;obtain⟨Ag,cg,e3,-,-,hRg⟩:=Zbe ho3;subst e3;have HX3:=Zhd (HX2.out.below hb3);have HB3:=Zhd (Zaa HB2.out hb3);have HRg:=Zhd hRg;clear ho3 hb3 hRg HX2 HB2 HW2;go_wp2;go_loopw [8,33] (fun vo vj wr=> ∃ (j:Nat) (Q:List PV),vj= .int .i64 j∧j≤gs.length∧Q.length≤40000*j∧Hid (QRow wr w3.heap.size vo Q)∧Hid (Q.map Prod.snd=(gs.take j).flatMap gf)∧Hid ((gs.take j).any (fun g=>(gp g).isNone)=false)∧Hid (∀ x∈Q,0<x.2.length∧x.2.length≤16)∧Hid (Below w3.heap.size w3 wr)) (fun _ vj _=>gs.length-(intOf vj).toNat)
 case atStart=>exact⟨0,[],rfl,Yao _,Yao _,Zqb _ _,rfl,rfl,(show ∀ x∈([]:List PV),0<x.2.length∧x.2.length≤16 by simp),Yae _ _⟩
 case round=>
  obtain⟨j,Q,rfl,hj',hQl,HQ,HM,HN,HS,HB⟩:=hrel;by_cases hlt:j<gs.length
  · obtain⟨bg,og,rfl,habg,haddg,xg⟩:=HRg.out.strAt hlt;have x0:=(HB.out.cell (p:=⟨bg,og+j,none⟩) habg).trans xg;have HSt:=Zhd (Zrc gf gs hlt);have hgl:=HGl.out gs[j];have hgm:=HGm.out gs[j];have hgd:=HGd.out gs[j];have HP:=Zhd (HG.out gs[j] wr (Zaa HB3.out HB.out))
    have HAn:Hid ((gs.take (j+1)).any (fun g=>(gp g).isNone)=(gp gs[j]).isNone):=by
     show _=_;rw[Yaw hlt,List.any_append,HN.out];simp
    have HAm:Hid ((gp gs[j]).isNone=true→gs.any (fun g=>(gp g).isNone)=true):=fun h=>List.any_eq_true.2 ⟨gs[j],Yau hlt,h⟩
    have hjI:(j:Int)<(gs.length:Int):=by omega
    generalize gs[j]=g at *;clear xg;cases hgp:gp g with
    | none=>
      rw[hgp]at HP HAm;have HK:Hid (z=([],3)):=by show _=_;rw[HZ.out,Yan (HAm.out rfl)]
      clear HZ HM HN HS HQ hgm hgd hgl;go_wp2_with fail;refine HP.out.mono ?_;rintro e w4 ⟨⟨v4,Q4,rfl,-,-⟩,hb4⟩;have HB4:=Zhd (Zaa HB3.out (Zaa HB.out hb4));go_wp2;go_ret2;unfold Zhc;rw[HK.out];exact⟨⟨_,rfl,Zcu _⟩,HB4.out⟩
    | some l=>
      rw[hgp]at HP HAn hgd;simp only[Yfa]at HP hgd;have HN2:=Zhd (HAn.out.trans (show(some l).isNone=false from rfl))
      have HL:=Zhd hgd;have hll:l.length≤40000:=by rw[←hgd];exact hgl
      have HLm:Hid (∀ q∈l,0<q.length∧q.length≤16):=fun q hq=>hgm q (by rw[hgd];exact hq)
      clear HAn HAm hgm hgd hgl hgp HN;go_wp2_with fail;refine HP.out.mono ?_;rintro e w4 ⟨⟨v4,Q4,rfl,hq4,hm4⟩,hb4⟩;obtain⟨A4,c4,e4,-,-,hR4,hnil4,-⟩:=Zcv hq4.1;subst e4;have HB4:=Zhd (Zaa HB.out hb4);have HQ4:=Zhd (HQ.out.below hb4);have hq4l:Q4.length=l.length:=by rw[←hm4,Yaz]
      have hq4b:Q4.length≤40000:=by omega
      have HN4:=Zhd hnil4;have HR4:=Zhd hR4;have HO4:=Zhd hq4.2
      have HM4:Hid ((Q++Q4).map Prod.snd=(gs.take (j+1)).flatMap gf):=by
       show _=_;rw[HSt.out,Ybu,HM.out,hm4,HL.out]
      have HS4:Hid (∀ x∈Q++Q4,0<x.2.length∧x.2.length≤16):=fun x hx=>by
       rcases Ybl.1 hx with hx|hx
       · exact HS.out x hx
       · exact HLm.out x.2 (by rw[←hm4];exact Yda.2 ⟨x,hx,rfl⟩)
      clear hb4 hq4 hm4 hnil4 hR4 HP HQ HB HM HS HSt HL HLm hq4l hll x0;go_wp2_with (at_builtin;refine Zob rfl _ _ 71 rfl w3 w4 34 i0 _ 1 24 underlying71 hi hz0 hz1 hz2 rfl (by decide) (by decide) HQ4.out.1 HB4.out rfl A4 Q4.length c4 (Q4.map Prod.fst) rfl HR4.out HN4.out (by intro u hu;obtain⟨y,hy,rfl⟩:=Yda.1 hu;exact(HO4.out y hy).cell) (by omega) ?_;intro v8 w8 hown8 hb8 hk8)
      have HQ8:=Zhd (Zwk hown8 HQ4.out.2 HO4.out hk8);have HB8:=Zhd hb8;clear hown8 hb8 hk8 HQ4 HB4 HR4 HN4 HO4;go_wp2_with fail;go_roundw
      case rel=>exact⟨j+1,Q++Q4,by go_num,by omega,by rw[Yak];omega,HQ8,HM4,HN2,HS4,HB8⟩
      case measure=>simp[intOf];omega
  · have hjf:gs.take j=gs:=Ybk (by omega)
    rw[hjf]at HM HN;have hnI: ¬ ((j:Int)<(gs.length:Int)):=by omega
    have HZ2:Hid (z=Zgd X X (Q.map Prod.snd)):=by show _=_;rw[HZ.out,HN.out,Yad (by simp),HM.out]
    have HB4:=Zhd (Zaa HB3.out HB.out);have HX4:=Zhd (HX3.out.below HB.out);have hQb:Q.length≤8000000:=by omega
    clear hjf HM HN HZ HG HGl HGm HGd HB HX3 HRg HB3;obtain⟨A5,c5,e5,-,-,-⟩:=Zbe HQ.out.1;subst e5;obtain⟨PS,hPS⟩: ∃ PS,Q.map Prod.snd=PS:=⟨_,rfl⟩;rw[hPS]at HZ2;have hPl:PS.length=Q.length:=by rw[←hPS,Yaz]
    have HPk:Hid (∀ k (h:k<Q.length),∃ h':k<PS.length,PS[k]=Q[k].2):=fun k h=>by
     subst hPS;exact⟨by rw[Yaz];exact h,by rw[Ydj]⟩
    have HPl:=Zhd hPl;clear hPS hPl;generalize wr=w4 at *;go_wp2;go_loopw [13,53] (fun vo vk wr=> ∃ (k:Nat) (O:List Line),vk= .int .i64 k∧k≤Q.length∧Hid (Lr wr vo O)∧Hid (Zab O=true)∧Hid (Zgd X X PS=Zgd X O (PS.drop k))∧Hid (Below w4.heap.size w4 wr)) (fun _ vk _=>Q.length-(intOf vk).toNat)
    case atStart=>exact⟨0,X,rfl,Yao _,HX4.out,HXr.out,rfl,Yae _ _⟩
    case round=>
     obtain⟨k,O,rfl,hk',HO,HOr,HA,HB⟩:=hrel;by_cases hlt2:k<Q.length
     · obtain⟨m0,hm0⟩: ∃ m,Q.length=m+1:=⟨Q.length-1,by omega⟩
       have ho':=HQ.out.1;rw[hm0]at ho';obtain⟨g,c',e1⟩:=Zck ho';obtain⟨rfl,rfl⟩:A5=some ⟨g,0,none⟩∧c5=c':=by
        injection e1 with e2 _ e3
        exact⟨e2,e3⟩
       clear ho' e1 hm0;have hgl:=(HQ.out.1.lt g rfl).2;have x0:wr.cell? ⟨g,k,none⟩=some Q[k].1:=by
        rw[(HB.out.cell (p:=⟨g,k,none⟩) hgl),HQ.out.1.cellAt k (by omega),Ycy,Yaj hlt2];rfl
       have hq:QOwn wr (Q[k].1,Q[k].2):=(HQ.out.2 _ (Yau hlt2)).below HB.out;have hs:=HS.out _ (Yau hlt2);obtain⟨hkp,hpk⟩:=HPk.out k hlt2;have hdr:PS.drop k=Q[k].2::PS.drop (k+1):=by rw[Yay hkp,hpk]
       have hA:=HA.out;rw[hdr]at hA;have hkI:(k:Int)<(Q.length:Int):=by omega
       generalize Q[k].2=P at *;generalize Q[k].1=pv at *;obtain⟨bp,op,cp,ep,hcp1,hcp2,hRp,-⟩:=id hq;obtain rfl:pv= .slice (some ⟨bp,op,none⟩) P.length cp:=ep;simp only at hcp1 hRp;have HI:=Zhd (HIn.out v1 _ P wr (HX4.out.below HB.out) hq hs.1 hs.2);have HAd:=Zhd (fun(A:Option Addr) (cap:Nat) (W:World) (h1:Rd W 3 A O.length (lines O)) (h2:O.length≤cap) (h3:cap≤maxLen) (h4:A=none→cap=0) (h5:Rd W 1 (some ⟨bp,op,none⟩) P.length (sv P))=>Zuq A cap O (some ⟨bp,op,none⟩) cp P W h1 h2 h3 h4 HOr.out h5 hcp1 hcp2 (by omega))
       have HRp:=Zhd hRp;clear hq hRp hdr hpk HA;cases hin:inhB X P with
       | false=>
         rw[Zait hin]at hA;rw[hin]at HI;have HA2:=Zhd hA;clear hA hin;go_wp2_with fail;refine HI.out.mono ?_;rintro e w6 ⟨rfl,hb6⟩;have HB6:=Zhd (Zaa HB.out hb6);have HO6:=Zhd (HO.out.below hb6);clear hb6;go_wp2;go_roundw
         case rel=>exact⟨k+1,O,by go_num,by omega,HO6,HOr,HA2,HB6⟩
         case measure=>simp[intOf];omega
       | true=>
         rw[hin]at HI;obtain⟨ad,had⟩: ∃ ad,addB O P=ad:=⟨_,rfl⟩;obtain⟨M,er⟩:=ad;go_wp2_with fail;refine HI.out.mono ?_;rintro e w6 ⟨rfl,hb6⟩;obtain⟨Ao,co,eo,f1,f2,f3,f4⟩:=HO.out.below hb6;subst eo;have HB6:=Zhd (Zaa HB.out hb6);have HC6:=Zhd (HAd.out Ao co w6 f3 f1 f2 f4 (HRp.out.below hb6));clear hb6 HI HAd HRp f3;go_wp2_with fail;refine HC6.out.mono ?_;intro e w7 h7;obtain⟨v7,rfl,hl7,hb7⟩:=Zaxx h7;rw[had]at hl7⊢;have HB7:=Zhd (Zaa HB6.out hb7);have HL7:=Zhd hl7;clear h7 hl7 hb7 HC6;by_cases he:er=0
         · subst he;have hMr:=Zhd (Zqh had).1;rw[Zafl hin had]at hA;have HA2:=Zhd hA;have q00:((0:Int)!=0)=false:=rfl;clear hA hin had;go_wp2;go_roundw
           case rel=>exact⟨k+1,M,by go_num,by omega,HL7,hMr,HA2,HB7⟩
           case measure=>simp[intOf];omega
         · rw[Zafk hin had he]at hA;have HK:Hid (z=([],er)):=by show _=_;rw[HZ2.out,hA]
           have qe:(er !=0)=true:=by rw[bne_iff_ne];exact he
           have HBf:=Zhd (Zaa HB4.out HB7.out);clear hA hin had he;go_wp2;go_ret2;unfold Zhc;rw[HK.out];exact⟨⟨_,rfl,Zcu _⟩,HBf.out⟩
     · have hA:=HA.out;rw[show PS.drop k= []from Ybe (by rw[HPl.out];omega)]at hA
       have HK:Hid (z=(O,0)):=by show _=_;rw[HZ2.out,hA];rfl
       have hnI2: ¬ ((k:Int)<(Q.length:Int)):=by omega
       have HBf:=Zhd (Zaa HB4.out HB.out);clear hA HA;go_wp2;go_ret2;unfold Zhc;rw[HK.out];exact⟨⟨_,rfl,HO.out⟩,HBf.out⟩
end Go.Proofs.Zq
namespace Edt
open Go Go.Lib Tre Sch Lns
structure Ss where
 opn:Bool
 base:List Line
 mine:List Line
structure Ps where
 run:List Line
 revs:List (Int×List Line)
 s0:Ss
 s1:Ss
 s2:Ss
 lock:Int
 clock:Int
 dead:Int
 back:List Line
def Zav (S:Ps):Int:=match S.revs.getLast? with|some r=>r.1|none=>0
def Zdn (S:Ps) (T:List Line):Ps:={S with revs:=(S.revs++ [(Zav S+1,T)]).drop (S.revs.length+1-5),run:=T}
end Edt
namespace Go.Proofs.Zq
open Tryz
open Go Go.RowKit Go.Sort Tre Lx Prs Lns Edt Sch
abbrev RV:=Int×Value×List Line
def rvc (Q:List RV):List Value:=Q.flatMap fun q=> [.int .i64 q.1,q.2.1]
theorem Zann (Q:List RV):(rvc Q).length=Q.length*2:=by
 unfold rvc
 induction Q with
 |nil=>rfl
 |cons q r ih=>rw[Ybw,Yak,ih];simp;omega
theorem Zawl (Q R:List RV):rvc (Q++R)=rvc Q++rvc R:=by unfold rvc;rw[Ycg]
theorem Zmj: ∀ (Q:List RV) (i:Nat) (h:i<Q.length),(rvc Q)[i*2]?=some (.int .i64 Q[i].1)∧(rvc Q)[i*2+1]?=some Q[i].2.1
 |q::r,0,_=>⟨rfl,rfl⟩
 | q::r,i+1,h=>by
   have:=Zmj r i (by simpa using h)
   have e: ∀ j,(rvc (q::r))[j+2]?=(rvc r)[j]?:=fun j=>rfl
   rw[show(i+1)*2=i*2+2 by omega,show i*2+2+1=(i*2+1)+2 by omega,e,e]
   exact this
def RevB (T:TypeId):Bool:=T==69
def RvR (w:World) (A:Option Addr) (n c:Nat) (R:List (Int×List Line)):Prop:=
 n≤c∧c≤maxLen∧(A=none→c=0)∧ ∃ Q:List RV,Q.length=n∧Q.map (fun q=>(q.1,q.2.2))=R∧Rd w 2 A n (rvc Q)∧(∀ q∈Q,Lr w q.2.1 q.2.2)∧ ∀ a,A=some a→0<n→ ∃ x T,w.heap[a.block]?=some (.cells x T (0,0))∧RevB T=true
theorem RvR.below {w w':World} {A:Option Addr} {n c:Nat} {R:List (Int×List Line)} (h:RvR w A n c R) (hb:Below w.heap.size w w'):RvR w' A n c R:=by
 obtain⟨h1,h2,h3,Q,h4,h5,h6,h7,h8⟩:=h;exact⟨h1,h2,h3,Q,h4,h5,h6.below hb,fun q hq=>(h7 q hq).below hb,fun a e hn=>(let ⟨x,T,hx,hT⟩:=h8 a e hn;⟨x,T,(hb.block _ (Ybc.1 hx).1).trans hx,hT⟩)⟩
theorem Zamk {w:World} {base k q n m cap:Nat} {e:TypeId} {xs:List Value} (h:w.ownsRow base e k (.slice (some ⟨q,0,none⟩) n cap) m xs): ∃ x,w.heap[q]?=some (.cells x e (0,0)):=by
 rcases h.2 with⟨h1,-⟩|⟨q2,cap2,cur,h1,-,hh,-⟩
 · cases h1
 · injection h1 with h1
   injection h1 with h1
   injection h1 with h1
   exact⟨cur,by rw[h1];exact hh⟩
def plv (a0 ar a1 a2 a3 a4 a5 a6 ab:Option Addr) (n0 nr n1 n2 n3 n4 n5 n6 nb c0 cr c1 c2 c3 c4 c5 c6 cb:Nat) (o0 o1 o2:Bool) (lk ck dd:Int):Array Value:=
 #[.slice a0 n0 c0, .slice ar nr cr, .bool o0, .slice a1 n1 c1, .slice a2 n2 c2, .bool o1, .slice a3 n3 c3, .slice a4 n4 c4, .bool o2, .slice a5 n5 c5, .slice a6 n6 c6, .int .i64 lk, .int .i64 ck, .int .i64 dd, .slice ab nb cb]
def PlR (w:World) (v:Value) (S:Ps):Prop:=
 ∃ a0 ar a1 a2 a3 a4 a5 a6 ab n0 nr n1 n2 n3 n4 n5 n6 nb c0 cr c1 c2 c3 c4 c5 c6 cb,v= .agg (plv a0 ar a1 a2 a3 a4 a5 a6 ab n0 nr n1 n2 n3 n4 n5 n6 nb c0 cr c1 c2 c3 c4 c5 c6 cb S.s0.opn S.s1.opn S.s2.opn S.lock S.clock S.dead)∧
   Lr w (.slice a0 n0 c0) S.run∧RvR w ar nr cr S.revs∧Lr w (.slice a1 n1 c1) S.s0.base∧Lr w (.slice a2 n2 c2) S.s0.mine∧Lr w (.slice a3 n3 c3) S.s1.base∧Lr w (.slice a4 n4 c4) S.s1.mine∧Lr w (.slice a5 n5 c5) S.s2.base∧Lr w (.slice a6 n6 c6) S.s2.mine∧Lr w (.slice ab nb cb) S.back
theorem PlR.below {w w':World} {v:Value} {S:Ps} (h:PlR w v S) (hb:Below w.heap.size w w'):PlR w' v S:=by
 obtain⟨a0,ar,a1,a2,a3,a4,a5,a6,ab,n0,nr,n1,n2,n3,n4,n5,n6,nb,c0,cr,c1,c2,c3,c4,c5,c6,cb,e,h0,hr,h1,h2,h3,h4,h5,h6,h7⟩:=h;exact⟨a0,ar,a1,a2,a3,a4,a5,a6,ab,n0,nr,n1,n2,n3,n4,n5,n6,nb,c0,cr,c1,c2,c3,c4,c5,c6,cb,e,h0.below hb,hr.below hb,h1.below hb,h2.below hb,h3.below hb,h4.below hb,h5.below hb,h6.below hb,h7.below hb⟩
theorem Zahs (w:World) (T:TypeId) (n:Int) (v:Value):Rd (w.alloc (.cells #[.int .i64 n,v] T)) 2 (some ⟨w.heap.size,0,none⟩) 1 [.int .i64 n,v]:=by
 refine⟨rfl,fun _=>⟨_,rfl,by simp,fun j u hu=> ?_⟩⟩
 rw[Zag,Ybj,World.cell?_alloc_at _ _ _ _ rfl,Ydd];exact hu
theorem Zasq {Q:List RV} {w:World} (h: ∀ q∈Q,Lr w q.2.1 q.2.2): ∀ u∈rvc Q,u.oneCell'=true:=by
 intro u hu;unfold rvc at hu;obtain⟨q,hq,hu⟩:=Ydf.1 hu;obtain⟨A,c,e,-⟩:=h q hq;simp only[Yax,Yby,or_false]at hu;rcases hu with rfl|rfl
 · rfl
 · rw[e];rfl
theorem Zawm (q:RV):rvc [q]= [.int .i64 q.1,q.2.1]:=rfl
theorem Zasr {w:World} {q n:Nat} {Q:List RV} (hn:Q.length=n+1) (h:Rd w 2 (some ⟨q,0,none⟩) (n+1) (rvc Q)):Rd w 2 (some ⟨q,2,none⟩) n (rvc (Q.drop 1)):=by
 refine⟨by rw[Zann,Yam,hn,Yem],fun _=> ?_⟩
 obtain⟨ad,e,hb,hx⟩:=h.2 (by omega)
 cases e;refine⟨_,rfl,hb,fun j u hu=> ?_⟩
 cases Q with
 |nil=>simp at hn
 | cons a r=>
   have:(rvc (a::r))[j+2]?=some u:=hu;have h2:=hx (j+2) u this;rw[Zag]at h2⊢;rw[show 2+j=0+(j+2) by omega]
   exact h2
theorem Zatx {Q:List RV} {S:Ps} (h:Q.map (fun q=>(q.1,q.2.2))=S.revs):Zav S=match Q.getLast? with|some q=>q.1|none=>0:=by
 unfold Zav;rw[←h,List.getLast?_map];cases Q.getLast?<;>rfl
theorem Zavs (S:Ps) (a0 ar a1 a2 a3 a4 a5 a6 ab:Option Addr) (n0 nr n1 n2 n3 n4 n5 n6 nb c0 cr c1 c2 c3 c4 c5 c6 cb:Nat) (At:Option Addr) (ct:Nat) (T:List Line) (w:World) (hr:RvR w ar nr cr S.revs) (hT:Lr w (.slice At T.length ct) T) (h5:S.revs.length≤5) (hl:0≤Zav S∧Zav S≤1000000000):
 Calls prog 30 #[.agg (plv a0 ar a1 a2 a3 a4 a5 a6 ab n0 nr n1 n2 n3 n4 n5 n6 nb c0 cr c1 c2 c3 c4 c5 c6 cb S.s0.opn S.s1.opn S.s2.opn S.lock S.clock S.dead), .slice At T.length ct] w fun e w'=>(∃ q o nq cq,e= .returned (.agg (plv At (some ⟨q,o,none⟩) a1 a2 a3 a4 a5 a6 ab T.length nq n1 n2 n3 n4 n5 n6 nb ct cq c1 c2 c3 c4 c5 c6 cb S.s0.opn S.s1.opn S.s2.opn S.lock S.clock S.dead))∧w.heap.size≤q∧RvR w' (some ⟨q,o,none⟩) nq cq (Zdn S T).revs)∧Below w.heap.size w w':=by
 obtain⟨i0,hii,hz0,hz1,hz2⟩:=info_parts Zadt;unfold plv;obtain⟨g1,g2,g3,Q,hQn,hQr,hQd,hQl,-⟩:=hr;have hnr:nr≤5:=by
  rw[←hQr,Yaz]at h5;omega
 obtain⟨wb,hwb⟩: ∃ wb,w.alloc (.cells #[.slice a0 n0 c0, .slice ar nr cr, .bool S.s0.opn, .slice a1 n1 c1, .slice a2 n2 c2, .bool S.s1.opn, .slice a3 n3 c3, .slice a4 n4 c4, .bool S.s2.opn, .slice a5 n5 c5, .slice a6 n6 c6, .int .i64 S.lock, .int .i64 S.clock, .int .i64 S.dead, .slice ab nb cb] 32)=wb:=⟨_,rfl⟩;obtain⟨wa,hwa⟩: ∃ wa,wb.alloc (.cells #[.slice none 0 0, .slice none 0 0, .bool false, .slice none 0 0, .slice none 0 0, .bool false, .slice none 0 0, .slice none 0 0, .bool false, .slice none 0 0, .slice none 0 0, .int .i64 0, .int .i64 0, .int .i64 0, .slice none 0 0] 32)=wa:=⟨_,rfl⟩;have hbb:Below w.heap.size w wb:=by rw[←hwb];exact(Yae _ _).alloc (Yag _) _
 have hba:Below w.heap.size w wa:=by rw[←hwa];exact hbb.alloc hbb.size _
 have hs1:w.heap.size<wb.heap.size:=by rw[←hwb];simp
 have hs2:wb.heap.size<wa.heap.size:=by rw[←hwa];simp
 have hh1:wa.heap[wb.heap.size]?=some (.cells #[.slice none 0 0, .slice none 0 0, .bool false, .slice none 0 0, .slice none 0 0, .bool false, .slice none 0 0, .slice none 0 0, .bool false, .slice none 0 0, .slice none 0 0, .int .i64 0, .int .i64 0, .int .i64 0, .slice none 0 0] 32 (0,0)):=by rw[←hwa];exact heap_alloc_new _ _
 have hh0:wa.heap[w.heap.size]?=some (.cells #[.slice a0 n0 c0, .slice ar nr cr, .bool S.s0.opn, .slice a1 n1 c1, .slice a2 n2 c2, .bool S.s1.opn, .slice a3 n3 c3, .slice a4 n4 c4, .bool S.s2.opn, .slice a5 n5 c5, .slice a6 n6 c6, .int .i64 S.lock, .int .i64 S.clock, .int .i64 S.dead, .slice ab nb cb] 32 (0,0)):=by
  rw[←hwa,heap_alloc_old (r:=w.heap.size) wb _ hs1,←hwb];exact heap_alloc_new _ _
 have HH0:Hid (∀ W,Below wa.heap.size wa W→W.heap[w.heap.size]?=some (.cells #[.slice a0 n0 c0, .slice ar nr cr, .bool S.s0.opn, .slice a1 n1 c1, .slice a2 n2 c2, .bool S.s1.opn, .slice a3 n3 c3, .slice a4 n4 c4, .bool S.s2.opn, .slice a5 n5 c5, .slice a6 n6 c6, .int .i64 S.lock, .int .i64 S.clock, .int .i64 S.dead, .slice ab nb cb] 32 (0,0))):=fun W hb=>(hb.block _ (by omega)).trans hh0
 have HH1:Hid (∀ W,Below wa.heap.size wa W→W.heap[wb.heap.size]?=some (.cells #[.slice none 0 0, .slice none 0 0, .bool false, .slice none 0 0, .slice none 0 0, .bool false, .slice none 0 0, .slice none 0 0, .bool false, .slice none 0 0, .slice none 0 0, .int .i64 0, .int .i64 0, .int .i64 0, .slice none 0 0] 32 (0,0))):=fun W hb=>(hb.block _ hs2).trans hh1
 have HK:Hid (∀ W,Below wa.heap.size wa W→W.cell? ⟨w.heap.size,0,none⟩=some (.slice a0 n0 c0)∧W.cell? ⟨w.heap.size,1,none⟩=some (.slice ar nr cr)∧W.cell? ⟨w.heap.size,2,none⟩=some (.bool S.s0.opn)∧W.cell? ⟨w.heap.size,3,none⟩=some (.slice a1 n1 c1)∧W.cell? ⟨w.heap.size,4,none⟩=some (.slice a2 n2 c2)∧W.cell? ⟨w.heap.size,5,none⟩=some (.bool S.s1.opn)∧W.cell? ⟨w.heap.size,6,none⟩=some (.slice a3 n3 c3)∧W.cell? ⟨w.heap.size,7,none⟩=some (.slice a4 n4 c4)∧W.cell? ⟨w.heap.size,8,none⟩=some (.bool S.s2.opn)∧W.cell? ⟨w.heap.size,9,none⟩=some (.slice a5 n5 c5)∧W.cell? ⟨w.heap.size,10,none⟩=some (.slice a6 n6 c6)∧W.cell? ⟨w.heap.size,11,none⟩=some (.int .i64 S.lock)∧W.cell? ⟨w.heap.size,12,none⟩=some (.int .i64 S.clock)∧W.cell? ⟨w.heap.size,13,none⟩=some (.int .i64 S.dead)∧W.cell? ⟨w.heap.size,14,none⟩=some (.slice ab nb cb)):=fun W hb=>by
  have h:=HH0.out W hb;refine⟨?_, ?_, ?_, ?_, ?_, ?_, ?_, ?_, ?_, ?_, ?_, ?_, ?_, ?_, ?_⟩<;>rw[cell_of_row W _ _ _ _ (0,0) h]<;>rfl
 have HC:=Zhd (fun(W:World) (hb:Below wa.heap.size wa W)=>Zaga ar cr nr (rvc Q) W (hQd.below (Zaa hba hb)) g3 (by omega) (Zasq hQl))
 have hla:=Zatx hQr
 have HL:Hid (∀ W,Below wa.heap.size wa W→Calls prog 18 #[.agg #[.slice a0 n0 c0, .slice ar nr cr, .bool S.s0.opn, .slice a1 n1 c1, .slice a2 n2 c2, .bool S.s1.opn, .slice a3 n3 c3, .slice a4 n4 c4, .bool S.s2.opn, .slice a5 n5 c5, .slice a6 n6 c6, .int .i64 S.lock, .int .i64 S.clock, .int .i64 S.dead, .slice ab nb cb]] W fun e w'=>e= .returned (.int .i64 (Zav S))∧Below W.heap.size W w'):=fun W hb=>by
  refine Zaeb _ _ _ _ _ _ _ _ _ _ _ _ _ _ ar nr cr (Zav S) W ?_;rcases Ybn nr with hn0|hn0
  · refine .inl ⟨hn0, ?_⟩;rw[hla,show Q= []from Yar (by omega)];rfl
  · obtain⟨ad,e,hbl,hx⟩:=(hQd.below (Zaa hba hb)).2 hn0;have hg:=Zmj Q (nr-1) (by omega)
    have hcx:=hx _ _ hg.1;have hsp:ad.spot=none:=by
     have h00:=hx 0 _ (Zmj Q 0 (by omega)).1
     have h2:=World.cell?_spot h00;have h3:ad.add 0=ad:=by simp[Addr.add]
     rwa [h3]at h2
    obtain⟨b,o,sp⟩:=ad;obtain rfl:sp=none:=hsp;rw[Zag]at hcx;refine .inr ⟨b,o,e,hn0,by omega,hbl, ?_⟩
    rw[hcx,hla,Ydr,show Q.length-1=nr-1 by omega,Yaj (by omega)]
 have mixed:prog.follows .mixedOrders=true:=by kernel_rfl
 have HA:=Zhd (Yae wa.heap.size wa).drew;have hw1:IntKind.i64.wrap (Zav S+1)=Zav S+1:=by rw[IntKind.wrap_i64];omega
 have HT:=Zhd hT;have Hba:=Zhd hba;have hrl:=Zann Q;obtain⟨ls,hls⟩: ∃ ls,Zav S=ls:=⟨_,rfl⟩;rw[hls]at HL hw1;clear hh0 hh1 hla;go_enter func30,ntmps30;go_wp2_with fail;go_region_held3 (fun W=>W.cell? ⟨w.heap.size,0,none⟩=some (.slice a0 n0 c0)∧W.cell? ⟨w.heap.size,1,none⟩=some (.slice ar nr cr)∧W.cell? ⟨w.heap.size,2,none⟩=some (.bool S.s0.opn)∧W.cell? ⟨w.heap.size,3,none⟩=some (.slice a1 n1 c1)∧W.cell? ⟨w.heap.size,4,none⟩=some (.slice a2 n2 c2)∧W.cell? ⟨w.heap.size,5,none⟩=some (.bool S.s1.opn)∧W.cell? ⟨w.heap.size,6,none⟩=some (.slice a3 n3 c3)∧W.cell? ⟨w.heap.size,7,none⟩=some (.slice a4 n4 c4)∧W.cell? ⟨w.heap.size,8,none⟩=some (.bool S.s2.opn)∧W.cell? ⟨w.heap.size,9,none⟩=some (.slice a5 n5 c5)∧W.cell? ⟨w.heap.size,10,none⟩=some (.slice a6 n6 c6)∧W.cell? ⟨w.heap.size,11,none⟩=some (.int .i64 S.lock)∧W.cell? ⟨w.heap.size,12,none⟩=some (.int .i64 S.clock)∧W.cell? ⟨w.heap.size,13,none⟩=some (.int .i64 S.dead)∧W.cell? ⟨w.heap.size,14,none⟩=some (.slice ab nb cb)) (first|exact HK.out _ HB7.out|exact HK.out _ HB6a.out|exact HK.out _ HB6.out|exact HK.out _ HB5.out|exact HK.out _ HA.out) (first|(go_at_call 49;refine(HC.out _ HA.out).mono ?_;rintro e w5 ⟨⟨v5,rfl,ho5⟩,hb5⟩;have HB5:=Zhd (Zaa HA.out hb5);have HO5:=Zhd (ho5.mono HA.out.size);clear hb5 ho5)|(go_at_call 18;refine(HL.out _ HB5.out).mono ?_;rintro e w6 ⟨rfl,hb6⟩;have HB6:=Zhd (Zaa HB5.out hb6);have HO6:=Zhd (Zah HO5.out hb6);have HB6a:=Zhd (HB6.out.alloc HB6.out.size (.cells #[.int .i64 (ls+1), .slice At T.length ct] 69));clear hb6)|(refine Zko rfl _ _ 27 rfl wa.heap.size _ 69 i0 _ 2 32 underlying27 hii hz0 hz1 hz2 rfl (by decide) (by decide) (HO6.out.alloc _) HB6a.out.size (by rfl) (some ⟨w6.heap.size,0,none⟩) 1 1 [.int .i64 (ls+1), .slice At T.length ct] rfl (Zahs w6 69 (ls+1) (.slice At T.length ct)) (fun h=>by cases h) (by intro u hu;simp only[Yax,Yby,or_false]at hu;rcases hu with rfl|rfl<;>rfl) (by omega) ?_;intro v7 w7 hown7 hb7 hk7;have HB7:=Zhd (HB6a.out.trans hb7);have HO7:=Zhd hown7;clear hown7 hb7 hk7))
 obtain⟨q,cl,e7⟩:=Zck HO7.out;subst e7;have hcl:nr+1≤cl∧cl≤maxLen:=by
  obtain⟨A9,c9,e9,f1,f2,-⟩:=Zbe HO7.out;injection e9 with _ _ e10
  subst e10;exact⟨f1,f2⟩
 have hcm:=hcl.2;unfold maxLen at hcm;obtain⟨x0,x1,x2,x3,x4,x5,x6,x7,x8,x9,x10,x11,x12,x13,x14⟩:=HK.out _ HB7.out;have hr1:=HH1.out _ HB7.out;have hr0:=HH0.out _ HB7.out;have hf0: ∀ j,w7.frozen? ⟨w.heap.size,j,none⟩=false:=fun j=>frozen_of_row w7 _ j _ _ hr0
 have hf1: ∀ j,w7.frozen? ⟨wb.heap.size,j,none⟩=false:=fun j=>frozen_of_row w7 _ j _ _ hr1
 have hz: ∀ j,w7.cell? ⟨wb.heap.size,j,none⟩=(#[.slice none 0 0, .slice none 0 0, .bool false, .slice none 0 0, .slice none 0 0, .bool false, .slice none 0 0, .slice none 0 0, .bool false, .slice none 0 0, .slice none 0 0, .int .i64 0, .int .i64 0, .int .i64 0, .slice none 0 0]:Array Value)[j]?:=fun j=>cell_of_row w7 _ j _ _ (0,0) hr1
 have y0:=hz 0;have y1:=hz 1;have y2:=hz 2;have y3:=hz 3;have y4:=hz 4;have y5:=hz 5;have y6:=hz 6;have y7:=hz 7;have y8:=hz 8;have y9:=hz 9;have y10:=hz 10;have y11:=hz 11;have y12:=hz 12;have y13:=hz 13;have y14:=hz 14;have hne:w.heap.size≠wb.heap.size:=by omega
 have hne':wb.heap.size≠w.heap.size:=by omega
 have hqa:wa.heap.size≤q:=(HO7.out.lt q rfl).1;have hqw:w.heap.size≤q:=by omega
 have hq0:(Value.slice (some ⟨q,0,none⟩) (nr+1) cl).ownBlock≠some w.heap.size:=fun h=>by
  injection h with h
  have:q=w.heap.size:=h;omega
 have hq1:(Value.slice (some ⟨q,0,none⟩) (nr+1) cl).ownBlock≠some wb.heap.size:=fun h=>by
  injection h with h
  have:q=wb.heap.size:=h;omega
 have HB7w:=Zhd (Zaa hba HB7.out);have hwb0:w.heap.size≤wb.heap.size:=by omega
 have HFin:Hid (∀ W,Below w.heap.size w W→W.ownsRow wa.heap.size 69 2 (.slice (some ⟨q,0,none⟩) (nr+1) cl) (nr+1) (rvc Q++ [.int .i64 (ls+1), .slice At T.length ct])→ ∀ Aq nq cq,(nr<5∧Aq=some ⟨q,0,none⟩∧nq=nr+1∧cq=cl∨nr=5∧Aq=some ⟨q,2,none⟩∧nq=5∧cq=cl-1)→RvR W Aq nq cq (Zdn S T).revs):=fun W hb ho Aq nq cq hc=>by
  have hty:=Zamk ho;have hrd:Rd W 2 (some ⟨q,0,none⟩) (nr+1) (rvc (Q++ [(ls+1, .slice At T.length ct,T)])):=by rw[Zawl,Zawm];exact(Zor ho).1
  have hmp:(Q++ [((ls+1, .slice At T.length ct,T):RV)]).map (fun q=>(q.1,q.2.2))=S.revs++ [(Zav S+1,T)]:=by rw[Ybu,hQr,hls];rfl
  have hel: ∀ x∈Q++ [((ls+1, .slice At T.length ct,T):RV)],Lr W x.2.1 x.2.2:=fun x hx=>by
   rcases Ybl.1 hx with hx|hx
   · exact(hQl x hx).below hb
   · rw[Ybt]at hx;rw[hx];exact HT.out.below hb
  have hrl2:S.revs.length=nr:=by rw[←hQr,Yaz,hQn]
  rcases hc with⟨f1,rfl,rfl,rfl⟩|⟨f1,rfl,rfl,rfl⟩
  · refine⟨hcl.1,hcl.2,(fun h=>by cases h),_,by rw[Yak,hQn];rfl, ?_,hrd,hel,fun a e _=>by cases e;exact(let ⟨x,hx⟩:=hty;⟨x,_,hx,rfl⟩)⟩
    rw[hmp];show _=(S.revs++ [(Zav S+1,T)]).drop (S.revs.length+1-5);rw[hrl2,show nr+1-5=0 by omega,Yeh]
  · have hln:(Q++ [((ls+1, .slice At T.length ct,T):RV)]).length=5+1:=by rw[Yak,hQn,f1];rfl
    rw[f1]at hrd;refine⟨by omega,by have:=hcl.2;omega,(fun h=>by cases h),(Q++ [((ls+1, .slice At T.length ct,T):RV)]).drop 1,by rw[Yam,hln], ?_,Zasr hln hrd,fun x hx=>hel x (Yey hx),fun a e _=>by cases e;exact(let ⟨x,hx⟩:=hty;⟨x,_,hx,rfl⟩)⟩
    rw[List.map_drop,hmp];show _=(S.revs++ [(Zav S+1,T)]).drop (S.revs.length+1-5);rw[hrl2,f1]
 clear hz hr0 hr1 HH0 HH1 HK HC HL HO5 HB5 HB6 HB6a HO6 hs1 hs2 HA;by_cases hn5:nr=5
 · subst hn5;have hq5:(cl:Int)-1=((cl-1:Nat):Int):=by omega
   have hc1: ¬ (cl=1):=by omega
   have hc1': ¬ (1=cl):=by omega
   have hcI:(6:Int)≤(cl:Int):=by omega
   have hmx:max (1:Int) 0=1:=rfl;go_wp2_with fail;refine bodyPost_ret (v:= .agg #[.slice At T.length ct, .slice (some ⟨q,2,none⟩) (5) (cl-1), .bool S.s0.opn, .slice a1 n1 c1, .slice a2 n2 c2, .bool S.s1.opn, .slice a3 n3 c3, .slice a4 n4 c4, .bool S.s2.opn, .slice a5 n5 c5, .slice a6 n6 c6, .int .i64 S.lock, .int .i64 S.clock, .int .i64 S.dead, .slice ab nb cb]) (by simp[results,results30,go_sem, *]) rfl ?_
   refine⟨⟨_,_,_,_,rfl,hqw,HFin.out _ ?_ ?_ _ _ _ (.inr ⟨by first|rfl|trivial,by first|rfl|trivial,by first|rfl|trivial,by first|rfl|trivial⟩)⟩, ?_⟩
   · repeat (first|with_reducible exact HB7w.out|with_reducible refine Below.setCell (p:=⟨_,_,none⟩) ?_ (by first|with_reducible exact Yag _|with_reducible exact hwb0) _)
   · repeat (first|with_reducible exact HO7.out|refine ownsRow_setCell_other (a:=⟨_,_,none⟩) ?_ (by first|exact hq0|exact hq1) _)
   · repeat (first|with_reducible exact HB7w.out|with_reducible refine Below.setCell (p:=⟨_,_,none⟩) ?_ (by first|with_reducible exact Yag _|with_reducible exact hwb0) _)
 · have hmx:max ((nr:Int)+1-5) 0=0:=Int.max_eq_right (by omega)
   go_wp2_with fail;refine bodyPost_ret (v:= .agg #[.slice At T.length ct, .slice (some ⟨q,0,none⟩) (nr+1) (cl), .bool S.s0.opn, .slice a1 n1 c1, .slice a2 n2 c2, .bool S.s1.opn, .slice a3 n3 c3, .slice a4 n4 c4, .bool S.s2.opn, .slice a5 n5 c5, .slice a6 n6 c6, .int .i64 S.lock, .int .i64 S.clock, .int .i64 S.dead, .slice ab nb cb]) (by simp[results,results30,go_sem, *]) rfl ?_
   refine⟨⟨_,_,_,_,rfl,hqw,HFin.out _ ?_ ?_ _ _ _ (.inl ⟨by omega,rfl,rfl,rfl⟩)⟩, ?_⟩
   · repeat (first|with_reducible exact HB7w.out|with_reducible refine Below.setCell (p:=⟨_,_,none⟩) ?_ (by first|with_reducible exact Yag _|with_reducible exact hwb0) _)
   · repeat (first|with_reducible exact HO7.out|refine ownsRow_setCell_other (a:=⟨_,_,none⟩) ?_ (by first|exact hq0|exact hq1) _)
   · repeat (first|with_reducible exact HB7w.out|with_reducible refine Below.setCell (p:=⟨_,_,none⟩) ?_ (by first|with_reducible exact Yag _|with_reducible exact hwb0) _)
end Go.Proofs.Zq
namespace Edt
open Go Go.Lib Tre Sch Lns
def Zay (B M R:List Line):List Line×Int×Int:=
 if(Zcg B M R).2.2≠0 then([],(Zcg B M R).2.2,((Zcg B M R).2.1:Int))
 else if(Zdd (Zcg B M R).1).2≠0 then([],(Zdd (Zcg B M R).1).2,0)
 else if Zab (Zdd (Zcg B M R).1).1=false then([],1,0)
 else if 0<(Zjf (Zdd (Zcg B M R).1).1).length then([],7,((Zjf (Zdd (Zcg B M R).1).1).length:Int))
 else((Zcg B M R).1,0,0)
section
variable {B M R T X:List Line} {n:Nat} {er e2:Int}
theorem Zayt (h:Zcg B M R=(T,n,er)) (h1:er≠0):Zay B M R=([],er,(n:Int)):=by
 unfold Zay;rw[h,Yan h1]
theorem Zayu (h:Zcg B M R=(T,n,0)) (h2:Zdd T=(X,e2)) (h3:e2≠0):Zay B M R=([],e2,0):=by
 unfold Zay;rw[h,Yad (by simp),h2,Yan h3]
theorem Zayv (h:Zcg B M R=(T,n,0)) (h2:Zdd T=(X,0)) (h3:Zab X=false):Zay B M R=([],1,0):=by
 unfold Zay;rw[h,Yad (by simp),h2,Yad (by simp),Yan h3]
theorem Zayw (h:Zcg B M R=(T,n,0)) (h2:Zdd T=(X,0)) (h3:Zab X=true) (h4:0<(Zjf X).length):Zay B M R=([],7,((Zjf X).length:Int)):=by
 unfold Zay;rw[h,Yad (by simp),h2,Yad (by simp),Yad (by rw[h3];simp),Yan h4]
theorem Zayx (h:Zcg B M R=(T,n,0)) (h2:Zdd T=(X,0)) (h3:Zab X=true) (h4: ¬ 0<(Zjf X).length):Zay B M R=(T,0,0):=by
 unfold Zay;rw[h,Yad (by simp),h2,Yad (by simp),Yad (by rw[h3];simp),Yad h4]
end
end Edt
namespace Go.Proofs.Zq
open Tryz
open Go Go.RowKit Go.Sort Tre Lx Prs Lns Edt Sch
def Zds (z:List Line×Int×Int) (w:World) (e:Ending) (w':World):Prop:=
 (∃ v,e= .returned (.tuple #[v, .agg #[.int .i64 z.2.1, .int .i64 z.2.2]])∧Lr w' v z.1)∧Below w.heap.size w w'
theorem Zoe {w:World} {b j:Nat} {u:Value} (h:w.cell? ⟨b,j,none⟩=some u) (p:Addr) (x:Value) (hp:w.cell? p=some x):(w.setCell ⟨b,j,none⟩ u).cell? p=some x:=by
 by_cases e:p=⟨b,j,none⟩
 · subst e;rw[World.cell?_setCell_same _ _ _ h];rw[h]at hp;exact hp
 · rw[World.cell?_setCell_other _ _ _ _ (fun h=>e h.symm)];exact hp
theorem Zafw {w:World} {b:Nat} {u0 u1:Value} (h0:w.cell? ⟨b,0,none⟩=some u0) (h1:w.cell? ⟨b,1,none⟩=some u1) {p:Addr} {x:Value} (hp:w.cell? p=some x):((w.setCell ⟨b,0,none⟩ u0).setCell ⟨b,1,none⟩ u1).cell? p=some x:=
 Zoe (Zoe h0 _ _ h1) p x (Zoe h0 p x hp)
theorem Zawi {w w':World} {k n:Nat} {A:Option Addr} {xs:List Value} (h:Rd w k A n xs) (hs:w.heap.size≤w'.heap.size) (hc: ∀ (p:Addr) (u:Value),w.cell? p=some u→w'.cell? p=some u):Rd w' k A n xs:=
 ⟨h.1,fun hn=>by
  obtain⟨ad,e,hb,hx⟩:=h.2 hn;exact⟨ad,e,Ybp hb hs,fun j u hu=>hc _ _ (hx j u hu)⟩⟩
def Bl (w:World) (b:Nat) (C:Array Value) (T:TypeId):Prop:=w.heap[b]?=some (.cells C T (0,0))
theorem Bl.lt {w:World} {b:Nat} {C:Array Value} {T:TypeId} (h:Bl w b C T):b<w.heap.size:=(Ybc.1 h).1
theorem Bl.below {w w':World} {b:Nat} {C:Array Value} {T:TypeId} (h:Bl w b C T) (hb:Below w.heap.size w w'):Bl w' b C T:=(hb.block b h.lt).trans h
theorem Bl.cell {w:World} {b:Nat} {C:Array Value} {T:TypeId} (h:Bl w b C T) (j:Nat):w.cell? ⟨b,j,none⟩=C[j]?:=cell_of_row w b j C T (0,0) h
theorem Bl.froz {w:World} {b:Nat} {C:Array Value} {T:TypeId} (h:Bl w b C T) (j:Nat):w.frozen? ⟨b,j,none⟩=false:=frozen_of_row w b j C T h
theorem Bl.new (w:World) (C:Array Value) (T:TypeId):Bl (w.alloc (.cells C T)) w.heap.size C T:=heap_alloc_new _ _
theorem Bl.alloc {w:World} {b:Nat} {C:Array Value} {T:TypeId} (h:Bl w b C T) (o:Obj):Bl (w.alloc o) b C T:=(heap_alloc_old (r:=b) w _ h.lt).trans h
theorem Bl.drew {w:World} {b:Nat} {C:Array Value} {T:TypeId} (h:Bl w b C T):Bl w.drew b C T:=h
theorem Bl.set {w:World} {b:Nat} {C:Array Value} {T:TypeId} (h:Bl w b C T) (j:Nat) (v:Value):Bl (w.setCell ⟨b,j,none⟩ v) b (C.setIfInBounds j v) T:=heap_setCell_same w b j C T v h
theorem Bl.other {w:World} {b:Nat} {C:Array Value} {T:TypeId} (h:Bl w b C T) {b' j:Nat} (hne:b≠b') (v:Value):Bl (w.setCell ⟨b',j,none⟩ v) b C T:=(heap_setCell_other w ⟨b',j,none⟩ b v hne).trans h
theorem Bl.others {w:World} {b:Nat} {C:Array Value} {T:TypeId} (h:Bl w b C T) {b' o:Nat} (hne:b≠b') (vs:List Value):Bl (w.setCells b' o vs) b C T:=(Zdy b' b (fun e=>hne e.symm) vs o w).trans h
theorem Zatn: ∀ (vs:List Value) (o:Nat) (w:World) (b:Nat) (C:Array Value) (T:TypeId),Bl w b C T→ ∃ C',Bl (w.setCells b o vs) b C' T∧C'.size=C.size∧ ∀ j,C'[j]?=if o≤j∧j<o+vs.length∧j<C.size then vs[j-o]? else C[j]?
 | [],o,w,b,C,T,h=>⟨C,h,rfl,fun j=>by rw[Yad];simp;omega⟩
 | v ::r,o,w,b,C,T,h=>by
   obtain⟨C',h1,h2,h3⟩:=Zatn r (o+1) _ b _ T (h.set o v);rw[World.setCells];refine⟨C',h1,by rw[h2];simp,fun j=> ?_⟩
   rw[h3,Array.size_setIfInBounds];by_cases hj:j=o
   · subst hj;rw[Yad (by omega)]
     by_cases hs:j<C.size
     · rw[Yan ⟨Yag _,by simp,hs⟩]
       simp[hs]
     · rw[Yad (by omega)]
       simp[hs]
   · by_cases h4:o+1≤j∧j<o+1+r.length∧j<C.size
     · rw[Yan h4,Yan ⟨by omega,by simp;omega,h4.2.2⟩]
       obtain⟨m,hm⟩: ∃ m,j-o=m+1:=⟨j-o-1,by omega⟩
       rw[hm,show j-(o+1)=m by omega];rfl
     · rw[Yad h4,Yad (by simp;omega)]
       simp[Ne.symm hj]
theorem Bl.sets {w:World} {b:Nat} {C D:Array Value} {T:TypeId} (h:Bl w b C T) (hs:D.size=C.size):Bl (w.setCells b 0 D.toList) b D T:=by
 obtain⟨C',h1,h2,h3⟩:=Zatn D.toList 0 w b C T h;have:C'=D:=by
  refine Array.ext (by omega) fun j hj1 hj2=> ?_
  have:=h3 j;rw[Yan ⟨Yao _,by simp;omega,by omega⟩,Array.getElem?_eq_getElem hj1]at this
  simpa[hj2]using this
 rw[←this];exact this▸h1
theorem Zai:(prog.info? 32).map (·.size)=some 15:=by kernel_rfl
theorem Bl.range {w:World} {b:Nat} {C:Array Value} {T:TypeId} (h:Bl w b C T):w.rangeAt b 0 C.toList:=fun j v hv=>by
 rw[Ybj,h.cell,←Array.getElem?_toList];exact hv
theorem Bl.there {w:World} {b:Nat} {C:Array Value} {T:TypeId} (h:Bl w b C T) {n:Nat} (hn:n≤C.size):w.there b 0 n:=fun j hj=>by
 rw[Ybj];exact⟨by rw[h.cell,Array.getElem?_eq_getElem (by omega)];rfl,h.froz j⟩
theorem ldPl {w:World} {b:Nat} {C:Array Value} (h:Bl w b C 32) (hs:C.size=15):(Instr.loadAt 32 (.pointer (some ⟨b,0,none⟩))).run prog w= .ok (.agg C) w:=by
 have:=run_loadAt_mid (P:=prog) w b 0 32 C.toList _ h.range underlying32 rfl (by rw[Yav,hs];exact Zai)
 simpa using this
theorem lvPl {w:World} {b:Nat} {C:Array Value} (h:Bl w b C 32) (hs:C.size=15):(loadVar 32 ⟨b,0,none⟩).run prog w= .ok (.agg C) w:=by
 have:=run_loadVar_mid (P:=prog) w b 0 32 C.toList _ h.range underlying32 rfl (by rw[Yav,hs];exact Zai)
 simpa using this
def Off (p:Nat) (w W:World):Prop:=w.heap.size≤W.heap.size∧ ∀ b,b≠p→b<w.heap.size→W.heap[b]?=w.heap[b]?
theorem Off.refl (p:Nat) (w:World):Off p w w:=⟨Yag _,fun _ _ _=>rfl⟩
theorem Off.trans {p:Nat} {a b c:World} (h:Off p a b) (k:Off p b c):Off p a c:=⟨Yas h.1 k.1,fun i hi hl=>(k.2 i hi (Ybp hl h.1)).trans (h.2 i hi hl)⟩
theorem Off.below {p:Nat} {a b:World} (h:Below a.heap.size a b):Off p a b:=⟨h.size,fun i _ hl=>h.block i hl⟩
theorem Off.setCell {p:Nat} {a b:World} (h:Off p a b) (o:Nat) (v:Value):Off p a (b.setCell ⟨p,o,none⟩ v):=h.trans ⟨by simp,fun i hi _=>Below.heap_setCell b ⟨p,o,none⟩ v i hi⟩
theorem Off.setCells {p:Nat} {a:World}: ∀ (vs:List Value) (o:Nat) {b:World},Off p a b→Off p a (b.setCells p o vs)
 | [],_,_,h=>h
 |v::r,o,_,h=>Off.setCells r (o+1) (h.setCell o v)
theorem Off.cell {p:Nat} {w W:World} (h:Off p w W) {a:Addr} (hb:a.block≠p) (hl:a.block<w.heap.size):W.cell? a=w.cell? a:=World.cell?_of_block (w:=w) (h.2 a.block hb hl)
theorem Lr.off {p:Nat} {w W:World} {v:Value} {M:List Line} {C:Array Value} {T:TypeId} (h:Lr w v M) (hp:Bl w p C T) (hC:C.toList.all (fun u=>match u with| .string _=>false|_=>true)=true) (ho:Off p w W):Lr W v M:=by
 obtain⟨A,c,h1,h2,h3,h4,h5⟩:=h;refine⟨A,c,h1,h2,h3,⟨h4.1,fun hn=> ?_⟩,h5⟩
 obtain⟨ad,e,hb,hx⟩:=h4.2 hn
 have hne:ad.block≠p:=fun h0=>by
  cases M with
  |nil=>simp at hn
  | cons m r=>
    have h2:=hx 1 (.string m.word) rfl;have h3:=World.cell?_spot (hx 0 (.int .i64 m.depth) rfl);rw[show ad.add 0=ad by simp[Addr.add]]at h3
    obtain⟨b,o,sp⟩:=ad;obtain rfl:sp=none:=h3;obtain rfl:b=p:=h0;rw[Zag,hp.cell]at h2;obtain⟨hj,h4⟩:=Ybc.1 h2;have h6:=Ybq.1 hC _ (h4▸Array.getElem_mem_toList hj);cases h6
 exact⟨ad,e,Ybp hb ho.1,fun j u hu=>(ho.cell (by rw[Zge];exact hne) (by rw[Zge];exact hb)).trans (hx j u hu)⟩
theorem RvR.off {p:Nat} {w W:World} {A:Option Addr} {n c:Nat} {R:List (Int×List Line)} {C:Array Value} {T:TypeId} (h:RvR w A n c R) (hp:Bl w p C T) (hT:RevB T=false) (hC:C.toList.all (fun u=>match u with| .string _=>false|_=>true)=true) (ho:Off p w W):RvR W A n c R:=by
 obtain⟨h1,h2,h3,Q,h4,h5,h6,h7,h8⟩:=h
 have hne: ∀ a,A=some a→0<n→a.block≠p:=fun a e hn h0=>by
  obtain⟨x,T',hx,hT'⟩:=h8 a e hn;rw[h0,hp]at hx;injection hx with hx
  injection hx with _ hx
  rw[←hx,hT]at hT';cases hT'
 refine⟨h1,h2,h3,Q,h4,h5,⟨h6.1,fun hn=> ?_⟩,fun q hq=>(h7 q hq).off hp hC ho,fun a e hn=> ?_⟩
 · obtain⟨ad,e,hb,hx⟩:=h6.2 hn;exact⟨ad,e,Ybp hb ho.1,fun j u hu=>(ho.cell (by rw[Zge];exact hne _ e hn) (by rw[Zge];exact hb)).trans (hx j u hu)⟩
 · obtain⟨x,T',hx,hT'⟩:=h8 a e hn;exact⟨x,T',(ho.2 _ (hne a e hn) (Ybc.1 hx).1).trans hx,hT'⟩
theorem RvR.lt {w:World} {A:Option Addr} {n c:Nat} {R:List (Int×List Line)} (h:RvR w A n c R) {a:Addr} (e:A=some a) (hn:0<n):a.block<w.heap.size:=by
 obtain⟨-,-,-,Q,-,-,h6,-⟩:=h;obtain⟨ad,e2,hb,-⟩:=h6.2 hn;rw[e]at e2;injection e2 with e2
 rw[e2];exact hb
theorem Zhj {ops:Array Oper} {o:Oper} {a:Act} {K:Act→World→Prop} {Q:Exit→Act→World→Prop} {E:Prop} {W:World} {C D:Array Value} (T:TypeId) (hgd:o.guard=none) (x y:Operand) (ho:o.op= .store T x y)
 (b:Nat) (hB:Bl W b C T) (hs:C.size=D.size) (hx:a.eval x= .pointer (some ⟨b,0,none⟩)) (hy:a.eval y= .agg D) (hi:(prog.info? T).map (·.size)=some D.size) (h1:D.toList.all (·.oneCell')=true)
 (h: ∀ W',W.setCells b 0 D.toList=W'→K (a.put o.dst undef) W'):
 if Region.wanted o (yielded ops a.tmps)=true then Oper.wp prog o a W K Q else E:=by
 rw[Yan (by simp[Region.wanted,hgd])]
 exact wp_store_mid T x y ho b 0 D hx hy (hB.there (by omega)) hi (Ybd.2 fun v hv=>Ybq.1 h1 v (by simpa using hv)) (h _ rfl)
end Go.Proofs.Zq
namespace Edt
open Go Go.Lib Tre Sch Lns
def Zpm (S:Ps) (n:Int):Ps:={S with clock:=S.clock+n,dead:=0,back:= []}
def Zey (S:Ps) (n:Int):Ps×Int×Int:=
 if n<0∨2147483647-S.clock<n then(S,1,0)
 else if S.dead=0∨S.clock+n<S.dead then({S with clock:=S.clock+n},0,0)
 else(Zdn (Zpm S n) S.back,0,Zav (Zdn (Zpm S n) S.back))
theorem Zaud {S:Ps} {n:Int} (h:n<0∨2147483647-S.clock<n):Zey S n=(S,1,0):=by unfold Zey;rw[Yan h]
theorem Zafd {S:Ps} {n:Int} (h: ¬ (n<0∨2147483647-S.clock<n)) (h2:S.dead=0∨S.clock+n<S.dead):Zey S n=({S with clock:=S.clock+n},0,0):=by unfold Zey;rw[Yad h,Yan h2]
theorem Zaoi {S:Ps} {n:Int} (h: ¬ (n<0∨2147483647-S.clock<n)) (h2: ¬ (S.dead=0∨S.clock+n<S.dead)):Zey S n=(Zdn (Zpm S n) S.back,0,Zav (Zdn (Zpm S n) S.back)):=by unfold Zey;rw[Yad h,Yad h2]
end Edt
namespace Go.Proofs.Zq
open Tryz
open Go Go.RowKit Go.Sort Tre Lx Prs Lns Edt Sch
def Zdk (z:Ps×Int×Int) (w:World) (e:Ending) (w':World):Prop:=
 (∃ v,e= .returned (.tuple #[v, .agg #[.int .i64 z.2.1, .int .i64 z.2.2]])∧PlR w' v z.1)∧Below w.heap.size w w'
def PlG (w:World) (S:Ps) (a0 ar a1 a2 a3 a4 a5 a6 ab:Option Addr) (n0 nr n1 n2 n3 n4 n5 n6 nb c0 cr c1 c2 c3 c4 c5 c6 cb:Nat):Prop:=
 Lr w (.slice a0 n0 c0) S.run∧RvR w ar nr cr S.revs∧Lr w (.slice a1 n1 c1) S.s0.base∧Lr w (.slice a2 n2 c2) S.s0.mine∧Lr w (.slice a3 n3 c3) S.s1.base∧Lr w (.slice a4 n4 c4) S.s1.mine∧Lr w (.slice a5 n5 c5) S.s2.base∧Lr w (.slice a6 n6 c6) S.s2.mine∧Lr w (.slice ab nb cb) S.back
section
variable {w w':World} {S:Ps} {a0 ar a1 a2 a3 a4 a5 a6 ab:Option Addr} {n0 nr n1 n2 n3 n4 n5 n6 nb c0 cr c1 c2 c3 c4 c5 c6 cb:Nat}
theorem PlG.below (h:PlG w S a0 ar a1 a2 a3 a4 a5 a6 ab n0 nr n1 n2 n3 n4 n5 n6 nb c0 cr c1 c2 c3 c4 c5 c6 cb) (hb:Below w.heap.size w w'):PlG w' S a0 ar a1 a2 a3 a4 a5 a6 ab n0 nr n1 n2 n3 n4 n5 n6 nb c0 cr c1 c2 c3 c4 c5 c6 cb:=
 ⟨h.1.below hb,h.2.1.below hb,h.2.2.1.below hb,h.2.2.2.1.below hb,h.2.2.2.2.1.below hb,h.2.2.2.2.2.1.below hb,h.2.2.2.2.2.2.1.below hb,h.2.2.2.2.2.2.2.1.below hb,h.2.2.2.2.2.2.2.2.below hb⟩
end
theorem Zbv:(prog.info? 39).map (·.size)=some 2:=by kernel_rfl
theorem Zavp {v:Value} {S:Ps} {w:World} (hP:PlR w v S) (h5:S.revs.length≤5):Calls prog 18 #[v] w fun e w'=>e= .returned (.int .i64 (Zav S))∧Below w.heap.size w w':=by
 obtain⟨a0,ar,a1,a2,a3,a4,a5,a6,ab,n0,nr,n1,n2,n3,n4,n5,n6,nb,c0,cr,c1,c2,c3,c4,c5,c6,cb,e,-,hr,-⟩:=hP;subst e;obtain⟨-,-,-,Q,hQn,hQr,hQd,-⟩:=hr;have hla:=Zatx hQr;have hnr:nr≤5:=by
  rw[←hQr,Yaz]at h5;omega
 refine Zaeb _ _ _ _ _ _ _ _ _ _ _ _ _ _ ar nr cr (Zav S) w ?_;rcases Ybn nr with hn0|hn0
 · refine .inl ⟨hn0, ?_⟩;rw[hla,show Q= []from Yar (by omega)];rfl
 · obtain⟨ad,e,hbl,hx⟩:=hQd.2 hn0;have hg:=Zmj Q (nr-1) (by omega)
   have hcx:=hx _ _ hg.1;have hsp:ad.spot=none:=by
    have h00:=hx 0 _ (Zmj Q 0 (by omega)).1
    have h2:=World.cell?_spot h00;have h3:ad.add 0=ad:=by simp[Addr.add]
    rwa [h3]at h2
   obtain⟨b,o,sp⟩:=ad;obtain rfl:sp=none:=hsp;rw[Zag]at hcx;refine .inr ⟨b,o,e,hn0,by omega,hbl, ?_⟩
   rw[hcx,hla,Ydr,show Q.length-1=nr-1 by omega,Yaj (by omega)]
end Go.Proofs.Zq
