import Derived.Deep.MidRow
import Derived.Test.YtkbojechhmmkcaaGreatDoorK26
set_option linter.unusedVariables false
set_option linter.unusedSimpArgs false
set_option maxHeartbeats 2000000
set_option maxRecDepth 100000
namespace Edt
open Go Go.Lib Tre Sch Lns
structure Ss where
 opn:Bool
 base:List Line
 mine:List Line
structure Ps where
 run:List Line
 revs:List (Int×List Line)
 s0:Ss
 s1:Ss
 s2:Ss
 lock:Int
 clock:Int
 dead:Int
 back:List Line
def Zbl (S:Ps):Int:=match S.revs.getLast? with|some r=>r.1|none=>0
def Zej (S:Ps) (T:List Line):Ps:={S with revs:=(S.revs++ [(Zbl S+1,T)]).drop (S.revs.length+1-5),run:=T}
end Edt
namespace Go.Proofs.Zq
open Tryz
open Go Go.RowKit Go.Sort Tre Lx Prs Lns Edt Sch
abbrev RV:=Int×Value×List Line
def rvc (Q:List RV):List Value:=Q.flatMap fun q=> [.int .i64 q.1,q.2.1]
theorem Zarw (Q:List RV):(rvc Q).length=Q.length*2:=by
 unfold rvc
 induction Q with
 |nil=>rfl
 |cons q r ih=>rw[Ybl,Yae,ih];simp;omega
theorem Zbdn (Q R:List RV):rvc (Q++R)=rvc Q++rvc R:=by unfold rvc;rw[Ycf]
theorem Zoc: ∀ (Q:List RV) (i:Nat) (h:i<Q.length),(rvc Q)[i*2]?=some (.int .i64 Q[i].1)∧(rvc Q)[i*2+1]?=some Q[i].2.1
 |q::r,0,_=>⟨rfl,rfl⟩
 | q::r,i+1,h=>by
   have:=Zoc r i (by simpa using h)
   have e: ∀ j,(rvc (q::r))[j+2]?=(rvc r)[j]?:=fun j=>rfl
   rw[show(i+1)*2=i*2+2 by omega,show i*2+2+1=(i*2+1)+2 by omega,e,e]
   exact this
def RevB (T:TypeId):Bool:=T==69
def RvR (w:World) (A:Option Addr) (n c:Nat) (R:List (Int×List Line)):Prop:=
 n≤c∧c≤maxLen∧(A=none→c=0)∧ ∃ Q:List RV,Q.length=n∧Q.map (fun q=>(q.1,q.2.2))=R∧Rd w 2 A n (rvc Q)∧(∀ q∈Q,Lr w q.2.1 q.2.2)∧ ∀ a,A=some a→0<n→ ∃ x T,w.heap[a.block]?=some (.cells x T (0,0))∧RevB T=true
theorem RvR.below {w w':World} {A:Option Addr} {n c:Nat} {R:List (Int×List Line)} (h:RvR w A n c R) (hb:Below w.heap.size w w'):RvR w' A n c R:=by
 obtain⟨h1,h2,h3,Q,h4,h5,h6,h7,h8⟩:=h;exact⟨h1,h2,h3,Q,h4,h5,h6.below hb,fun q hq=>(h7 q hq).below hb,fun a e hn=>(let ⟨x,T,hx,hT⟩:=h8 a e hn;⟨x,T,(hb.block _ (Ybf.1 hx).1).trans hx,hT⟩)⟩
theorem Zaqp {w:World} {base k q n m cap:Nat} {e:TypeId} {xs:List Value} (h:w.ownsRow base e k (.slice (some ⟨q,0,none⟩) n cap) m xs): ∃ x,w.heap[q]?=some (.cells x e (0,0)):=by
 rcases h.2 with⟨h1,-⟩|⟨q2,cap2,cur,h1,-,hh,-⟩
 · cases h1
 · injection h1 with h1
   injection h1 with h1
   injection h1 with h1
   exact⟨cur,by rw[h1];exact hh⟩
def plv (a0 ar a1 a2 a3 a4 a5 a6 ab:Option Addr) (n0 nr n1 n2 n3 n4 n5 n6 nb c0 cr c1 c2 c3 c4 c5 c6 cb:Nat) (o0 o1 o2:Bool) (lk ck dd:Int):Array Value:=
 #[.slice a0 n0 c0, .slice ar nr cr, .bool o0, .slice a1 n1 c1, .slice a2 n2 c2, .bool o1, .slice a3 n3 c3, .slice a4 n4 c4, .bool o2, .slice a5 n5 c5, .slice a6 n6 c6, .int .i64 lk, .int .i64 ck, .int .i64 dd, .slice ab nb cb]
def PlR (w:World) (v:Value) (S:Ps):Prop:=
 ∃ a0 ar a1 a2 a3 a4 a5 a6 ab n0 nr n1 n2 n3 n4 n5 n6 nb c0 cr c1 c2 c3 c4 c5 c6 cb,v= .agg (plv a0 ar a1 a2 a3 a4 a5 a6 ab n0 nr n1 n2 n3 n4 n5 n6 nb c0 cr c1 c2 c3 c4 c5 c6 cb S.s0.opn S.s1.opn S.s2.opn S.lock S.clock S.dead)∧
   Lr w (.slice a0 n0 c0) S.run∧RvR w ar nr cr S.revs∧Lr w (.slice a1 n1 c1) S.s0.base∧Lr w (.slice a2 n2 c2) S.s0.mine∧Lr w (.slice a3 n3 c3) S.s1.base∧Lr w (.slice a4 n4 c4) S.s1.mine∧Lr w (.slice a5 n5 c5) S.s2.base∧Lr w (.slice a6 n6 c6) S.s2.mine∧Lr w (.slice ab nb cb) S.back
theorem PlR.below {w w':World} {v:Value} {S:Ps} (h:PlR w v S) (hb:Below w.heap.size w w'):PlR w' v S:=by
 obtain⟨a0,ar,a1,a2,a3,a4,a5,a6,ab,n0,nr,n1,n2,n3,n4,n5,n6,nb,c0,cr,c1,c2,c3,c4,c5,c6,cb,e,h0,hr,h1,h2,h3,h4,h5,h6,h7⟩:=h;exact⟨a0,ar,a1,a2,a3,a4,a5,a6,ab,n0,nr,n1,n2,n3,n4,n5,n6,nb,c0,cr,c1,c2,c3,c4,c5,c6,cb,e,h0.below hb,hr.below hb,h1.below hb,h2.below hb,h3.below hb,h4.below hb,h5.below hb,h6.below hb,h7.below hb⟩
theorem Zall (w:World) (T:TypeId) (n:Int) (v:Value):Rd (w.alloc (.cells #[.int .i64 n,v] T)) 2 (some ⟨w.heap.size,0,none⟩) 1 [.int .i64 n,v]:=by
 refine⟨rfl,fun _=>⟨_,rfl,by simp,fun j u hu=> ?_⟩⟩
 rw[Zag,Ybi,World.cell?_alloc_at _ _ _ _ rfl,Ycw];exact hu
theorem Zazb {Q:List RV} {w:World} (h: ∀ q∈Q,Lr w q.2.1 q.2.2): ∀ u∈rvc Q,u.oneCell'=true:=by
 intro u hu;unfold rvc at hu;obtain⟨q,hq,hu⟩:=Ydk.1 hu;obtain⟨A,c,e,-⟩:=h q hq;simp only[Yav,Ybq,or_false]at hu;rcases hu with rfl|rfl
 · rfl
 · rw[e];rfl
theorem Zbdo (q:RV):rvc [q]= [.int .i64 q.1,q.2.1]:=rfl
theorem Zazc {w:World} {q n:Nat} {Q:List RV} (hn:Q.length=n+1) (h:Rd w 2 (some ⟨q,0,none⟩) (n+1) (rvc Q)):Rd w 2 (some ⟨q,2,none⟩) n (rvc (Q.drop 1)):=by
 refine⟨by rw[Zarw,Yan,hn,Yez],fun _=> ?_⟩
 obtain⟨ad,e,hb,hx⟩:=h.2 (by omega)
 cases e;refine⟨_,rfl,hb,fun j u hu=> ?_⟩
 cases Q with
 |nil=>simp at hn
 | cons a r=>
   have:(rvc (a::r))[j+2]?=some u:=hu;have h2:=hx (j+2) u this;rw[Zag]at h2⊢;rw[show 2+j=0+(j+2) by omega]
   exact h2
theorem Zbap {Q:List RV} {S:Ps} (h:Q.map (fun q=>(q.1,q.2.2))=S.revs):Zbl S=match Q.getLast? with|some q=>q.1|none=>0:=by
 unfold Zbl;rw[←h,List.getLast?_map];cases Q.getLast?<;>rfl
theorem Zbcr (S:Ps) (a0 ar a1 a2 a3 a4 a5 a6 ab:Option Addr) (n0 nr n1 n2 n3 n4 n5 n6 nb c0 cr c1 c2 c3 c4 c5 c6 cb:Nat) (At:Option Addr) (ct:Nat) (T:List Line) (w:World) (hr:RvR w ar nr cr S.revs) (hT:Lr w (.slice At T.length ct) T) (h5:S.revs.length≤5) (hl:0≤Zbl S∧Zbl S≤1000000000):
 Calls prog 30 #[.agg (plv a0 ar a1 a2 a3 a4 a5 a6 ab n0 nr n1 n2 n3 n4 n5 n6 nb c0 cr c1 c2 c3 c4 c5 c6 cb S.s0.opn S.s1.opn S.s2.opn S.lock S.clock S.dead), .slice At T.length ct] w fun e w'=>(∃ q o nq cq,e= .returned (.agg (plv At (some ⟨q,o,none⟩) a1 a2 a3 a4 a5 a6 ab T.length nq n1 n2 n3 n4 n5 n6 nb ct cq c1 c2 c3 c4 c5 c6 cb S.s0.opn S.s1.opn S.s2.opn S.lock S.clock S.dead))∧w.heap.size≤q∧RvR w' (some ⟨q,o,none⟩) nq cq (Zej S T).revs)∧Below w.heap.size w w':=by
 obtain⟨i0,hii,hz0,hz1,hz2⟩:=info_parts Zaha;unfold plv;obtain⟨g1,g2,g3,Q,hQn,hQr,hQd,hQl,-⟩:=hr;have hnr:nr≤5:=by
  rw[←hQr,Yay]at h5;omega
 obtain⟨wb,hwb⟩: ∃ wb,w.alloc (.cells #[.slice a0 n0 c0, .slice ar nr cr, .bool S.s0.opn, .slice a1 n1 c1, .slice a2 n2 c2, .bool S.s1.opn, .slice a3 n3 c3, .slice a4 n4 c4, .bool S.s2.opn, .slice a5 n5 c5, .slice a6 n6 c6, .int .i64 S.lock, .int .i64 S.clock, .int .i64 S.dead, .slice ab nb cb] 32)=wb:=⟨_,rfl⟩;obtain⟨wa,hwa⟩: ∃ wa,wb.alloc (.cells #[.slice none 0 0, .slice none 0 0, .bool false, .slice none 0 0, .slice none 0 0, .bool false, .slice none 0 0, .slice none 0 0, .bool false, .slice none 0 0, .slice none 0 0, .int .i64 0, .int .i64 0, .int .i64 0, .slice none 0 0] 32)=wa:=⟨_,rfl⟩;have hbb:Below w.heap.size w wb:=by rw[←hwb];exact(Yag _ _).alloc (Yaf _) _
 have hba:Below w.heap.size w wa:=by rw[←hwa];exact hbb.alloc hbb.size _
 have hs1:w.heap.size<wb.heap.size:=by rw[←hwb];simp
 have hs2:wb.heap.size<wa.heap.size:=by rw[←hwa];simp
 have hh1:wa.heap[wb.heap.size]?=some (.cells #[.slice none 0 0, .slice none 0 0, .bool false, .slice none 0 0, .slice none 0 0, .bool false, .slice none 0 0, .slice none 0 0, .bool false, .slice none 0 0, .slice none 0 0, .int .i64 0, .int .i64 0, .int .i64 0, .slice none 0 0] 32 (0,0)):=by rw[←hwa];exact heap_alloc_new _ _
 have hh0:wa.heap[w.heap.size]?=some (.cells #[.slice a0 n0 c0, .slice ar nr cr, .bool S.s0.opn, .slice a1 n1 c1, .slice a2 n2 c2, .bool S.s1.opn, .slice a3 n3 c3, .slice a4 n4 c4, .bool S.s2.opn, .slice a5 n5 c5, .slice a6 n6 c6, .int .i64 S.lock, .int .i64 S.clock, .int .i64 S.dead, .slice ab nb cb] 32 (0,0)):=by
  rw[←hwa,heap_alloc_old (r:=w.heap.size) wb _ hs1,←hwb];exact heap_alloc_new _ _
 have HH0:Hid (∀ W,Below wa.heap.size wa W→W.heap[w.heap.size]?=some (.cells #[.slice a0 n0 c0, .slice ar nr cr, .bool S.s0.opn, .slice a1 n1 c1, .slice a2 n2 c2, .bool S.s1.opn, .slice a3 n3 c3, .slice a4 n4 c4, .bool S.s2.opn, .slice a5 n5 c5, .slice a6 n6 c6, .int .i64 S.lock, .int .i64 S.clock, .int .i64 S.dead, .slice ab nb cb] 32 (0,0))):=fun W hb=>(hb.block _ (by omega)).trans hh0
 have HH1:Hid (∀ W,Below wa.heap.size wa W→W.heap[wb.heap.size]?=some (.cells #[.slice none 0 0, .slice none 0 0, .bool false, .slice none 0 0, .slice none 0 0, .bool false, .slice none 0 0, .slice none 0 0, .bool false, .slice none 0 0, .slice none 0 0, .int .i64 0, .int .i64 0, .int .i64 0, .slice none 0 0] 32 (0,0))):=fun W hb=>(hb.block _ hs2).trans hh1
 have HK:Hid (∀ W,Below wa.heap.size wa W→W.cell? ⟨w.heap.size,0,none⟩=some (.slice a0 n0 c0)∧W.cell? ⟨w.heap.size,1,none⟩=some (.slice ar nr cr)∧W.cell? ⟨w.heap.size,2,none⟩=some (.bool S.s0.opn)∧W.cell? ⟨w.heap.size,3,none⟩=some (.slice a1 n1 c1)∧W.cell? ⟨w.heap.size,4,none⟩=some (.slice a2 n2 c2)∧W.cell? ⟨w.heap.size,5,none⟩=some (.bool S.s1.opn)∧W.cell? ⟨w.heap.size,6,none⟩=some (.slice a3 n3 c3)∧W.cell? ⟨w.heap.size,7,none⟩=some (.slice a4 n4 c4)∧W.cell? ⟨w.heap.size,8,none⟩=some (.bool S.s2.opn)∧W.cell? ⟨w.heap.size,9,none⟩=some (.slice a5 n5 c5)∧W.cell? ⟨w.heap.size,10,none⟩=some (.slice a6 n6 c6)∧W.cell? ⟨w.heap.size,11,none⟩=some (.int .i64 S.lock)∧W.cell? ⟨w.heap.size,12,none⟩=some (.int .i64 S.clock)∧W.cell? ⟨w.heap.size,13,none⟩=some (.int .i64 S.dead)∧W.cell? ⟨w.heap.size,14,none⟩=some (.slice ab nb cb)):=fun W hb=>by
  have h:=HH0.out W hb;refine⟨?_, ?_, ?_, ?_, ?_, ?_, ?_, ?_, ?_, ?_, ?_, ?_, ?_, ?_, ?_⟩<;>rw[cell_of_row W _ _ _ _ (0,0) h]<;>rfl
 have HC:=Zhd (fun(W:World) (hb:Below wa.heap.size wa W)=>Zajn ar cr nr (rvc Q) W (hQd.below (Zaa hba hb)) g3 (by omega) (Zazb hQl))
 have hla:=Zbap hQr
 have HL:Hid (∀ W,Below wa.heap.size wa W→Calls prog 18 #[.agg #[.slice a0 n0 c0, .slice ar nr cr, .bool S.s0.opn, .slice a1 n1 c1, .slice a2 n2 c2, .bool S.s1.opn, .slice a3 n3 c3, .slice a4 n4 c4, .bool S.s2.opn, .slice a5 n5 c5, .slice a6 n6 c6, .int .i64 S.lock, .int .i64 S.clock, .int .i64 S.dead, .slice ab nb cb]] W fun e w'=>e= .returned (.int .i64 (Zbl S))∧Below W.heap.size W w'):=fun W hb=>by
  refine Zahi _ _ _ _ _ _ _ _ _ _ _ _ _ _ ar nr cr (Zbl S) W ?_;rcases Ybj nr with hn0|hn0
  · refine .inl ⟨hn0, ?_⟩;rw[hla,show Q= []from Yap (by omega)];rfl
  · obtain⟨ad,e,hbl,hx⟩:=(hQd.below (Zaa hba hb)).2 hn0;have hg:=Zoc Q (nr-1) (by omega)
    have hcx:=hx _ _ hg.1;have hsp:ad.spot=none:=by
     have h00:=hx 0 _ (Zoc Q 0 (by omega)).1
     have h2:=World.cell?_spot h00;have h3:ad.add 0=ad:=by simp[Addr.add]
     rwa [h3]at h2
    obtain⟨b,o,sp⟩:=ad;obtain rfl:sp=none:=hsp;rw[Zag]at hcx;refine .inr ⟨b,o,e,hn0,by omega,hbl, ?_⟩
    rw[hcx,hla,Ydh,show Q.length-1=nr-1 by omega,Yaj (by omega)]
 have mixed:prog.follows .mixedOrders=true:=by kernel_rfl
 have HA:=Zhd (Yag wa.heap.size wa).drew;have hw1:IntKind.i64.wrap (Zbl S+1)=Zbl S+1:=by rw[IntKind.wrap_i64];omega
 have HT:=Zhd hT;have Hba:=Zhd hba;have hrl:=Zarw Q;obtain⟨ls,hls⟩: ∃ ls,Zbl S=ls:=⟨_,rfl⟩;rw[hls]at HL hw1;clear hh0 hh1 hla;go_enter func30,ntmps30;go_wp2_with fail;go_region_held3 (fun W=>W.cell? ⟨w.heap.size,0,none⟩=some (.slice a0 n0 c0)∧W.cell? ⟨w.heap.size,1,none⟩=some (.slice ar nr cr)∧W.cell? ⟨w.heap.size,2,none⟩=some (.bool S.s0.opn)∧W.cell? ⟨w.heap.size,3,none⟩=some (.slice a1 n1 c1)∧W.cell? ⟨w.heap.size,4,none⟩=some (.slice a2 n2 c2)∧W.cell? ⟨w.heap.size,5,none⟩=some (.bool S.s1.opn)∧W.cell? ⟨w.heap.size,6,none⟩=some (.slice a3 n3 c3)∧W.cell? ⟨w.heap.size,7,none⟩=some (.slice a4 n4 c4)∧W.cell? ⟨w.heap.size,8,none⟩=some (.bool S.s2.opn)∧W.cell? ⟨w.heap.size,9,none⟩=some (.slice a5 n5 c5)∧W.cell? ⟨w.heap.size,10,none⟩=some (.slice a6 n6 c6)∧W.cell? ⟨w.heap.size,11,none⟩=some (.int .i64 S.lock)∧W.cell? ⟨w.heap.size,12,none⟩=some (.int .i64 S.clock)∧W.cell? ⟨w.heap.size,13,none⟩=some (.int .i64 S.dead)∧W.cell? ⟨w.heap.size,14,none⟩=some (.slice ab nb cb)) (first|exact HK.out _ HB7.out|exact HK.out _ HB6a.out|exact HK.out _ HB6.out|exact HK.out _ HB5.out|exact HK.out _ HA.out) (first|(go_at_call 49;refine(HC.out _ HA.out).mono ?_;rintro e w5 ⟨⟨v5,rfl,ho5⟩,hb5⟩;have HB5:=Zhd (Zaa HA.out hb5);have HO5:=Zhd (ho5.mono HA.out.size);clear hb5 ho5)|(go_at_call 18;refine(HL.out _ HB5.out).mono ?_;rintro e w6 ⟨rfl,hb6⟩;have HB6:=Zhd (Zaa HB5.out hb6);have HO6:=Zhd (Zai HO5.out hb6);have HB6a:=Zhd (HB6.out.alloc HB6.out.size (.cells #[.int .i64 (ls+1), .slice At T.length ct] 69));clear hb6)|(refine Zme rfl _ _ 27 rfl wa.heap.size _ 69 i0 _ 2 32 underlying27 hii hz0 hz1 hz2 rfl (by decide) (by decide) (HO6.out.alloc _) HB6a.out.size (by rfl) (some ⟨w6.heap.size,0,none⟩) 1 1 [.int .i64 (ls+1), .slice At T.length ct] rfl (Zall w6 69 (ls+1) (.slice At T.length ct)) (fun h=>by cases h) (by intro u hu;simp only[Yav,Ybq,or_false]at hu;rcases hu with rfl|rfl<;>rfl) (by omega) ?_;intro v7 w7 hown7 hb7 hk7;have HB7:=Zhd (HB6a.out.trans hb7);have HO7:=Zhd hown7;clear hown7 hb7 hk7))
 obtain⟨q,cl,e7⟩:=Zda HO7.out;subst e7;have hcl:nr+1≤cl∧cl≤maxLen:=by
  obtain⟨A9,c9,e9,f1,f2,-⟩:=Zbj HO7.out;injection e9 with _ _ e10
  subst e10;exact⟨f1,f2⟩
 have hcm:=hcl.2;unfold maxLen at hcm;obtain⟨x0,x1,x2,x3,x4,x5,x6,x7,x8,x9,x10,x11,x12,x13,x14⟩:=HK.out _ HB7.out;have hr1:=HH1.out _ HB7.out;have hr0:=HH0.out _ HB7.out;have hf0: ∀ j,w7.frozen? ⟨w.heap.size,j,none⟩=false:=fun j=>frozen_of_row w7 _ j _ _ hr0
 have hf1: ∀ j,w7.frozen? ⟨wb.heap.size,j,none⟩=false:=fun j=>frozen_of_row w7 _ j _ _ hr1
 have hz: ∀ j,w7.cell? ⟨wb.heap.size,j,none⟩=(#[.slice none 0 0, .slice none 0 0, .bool false, .slice none 0 0, .slice none 0 0, .bool false, .slice none 0 0, .slice none 0 0, .bool false, .slice none 0 0, .slice none 0 0, .int .i64 0, .int .i64 0, .int .i64 0, .slice none 0 0]:Array Value)[j]?:=fun j=>cell_of_row w7 _ j _ _ (0,0) hr1
 have y0:=hz 0;have y1:=hz 1;have y2:=hz 2;have y3:=hz 3;have y4:=hz 4;have y5:=hz 5;have y6:=hz 6;have y7:=hz 7;have y8:=hz 8;have y9:=hz 9;have y10:=hz 10;have y11:=hz 11;have y12:=hz 12;have y13:=hz 13;have y14:=hz 14;have hne:w.heap.size≠wb.heap.size:=by omega
 have hne':wb.heap.size≠w.heap.size:=by omega
 have hqa:wa.heap.size≤q:=(HO7.out.lt q rfl).1;have hqw:w.heap.size≤q:=by omega
 have hq0:(Value.slice (some ⟨q,0,none⟩) (nr+1) cl).ownBlock≠some w.heap.size:=fun h=>by
  injection h with h
  have:q=w.heap.size:=h;omega
 have hq1:(Value.slice (some ⟨q,0,none⟩) (nr+1) cl).ownBlock≠some wb.heap.size:=fun h=>by
  injection h with h
  have:q=wb.heap.size:=h;omega
 have HB7w:=Zhd (Zaa hba HB7.out);have hwb0:w.heap.size≤wb.heap.size:=by omega
 have HFin:Hid (∀ W,Below w.heap.size w W→W.ownsRow wa.heap.size 69 2 (.slice (some ⟨q,0,none⟩) (nr+1) cl) (nr+1) (rvc Q++ [.int .i64 (ls+1), .slice At T.length ct])→ ∀ Aq nq cq,(nr<5∧Aq=some ⟨q,0,none⟩∧nq=nr+1∧cq=cl∨nr=5∧Aq=some ⟨q,2,none⟩∧nq=5∧cq=cl-1)→RvR W Aq nq cq (Zej S T).revs):=fun W hb ho Aq nq cq hc=>by
  have hty:=Zaqp ho;have hrd:Rd W 2 (some ⟨q,0,none⟩) (nr+1) (rvc (Q++ [(ls+1, .slice At T.length ct,T)])):=by rw[Zbdn,Zbdo];exact(Zqs ho).1
  have hmp:(Q++ [((ls+1, .slice At T.length ct,T):RV)]).map (fun q=>(q.1,q.2.2))=S.revs++ [(Zbl S+1,T)]:=by rw[Ybv,hQr,hls];rfl
  have hel: ∀ x∈Q++ [((ls+1, .slice At T.length ct,T):RV)],Lr W x.2.1 x.2.2:=fun x hx=>by
   rcases Ybn.1 hx with hx|hx
   · exact(hQl x hx).below hb
   · rw[Ybu]at hx;rw[hx];exact HT.out.below hb
  have hrl2:S.revs.length=nr:=by rw[←hQr,Yay,hQn]
  rcases hc with⟨f1,rfl,rfl,rfl⟩|⟨f1,rfl,rfl,rfl⟩
  · refine⟨hcl.1,hcl.2,(fun h=>by cases h),_,by rw[Yae,hQn];rfl, ?_,hrd,hel,fun a e _=>by cases e;exact(let ⟨x,hx⟩:=hty;⟨x,_,hx,rfl⟩)⟩
    rw[hmp];show _=(S.revs++ [(Zbl S+1,T)]).drop (S.revs.length+1-5);rw[hrl2,show nr+1-5=0 by omega,Yeu]
  · have hln:(Q++ [((ls+1, .slice At T.length ct,T):RV)]).length=5+1:=by rw[Yae,hQn,f1];rfl
    rw[f1]at hrd;refine⟨by omega,by have:=hcl.2;omega,(fun h=>by cases h),(Q++ [((ls+1, .slice At T.length ct,T):RV)]).drop 1,by rw[Yan,hln], ?_,Zazc hln hrd,fun x hx=>hel x (Yfh hx),fun a e _=>by cases e;exact(let ⟨x,hx⟩:=hty;⟨x,_,hx,rfl⟩)⟩
    rw[List.map_drop,hmp];show _=(S.revs++ [(Zbl S+1,T)]).drop (S.revs.length+1-5);rw[hrl2,f1]
 clear hz hr0 hr1 HH0 HH1 HK HC HL HO5 HB5 HB6 HB6a HO6 hs1 hs2 HA;by_cases hn5:nr=5
 · subst hn5;have hq5:(cl:Int)-1=((cl-1:Nat):Int):=by omega
   have hc1: ¬ (cl=1):=by omega
   have hc1': ¬ (1=cl):=by omega
   have hcI:(6:Int)≤(cl:Int):=by omega
   have hmx:max (1:Int) 0=1:=rfl;go_wp2_with fail;refine bodyPost_ret (v:= .agg #[.slice At T.length ct, .slice (some ⟨q,2,none⟩) (5) (cl-1), .bool S.s0.opn, .slice a1 n1 c1, .slice a2 n2 c2, .bool S.s1.opn, .slice a3 n3 c3, .slice a4 n4 c4, .bool S.s2.opn, .slice a5 n5 c5, .slice a6 n6 c6, .int .i64 S.lock, .int .i64 S.clock, .int .i64 S.dead, .slice ab nb cb]) (by simp[results,results30,go_sem, *]) rfl ?_
   refine⟨⟨_,_,_,_,rfl,hqw,HFin.out _ ?_ ?_ _ _ _ (.inr ⟨by first|rfl|trivial,by first|rfl|trivial,by first|rfl|trivial,by first|rfl|trivial⟩)⟩, ?_⟩
   · repeat (first|with_reducible exact HB7w.out|with_reducible refine Below.setCell (p:=⟨_,_,none⟩) ?_ (by first|with_reducible exact Yaf _|with_reducible exact hwb0) _)
   · repeat (first|with_reducible exact HO7.out|refine ownsRow_setCell_other (a:=⟨_,_,none⟩) ?_ (by first|exact hq0|exact hq1) _)
   · repeat (first|with_reducible exact HB7w.out|with_reducible refine Below.setCell (p:=⟨_,_,none⟩) ?_ (by first|with_reducible exact Yaf _|with_reducible exact hwb0) _)
 · have hmx:max ((nr:Int)+1-5) 0=0:=Int.max_eq_right (by omega)
   go_wp2_with fail;refine bodyPost_ret (v:= .agg #[.slice At T.length ct, .slice (some ⟨q,0,none⟩) (nr+1) (cl), .bool S.s0.opn, .slice a1 n1 c1, .slice a2 n2 c2, .bool S.s1.opn, .slice a3 n3 c3, .slice a4 n4 c4, .bool S.s2.opn, .slice a5 n5 c5, .slice a6 n6 c6, .int .i64 S.lock, .int .i64 S.clock, .int .i64 S.dead, .slice ab nb cb]) (by simp[results,results30,go_sem, *]) rfl ?_
   refine⟨⟨_,_,_,_,rfl,hqw,HFin.out _ ?_ ?_ _ _ _ (.inl ⟨by omega,rfl,rfl,rfl⟩)⟩, ?_⟩
   · repeat (first|with_reducible exact HB7w.out|with_reducible refine Below.setCell (p:=⟨_,_,none⟩) ?_ (by first|with_reducible exact Yaf _|with_reducible exact hwb0) _)
   · repeat (first|with_reducible exact HO7.out|refine ownsRow_setCell_other (a:=⟨_,_,none⟩) ?_ (by first|exact hq0|exact hq1) _)
   · repeat (first|with_reducible exact HB7w.out|with_reducible refine Below.setCell (p:=⟨_,_,none⟩) ?_ (by first|with_reducible exact Yaf _|with_reducible exact hwb0) _)
end Go.Proofs.Zq
namespace Edt
open Go Go.Lib Tre Sch Lns
def Zba (B M R:List Line):List Line×Int×Int:=
 if(Zdw B M R).2.2≠0 then([],(Zdw B M R).2.2,((Zdw B M R).2.1:Int))
 else if(Zdx (Zdw B M R).1).2≠0 then([],(Zdx (Zdw B M R).1).2,0)
 else if Zab (Zdx (Zdw B M R).1).1=false then([],1,0)
 else if 0<(Zhx (Zdx (Zdw B M R).1).1).length then([],7,((Zhx (Zdx (Zdw B M R).1).1).length:Int))
 else((Zdw B M R).1,0,0)
section
variable {B M R T X:List Line} {n:Nat} {er e2:Int}
theorem Zbht (h:Zdw B M R=(T,n,er)) (h1:er≠0):Zba B M R=([],er,(n:Int)):=by
 unfold Zba;rw[h,Yam h1]
theorem Zbhu (h:Zdw B M R=(T,n,0)) (h2:Zdx T=(X,e2)) (h3:e2≠0):Zba B M R=([],e2,0):=by
 unfold Zba;rw[h,Yab (by simp),h2,Yam h3]
theorem Zbhv (h:Zdw B M R=(T,n,0)) (h2:Zdx T=(X,0)) (h3:Zab X=false):Zba B M R=([],1,0):=by
 unfold Zba;rw[h,Yab (by simp),h2,Yab (by simp),Yam h3]
theorem Zbhw (h:Zdw B M R=(T,n,0)) (h2:Zdx T=(X,0)) (h3:Zab X=true) (h4:0<(Zhx X).length):Zba B M R=([],7,((Zhx X).length:Int)):=by
 unfold Zba;rw[h,Yab (by simp),h2,Yab (by simp),Yab (by rw[h3];simp),Yam h4]
theorem Zbgb (h:Zdw B M R=(T,n,0)) (h2:Zdx T=(X,0)) (h3:Zab X=true) (h4: ¬ 0<(Zhx X).length):Zba B M R=(T,0,0):=by
 unfold Zba;rw[h,Yab (by simp),h2,Yab (by simp),Yab (by rw[h3];simp),Yab h4]
end
end Edt
namespace Go.Proofs.Zq
open Tryz
open Go Go.RowKit Go.Sort Tre Lx Prs Lns Edt Sch
def Zeu (z:List Line×Int×Int) (w:World) (e:Ending) (w':World):Prop:=
 (∃ v,e= .returned (.tuple #[v, .agg #[.int .i64 z.2.1, .int .i64 z.2.2]])∧Lr w' v z.1)∧Below w.heap.size w w'
theorem Zqf {w:World} {b j:Nat} {u:Value} (h:w.cell? ⟨b,j,none⟩=some u) (p:Addr) (x:Value) (hp:w.cell? p=some x):(w.setCell ⟨b,j,none⟩ u).cell? p=some x:=by
 by_cases e:p=⟨b,j,none⟩
 · subst e;rw[World.cell?_setCell_same _ _ _ h];rw[h]at hp;exact hp
 · rw[World.cell?_setCell_other _ _ _ _ (fun h=>e h.symm)];exact hp
theorem Zajj {w:World} {b:Nat} {u0 u1:Value} (h0:w.cell? ⟨b,0,none⟩=some u0) (h1:w.cell? ⟨b,1,none⟩=some u1) {p:Addr} {x:Value} (hp:w.cell? p=some x):((w.setCell ⟨b,0,none⟩ u0).setCell ⟨b,1,none⟩ u1).cell? p=some x:=
 Zqf (Zqf h0 _ _ h1) p x (Zqf h0 p x hp)
theorem Zbdk {w w':World} {k n:Nat} {A:Option Addr} {xs:List Value} (h:Rd w k A n xs) (hs:w.heap.size≤w'.heap.size) (hc: ∀ (p:Addr) (u:Value),w.cell? p=some u→w'.cell? p=some u):Rd w' k A n xs:=
 ⟨h.1,fun hn=>by
  obtain⟨ad,e,hb,hx⟩:=h.2 hn;exact⟨ad,e,Ycc hb hs,fun j u hu=>hc _ _ (hx j u hu)⟩⟩
def Bl (w:World) (b:Nat) (C:Array Value) (T:TypeId):Prop:=w.heap[b]?=some (.cells C T (0,0))
theorem Bl.lt {w:World} {b:Nat} {C:Array Value} {T:TypeId} (h:Bl w b C T):b<w.heap.size:=(Ybf.1 h).1
theorem Bl.below {w w':World} {b:Nat} {C:Array Value} {T:TypeId} (h:Bl w b C T) (hb:Below w.heap.size w w'):Bl w' b C T:=(hb.block b h.lt).trans h
theorem Bl.cell {w:World} {b:Nat} {C:Array Value} {T:TypeId} (h:Bl w b C T) (j:Nat):w.cell? ⟨b,j,none⟩=C[j]?:=cell_of_row w b j C T (0,0) h
theorem Bl.froz {w:World} {b:Nat} {C:Array Value} {T:TypeId} (h:Bl w b C T) (j:Nat):w.frozen? ⟨b,j,none⟩=false:=frozen_of_row w b j C T h
theorem Bl.new (w:World) (C:Array Value) (T:TypeId):Bl (w.alloc (.cells C T)) w.heap.size C T:=heap_alloc_new _ _
theorem Bl.alloc {w:World} {b:Nat} {C:Array Value} {T:TypeId} (h:Bl w b C T) (o:Obj):Bl (w.alloc o) b C T:=(heap_alloc_old (r:=b) w _ h.lt).trans h
theorem Bl.drew {w:World} {b:Nat} {C:Array Value} {T:TypeId} (h:Bl w b C T):Bl w.drew b C T:=h
theorem Bl.set {w:World} {b:Nat} {C:Array Value} {T:TypeId} (h:Bl w b C T) (j:Nat) (v:Value):Bl (w.setCell ⟨b,j,none⟩ v) b (C.setIfInBounds j v) T:=heap_setCell_same w b j C T v h
theorem Bl.other {w:World} {b:Nat} {C:Array Value} {T:TypeId} (h:Bl w b C T) {b' j:Nat} (hne:b≠b') (v:Value):Bl (w.setCell ⟨b',j,none⟩ v) b C T:=(heap_setCell_other w ⟨b',j,none⟩ b v hne).trans h
theorem Bl.others {w:World} {b:Nat} {C:Array Value} {T:TypeId} (h:Bl w b C T) {b' o:Nat} (hne:b≠b') (vs:List Value):Bl (w.setCells b' o vs) b C T:=(Zfa b' b (fun e=>hne e.symm) vs o w).trans h
theorem Zbac: ∀ (vs:List Value) (o:Nat) (w:World) (b:Nat) (C:Array Value) (T:TypeId),Bl w b C T→ ∃ C',Bl (w.setCells b o vs) b C' T∧C'.size=C.size∧ ∀ j,C'[j]?=if o≤j∧j<o+vs.length∧j<C.size then vs[j-o]? else C[j]?
 | [],o,w,b,C,T,h=>⟨C,h,rfl,fun j=>by rw[Yab];simp;omega⟩
 | v ::r,o,w,b,C,T,h=>by
   obtain⟨C',h1,h2,h3⟩:=Zbac r (o+1) _ b _ T (h.set o v);rw[World.setCells];refine⟨C',h1,by rw[h2];simp,fun j=> ?_⟩
   rw[h3,Array.size_setIfInBounds];by_cases hj:j=o
   · subst hj;rw[Yab (by omega)]
     by_cases hs:j<C.size
     · rw[Yam ⟨Yaf _,by simp,hs⟩]
       simp[hs]
     · rw[Yab (by omega)]
       simp[hs]
   · by_cases h4:o+1≤j∧j<o+1+r.length∧j<C.size
     · rw[Yam h4,Yam ⟨by omega,by simp;omega,h4.2.2⟩]
       obtain⟨m,hm⟩: ∃ m,j-o=m+1:=⟨j-o-1,by omega⟩
       rw[hm,show j-(o+1)=m by omega];rfl
     · rw[Yab h4,Yab (by simp;omega)]
       simp[Ne.symm hj]
theorem Bl.sets {w:World} {b:Nat} {C D:Array Value} {T:TypeId} (h:Bl w b C T) (hs:D.size=C.size):Bl (w.setCells b 0 D.toList) b D T:=by
 obtain⟨C',h1,h2,h3⟩:=Zbac D.toList 0 w b C T h;have:C'=D:=by
  refine Array.ext (by omega) fun j hj1 hj2=> ?_
  have:=h3 j;rw[Yam ⟨Yas _,by simp;omega,by omega⟩,Array.getElem?_eq_getElem hj1]at this
  simpa[hj2]using this
 rw[←this];exact this▸h1
theorem Zam:(prog.info? 32).map (·.size)=some 15:=by kernel_rfl
theorem Bl.range {w:World} {b:Nat} {C:Array Value} {T:TypeId} (h:Bl w b C T):w.rangeAt b 0 C.toList:=fun j v hv=>by
 rw[Ybi,h.cell,←Array.getElem?_toList];exact hv
theorem Bl.there {w:World} {b:Nat} {C:Array Value} {T:TypeId} (h:Bl w b C T) {n:Nat} (hn:n≤C.size):w.there b 0 n:=fun j hj=>by
 rw[Ybi];exact⟨by rw[h.cell,Array.getElem?_eq_getElem (by omega)];rfl,h.froz j⟩
theorem lvPl {w:World} {b:Nat} {C:Array Value} (h:Bl w b C 32) (hs:C.size=15):(loadVar 32 ⟨b,0,none⟩).run prog w= .ok (.agg C) w:=by
 have:=run_loadVar_mid (P:=prog) w b 0 32 C.toList _ h.range underlying32 rfl (by rw[Yau,hs];exact Zam)
 simpa using this
def Off (p:Nat) (w W:World):Prop:=w.heap.size≤W.heap.size∧ ∀ b,b≠p→b<w.heap.size→W.heap[b]?=w.heap[b]?
theorem Off.refl (p:Nat) (w:World):Off p w w:=⟨Yaf _,fun _ _ _=>rfl⟩
theorem Off.trans {p:Nat} {a b c:World} (h:Off p a b) (k:Off p b c):Off p a c:=⟨Yat h.1 k.1,fun i hi hl=>(k.2 i hi (Ycc hl h.1)).trans (h.2 i hi hl)⟩
theorem Off.below {p:Nat} {a b:World} (h:Below a.heap.size a b):Off p a b:=⟨h.size,fun i _ hl=>h.block i hl⟩
theorem Off.setCell {p:Nat} {a b:World} (h:Off p a b) (o:Nat) (v:Value):Off p a (b.setCell ⟨p,o,none⟩ v):=h.trans ⟨by simp,fun i hi _=>Below.heap_setCell b ⟨p,o,none⟩ v i hi⟩
theorem Off.setCells {p:Nat} {a:World}: ∀ (vs:List Value) (o:Nat) {b:World},Off p a b→Off p a (b.setCells p o vs)
 | [],_,_,h=>h
 |v::r,o,_,h=>Off.setCells r (o+1) (h.setCell o v)
theorem Off.cell {p:Nat} {w W:World} (h:Off p w W) {a:Addr} (hb:a.block≠p) (hl:a.block<w.heap.size):W.cell? a=w.cell? a:=World.cell?_of_block (w:=w) (h.2 a.block hb hl)
theorem Lr.off {p:Nat} {w W:World} {v:Value} {M:List Line} {C:Array Value} {T:TypeId} (h:Lr w v M) (hp:Bl w p C T) (hC:C.toList.all (fun u=>match u with| .string _=>false|_=>true)=true) (ho:Off p w W):Lr W v M:=by
 obtain⟨A,c,h1,h2,h3,h4,h5⟩:=h;refine⟨A,c,h1,h2,h3,⟨h4.1,fun hn=> ?_⟩,h5⟩
 obtain⟨ad,e,hb,hx⟩:=h4.2 hn
 have hne:ad.block≠p:=fun h0=>by
  cases M with
  |nil=>simp at hn
  | cons m r=>
    have h2:=hx 1 (.string m.word) rfl;have h3:=World.cell?_spot (hx 0 (.int .i64 m.depth) rfl);rw[show ad.add 0=ad by simp[Addr.add]]at h3
    obtain⟨b,o,sp⟩:=ad;obtain rfl:sp=none:=h3;obtain rfl:b=p:=h0;rw[Zag,hp.cell]at h2;obtain⟨hj,h4⟩:=Ybf.1 h2;have h6:=Ybt.1 hC _ (h4▸Array.getElem_mem_toList hj);cases h6
 exact⟨ad,e,Ycc hb ho.1,fun j u hu=>(ho.cell (by rw[Zhc];exact hne) (by rw[Zhc];exact hb)).trans (hx j u hu)⟩
theorem RvR.off {p:Nat} {w W:World} {A:Option Addr} {n c:Nat} {R:List (Int×List Line)} {C:Array Value} {T:TypeId} (h:RvR w A n c R) (hp:Bl w p C T) (hT:RevB T=false) (hC:C.toList.all (fun u=>match u with| .string _=>false|_=>true)=true) (ho:Off p w W):RvR W A n c R:=by
 obtain⟨h1,h2,h3,Q,h4,h5,h6,h7,h8⟩:=h
 have hne: ∀ a,A=some a→0<n→a.block≠p:=fun a e hn h0=>by
  obtain⟨x,T',hx,hT'⟩:=h8 a e hn;rw[h0,hp]at hx;injection hx with hx
  injection hx with _ hx
  rw[←hx,hT]at hT';cases hT'
 refine⟨h1,h2,h3,Q,h4,h5,⟨h6.1,fun hn=> ?_⟩,fun q hq=>(h7 q hq).off hp hC ho,fun a e hn=> ?_⟩
 · obtain⟨ad,e,hb,hx⟩:=h6.2 hn;exact⟨ad,e,Ycc hb ho.1,fun j u hu=>(ho.cell (by rw[Zhc];exact hne _ e hn) (by rw[Zhc];exact hb)).trans (hx j u hu)⟩
 · obtain⟨x,T',hx,hT'⟩:=h8 a e hn;exact⟨x,T',(ho.2 _ (hne a e hn) (Ybf.1 hx).1).trans hx,hT'⟩
theorem RvR.lt {w:World} {A:Option Addr} {n c:Nat} {R:List (Int×List Line)} (h:RvR w A n c R) {a:Addr} (e:A=some a) (hn:0<n):a.block<w.heap.size:=by
 obtain⟨-,-,-,Q,-,-,h6,-⟩:=h;obtain⟨ad,e2,hb,-⟩:=h6.2 hn;rw[e]at e2;injection e2 with e2
 rw[e2];exact hb
theorem Zio {ops:Array Oper} {o:Oper} {a:Act} {K:Act→World→Prop} {Q:Exit→Act→World→Prop} {E:Prop} {W:World} {C D:Array Value} (T:TypeId) (hgd:o.guard=none) (x y:Operand) (ho:o.op= .store T x y)
 (b:Nat) (hB:Bl W b C T) (hs:C.size=D.size) (hx:a.eval x= .pointer (some ⟨b,0,none⟩)) (hy:a.eval y= .agg D) (hi:(prog.info? T).map (·.size)=some D.size) (h1:D.toList.all (·.oneCell')=true)
 (h: ∀ W',W.setCells b 0 D.toList=W'→K (a.put o.dst undef) W'):
 if Region.wanted o (yielded ops a.tmps)=true then Oper.wp prog o a W K Q else E:=by
 rw[Yam (by simp[Region.wanted,hgd])]
 exact wp_store_mid T x y ho b 0 D hx hy (hB.there (by omega)) hi (Ybo.2 fun v hv=>Ybt.1 h1 v (by simpa using hv)) (h _ rfl)
end Go.Proofs.Zq
namespace Edt
open Go Go.Lib Tre Sch Lns
def Zrm (S:Ps) (n:Int):Ps:={S with clock:=S.clock+n,dead:=0,back:= []}
def Zne (S:Ps) (n:Int):Ps×Int×Int:=
 if n<0∨2147483647-S.clock<n then(S,1,0)
 else if S.dead=0∨S.clock+n<S.dead then({S with clock:=S.clock+n},0,0)
 else(Zej (Zrm S n) S.back,0,Zbl (Zej (Zrm S n) S.back))
theorem Zbhi {S:Ps} {n:Int} (h:n<0∨2147483647-S.clock<n):Zne S n=(S,1,0):=by unfold Zne;rw[Yam h]
theorem Zbhj {S:Ps} {n:Int} (h: ¬ (n<0∨2147483647-S.clock<n)) (h2:S.dead=0∨S.clock+n<S.dead):Zne S n=({S with clock:=S.clock+n},0,0):=by unfold Zne;rw[Yab h,Yam h2]
theorem Zbhk {S:Ps} {n:Int} (h: ¬ (n<0∨2147483647-S.clock<n)) (h2: ¬ (S.dead=0∨S.clock+n<S.dead)):Zne S n=(Zej (Zrm S n) S.back,0,Zbl (Zej (Zrm S n) S.back)):=by unfold Zne;rw[Yab h,Yab h2]
end Edt
namespace Go.Proofs.Zq
open Tryz
open Go Go.RowKit Go.Sort Tre Lx Prs Lns Edt Sch
def Zef (z:Ps×Int×Int) (w:World) (e:Ending) (w':World):Prop:=
 (∃ v,e= .returned (.tuple #[v, .agg #[.int .i64 z.2.1, .int .i64 z.2.2]])∧PlR w' v z.1)∧Below w.heap.size w w'
def PlG (w:World) (S:Ps) (a0 ar a1 a2 a3 a4 a5 a6 ab:Option Addr) (n0 nr n1 n2 n3 n4 n5 n6 nb c0 cr c1 c2 c3 c4 c5 c6 cb:Nat):Prop:=
 Lr w (.slice a0 n0 c0) S.run∧RvR w ar nr cr S.revs∧Lr w (.slice a1 n1 c1) S.s0.base∧Lr w (.slice a2 n2 c2) S.s0.mine∧Lr w (.slice a3 n3 c3) S.s1.base∧Lr w (.slice a4 n4 c4) S.s1.mine∧Lr w (.slice a5 n5 c5) S.s2.base∧Lr w (.slice a6 n6 c6) S.s2.mine∧Lr w (.slice ab nb cb) S.back
section
variable {w w':World} {S:Ps} {a0 ar a1 a2 a3 a4 a5 a6 ab:Option Addr} {n0 nr n1 n2 n3 n4 n5 n6 nb c0 cr c1 c2 c3 c4 c5 c6 cb:Nat}
theorem PlG.below (h:PlG w S a0 ar a1 a2 a3 a4 a5 a6 ab n0 nr n1 n2 n3 n4 n5 n6 nb c0 cr c1 c2 c3 c4 c5 c6 cb) (hb:Below w.heap.size w w'):PlG w' S a0 ar a1 a2 a3 a4 a5 a6 ab n0 nr n1 n2 n3 n4 n5 n6 nb c0 cr c1 c2 c3 c4 c5 c6 cb:=
 ⟨h.1.below hb,h.2.1.below hb,h.2.2.1.below hb,h.2.2.2.1.below hb,h.2.2.2.2.1.below hb,h.2.2.2.2.2.1.below hb,h.2.2.2.2.2.2.1.below hb,h.2.2.2.2.2.2.2.1.below hb,h.2.2.2.2.2.2.2.2.below hb⟩
end
theorem Zcq:(prog.info? 39).map (·.size)=some 2:=by kernel_rfl
theorem Zbco {v:Value} {S:Ps} {w:World} (hP:PlR w v S) (h5:S.revs.length≤5):Calls prog 18 #[v] w fun e w'=>e= .returned (.int .i64 (Zbl S))∧Below w.heap.size w w':=by
 obtain⟨a0,ar,a1,a2,a3,a4,a5,a6,ab,n0,nr,n1,n2,n3,n4,n5,n6,nb,c0,cr,c1,c2,c3,c4,c5,c6,cb,e,-,hr,-⟩:=hP;subst e;obtain⟨-,-,-,Q,hQn,hQr,hQd,-⟩:=hr;have hla:=Zbap hQr;have hnr:nr≤5:=by
  rw[←hQr,Yay]at h5;omega
 refine Zahi _ _ _ _ _ _ _ _ _ _ _ _ _ _ ar nr cr (Zbl S) w ?_;rcases Ybj nr with hn0|hn0
 · refine .inl ⟨hn0, ?_⟩;rw[hla,show Q= []from Yap (by omega)];rfl
 · obtain⟨ad,e,hbl,hx⟩:=hQd.2 hn0;have hg:=Zoc Q (nr-1) (by omega)
   have hcx:=hx _ _ hg.1;have hsp:ad.spot=none:=by
    have h00:=hx 0 _ (Zoc Q 0 (by omega)).1
    have h2:=World.cell?_spot h00;have h3:ad.add 0=ad:=by simp[Addr.add]
    rwa [h3]at h2
   obtain⟨b,o,sp⟩:=ad;obtain rfl:sp=none:=hsp;rw[Zag]at hcx;refine .inr ⟨b,o,e,hn0,by omega,hbl, ?_⟩
   rw[hcx,hla,Ydh,show Q.length-1=nr-1 by omega,Yaj (by omega)]
end Go.Proofs.Zq
namespace Edt
open Go Go.Lib Tre Sch Lns
def Ps.ses (S:Ps) (k:Nat):Ss:=if k=0 then S.s0 else if k=1 then S.s1 else S.s2
def Ps.setSes (S:Ps) (k:Nat) (x:Ss):Ps:=if k=0 then {S with s0:=x}else if k=1 then {S with s1:=x}else {S with s2:=x}
end Edt
namespace Go.Proofs.Zq
open Tryz
open Go Go.RowKit Go.Sort Tre Lx Prs Lns Edt Sch
structure PlC (w:World) (C:Array Value) (S:Ps):Prop where
 size:C.size=15
 run: ∃ v,C[0]?=some v∧Lr w v S.run
 revs: ∃ A n c,C[1]?=some (.slice A n c)∧RvR w A n c S.revs
 opn: ∀ k,k<3→C[2+k*3]?=some (.bool (S.ses k).opn)
 base: ∀ k,k<3→ ∃ v,C[2+k*3+1]?=some v∧Lr w v (S.ses k).base
 mine: ∀ k,k<3→ ∃ v,C[2+k*3+2]?=some v∧Lr w v (S.ses k).mine
 lock:C[11]?=some (.int .i64 S.lock)
 clock:C[12]?=some (.int .i64 S.clock)
 dead:C[13]?=some (.int .i64 S.dead)
 back: ∃ v,C[14]?=some v∧Lr w v S.back
theorem of3 {p:Nat→Prop} (h0:p 0) (h1:p 1) (h2:p 2) (k:Nat) (h:k<3):p k:=by
 match k,h with
 |0,_=>exact h0
 |1,_=>exact h1
 |2,_=>exact h2
theorem PlR.cells {w:World} {v:Value} {S:Ps} (h:PlR w v S): ∃ C,v= .agg C∧PlC w C S:=by
 obtain⟨a0,ar,a1,a2,a3,a4,a5,a6,ab,n0,nr,n1,n2,n3,n4,n5,n6,nb,c0,cr,c1,c2,c3,c4,c5,c6,cb,e,h0,hr,h1,h2,h3,h4,h5,h6,h7⟩:=h;refine⟨_,e,rfl,⟨_,rfl,h0⟩,⟨_,_,_,rfl,hr⟩,fun k hk=> ?_,fun k hk=> ?_,fun k hk=> ?_,rfl,rfl,rfl,⟨_,rfl,h7⟩⟩
 · exact of3 (p:=fun k=>(plv a0 ar a1 a2 a3 a4 a5 a6 ab n0 nr n1 n2 n3 n4 n5 n6 nb c0 cr c1 c2 c3 c4 c5 c6 cb S.s0.opn S.s1.opn S.s2.opn S.lock S.clock S.dead)[2+k*3]?=some (.bool (S.ses k).opn)) rfl rfl rfl k hk
 · exact of3 (p:=fun k=> ∃ v,(plv a0 ar a1 a2 a3 a4 a5 a6 ab n0 nr n1 n2 n3 n4 n5 n6 nb c0 cr c1 c2 c3 c4 c5 c6 cb S.s0.opn S.s1.opn S.s2.opn S.lock S.clock S.dead)[2+k*3+1]?=some v∧Lr w v (S.ses k).base) ⟨_,rfl,h1⟩ ⟨_,rfl,h3⟩ ⟨_,rfl,h5⟩ k hk
 · exact of3 (p:=fun k=> ∃ v,(plv a0 ar a1 a2 a3 a4 a5 a6 ab n0 nr n1 n2 n3 n4 n5 n6 nb c0 cr c1 c2 c3 c4 c5 c6 cb S.s0.opn S.s1.opn S.s2.opn S.lock S.clock S.dead)[2+k*3+2]?=some v∧Lr w v (S.ses k).mine) ⟨_,rfl,h2⟩ ⟨_,rfl,h4⟩ ⟨_,rfl,h6⟩ k hk
theorem Lr.slice {w:World} {v:Value} {M:List Line} (h:Lr w v M): ∃ A n c,v= .slice A n c:=by
 obtain⟨A,c,e,-⟩:=h;exact⟨_,_,_,e⟩
theorem PlC.plR {w:World} {C:Array Value} {S:Ps} (h:PlC w C S):PlR w (.agg C) S:=by
 obtain⟨v0,e0,h0⟩:=h.run;obtain⟨ar,nr,cr,er,hr⟩:=h.revs;obtain⟨v1,e1,h1⟩:=h.base 0 (by decide)
 obtain⟨v2,e2,h2⟩:=h.mine 0 (by decide)
 obtain⟨v3,e3,h3⟩:=h.base 1 (by decide)
 obtain⟨v4,e4,h4⟩:=h.mine 1 (by decide)
 obtain⟨v5,e5,h5⟩:=h.base 2 (by decide)
 obtain⟨v6,e6,h6⟩:=h.mine 2 (by decide)
 obtain⟨vb,eb,hb⟩:=h.back;obtain⟨a0,n0,c0,rfl⟩:=h0.slice;obtain⟨a1,n1,c1,rfl⟩:=h1.slice;obtain⟨a2,n2,c2,rfl⟩:=h2.slice;obtain⟨a3,n3,c3,rfl⟩:=h3.slice;obtain⟨a4,n4,c4,rfl⟩:=h4.slice;obtain⟨a5,n5,c5,rfl⟩:=h5.slice;obtain⟨a6,n6,c6,rfl⟩:=h6.slice;obtain⟨ab,nb,cb,rfl⟩:=hb.slice;refine⟨a0,ar,a1,a2,a3,a4,a5,a6,ab,n0,nr,n1,n2,n3,n4,n5,n6,nb,c0,cr,c1,c2,c3,c4,c5,c6,cb, ?_,h0,hr,h1,h2,h3,h4,h5,h6,hb⟩;congr 1;refine Array.ext_getElem? fun i=> ?_
 match i with
 |0=>exact e0
 |1=>exact er
 |2=>exact h.opn 0 (by decide)
 |3=>exact e1
 |4=>exact e2
 |5=>exact h.opn 1 (by decide)
 |6=>exact e3
 |7=>exact e4
 |8=>exact h.opn 2 (by decide)
 |9=>exact e5
 |10=>exact e6
 |11=>exact h.lock
 |12=>exact h.clock
 |13=>exact h.dead
 |14=>exact eb
 |i+15=>rw[Yeh (by rw[h.size];omega)];exact(Yeh (by unfold plv;simp)).symm
theorem PlC.below {w w':World} {C:Array Value} {S:Ps} (h:PlC w C S) (hb:Below w.heap.size w w'):PlC w' C S:=
 ⟨h.size,(let ⟨v,e,k⟩:=h.run;⟨v,e,k.below hb⟩),(let ⟨a,n,c,e,k⟩:=h.revs;⟨a,n,c,e,k.below hb⟩),h.opn,fun k hk=>(let ⟨v,e,g⟩:=h.base k hk;⟨v,e,g.below hb⟩),fun k hk=>(let ⟨v,e,g⟩:=h.mine k hk;⟨v,e,g.below hb⟩),h.lock,h.clock,h.dead,let ⟨v,e,k⟩:=h.back;⟨v,e,k.below hb⟩⟩
theorem PlC.nostr {w:World} {C:Array Value} {S:Ps} (h:PlC w C S):C.toList.all (fun u=>match u with| .string _=>false|_=>true)=true:=by
 obtain⟨a0,ar,a1,a2,a3,a4,a5,a6,ab,n0,nr,n1,n2,n3,n4,n5,n6,nb,c0,cr,c1,c2,c3,c4,c5,c6,cb,e,-⟩:=h.plR;injection e with e
 subst e;rfl
theorem PlC.one {w:World} {C:Array Value} {S:Ps} (h:PlC w C S):C.toList.all (·.oneCell')=true:=by
 obtain⟨a0,ar,a1,a2,a3,a4,a5,a6,ab,n0,nr,n1,n2,n3,n4,n5,n6,nb,c0,cr,c1,c2,c3,c4,c5,c6,cb,e,-⟩:=h.plR;injection e with e
 subst e;rfl
theorem PlC.off {p:Nat} {w W:World} {C D:Array Value} {S:Ps} {T:TypeId} (h:PlC w C S) (hp:Bl w p D T) (hT:RevB T=false) (hD:D.toList.all (fun u=>match u with| .string _=>false|_=>true)=true) (ho:Off p w W):PlC W C S:=
 ⟨h.size,(let ⟨v,e,k⟩:=h.run;⟨v,e,k.off hp hD ho⟩),(let ⟨a,n,c,e,k⟩:=h.revs;⟨a,n,c,e,k.off hp hT hD ho⟩),h.opn,fun k hk=>(let ⟨v,e,g⟩:=h.base k hk;⟨v,e,g.off hp hD ho⟩),fun k hk=>(let ⟨v,e,g⟩:=h.mine k hk;⟨v,e,g.off hp hD ho⟩),h.lock,h.clock,h.dead,let ⟨v,e,k⟩:=h.back;⟨v,e,k.off hp hD ho⟩⟩
theorem Zod (S:Ps) (k j:Nat) (x:Ss) (hk:k<3) (hj:j<3):(S.setSes k x).ses j=if k=j then x else S.ses j:=by
 have:(k=0∨k=1∨k=2)∧(j=0∨j=1∨j=2):=by omega
 obtain⟨rfl|rfl|rfl,rfl|rfl|rfl⟩:=this<;>rfl
theorem Zbv (S:Ps) (k:Nat) (x:Ss):(S.setSes k x).run=S.run∧(S.setSes k x).revs=S.revs∧(S.setSes k x).lock=S.lock∧(S.setSes k x).clock=S.clock∧(S.setSes k x).dead=S.dead∧(S.setSes k x).back=S.back:=by
 unfold Ps.setSes;split
 · exact⟨rfl,rfl,rfl,rfl,rfl,rfl⟩
 · split<;>exact⟨rfl,rfl,rfl,rfl,rfl,rfl⟩
theorem PlC.setSes {w:World} {C:Array Value} {S:Ps} (h:PlC w C S) (k:Nat) (hk:k<3) (b:Bool) (v1 v2:Value) (B M:List Line) (h1:Lr w v1 B) (h2:Lr w v2 M):
 PlC w (((C.setIfInBounds (2+k*3) (.bool b)).setIfInBounds (2+k*3+1) v1).setIfInBounds (2+k*3+2) v2) (S.setSes k ⟨b,B,M⟩):=by
 obtain⟨f0,f1,f2,f3,f4,f5⟩:=Zbv S k ⟨b,B,M⟩;have hs:=h.size
 have g: ∀ j,(((C.setIfInBounds (2+k*3) (.bool b)).setIfInBounds (2+k*3+1) v1).setIfInBounds (2+k*3+2) v2)[j]?=if j=2+k*3+2 then some v2 else if j=2+k*3+1 then some v1 else if j=2+k*3 then some (.bool b)else C[j]?:=fun j=>by
  simp only[Ycx,Array.size_setIfInBounds,hs];by_cases e2:j=2+k*3+2
  · rw[Yam e2.symm,Yam (by omega),Yam e2]
  · rw[Yab (Ne.symm e2),Yab e2];by_cases e1:j=2+k*3+1
    · rw[Yam e1.symm,Yam (by omega),Yam e1]
    · rw[Yab (Ne.symm e1),Yab e1];by_cases e0:j=2+k*3
      · rw[Yam e0.symm,Yam (by omega),Yam e0]
      · rw[Yab (Ne.symm e0),Yab e0]
 refine⟨by simp[hs], ?_, ?_,fun j hj=> ?_,fun j hj=> ?_,fun j hj=> ?_, ?_, ?_, ?_, ?_⟩
 · rw[g,Yab (by omega),Yab (by omega),Yab (by omega),f0];exact h.run
 · rw[g,Yab (by omega),Yab (by omega),Yab (by omega),f1];exact h.revs
 · rw[g,Yab (by omega),Yab (by omega),Zod S k j _ hk hj]
   by_cases e:k=j
   · subst e;rw[Yam rfl,Yam rfl]
   · rw[Yab (by omega),Yab e];exact h.opn j hj
 · rw[g,Yab (by omega),Zod S k j _ hk hj]
   by_cases e:k=j
   · subst e;rw[Yam rfl,Yam rfl];exact⟨_,rfl,h1⟩
   · rw[Yab (by omega),Yab (by omega),Yab e];exact h.base j hj
 · rw[g,Zod S k j _ hk hj];by_cases e:k=j
   · subst e;rw[Yam rfl,Yam rfl];exact⟨_,rfl,h2⟩
   · rw[Yab (by omega),Yab (by omega),Yab (by omega),Yab e];exact h.mine j hj
 · rw[g,Yab (by omega),Yab (by omega),Yab (by omega),f2];exact h.lock
 · rw[g,Yab (by omega),Yab (by omega),Yab (by omega),f3];exact h.clock
 · rw[g,Yab (by omega),Yab (by omega),Yab (by omega),f4];exact h.dead
 · rw[g,Yab (by omega),Yab (by omega),Yab (by omega),f5];exact h.back
theorem PlC.setLock {w:World} {C:Array Value} {S:Ps} (h:PlC w C S) (l:Int):PlC w (C.setIfInBounds 11 (.int .i64 l)) {S with lock:=l}:=by
 have hs:=h.size
 have g: ∀ j,(C.setIfInBounds 11 (.int .i64 l))[j]?=if j=11 then some (.int .i64 l)else C[j]?:=fun j=>by
  rw[Ycx];by_cases e:j=11
  · rw[Yam e.symm,Yam (by omega),Yam e]
  · rw[Yab (Ne.symm e),Yab e]
 refine⟨by simp[hs], ?_, ?_,fun j hj=> ?_,fun j hj=> ?_,fun j hj=> ?_, ?_, ?_, ?_, ?_⟩
 · rw[g,Yab (by omega)];exact h.run
 · rw[g,Yab (by omega)];exact h.revs
 · rw[g,Yab (by omega)];exact h.opn j hj
 · rw[g,Yab (by omega)];exact h.base j hj
 · rw[g,Yab (by omega)];exact h.mine j hj
 · rw[g,Yam rfl]
 · rw[g,Yab (by omega)];exact h.clock
 · rw[g,Yab (by omega)];exact h.dead
 · rw[g,Yab (by omega)];exact h.back
theorem lvRp {w:World} {b:Nat} {C:Array Value} (h:Bl w b C 39) (hs:C.size=2):(loadVar 39 ⟨b,0,none⟩).run prog w= .ok (.agg C) w:=by
 have:=run_loadVar_mid (P:=prog) w b 0 39 C.toList _ h.range underlying39 rfl (by rw[Yau,hs];exact Zcq)
 simpa using this
theorem Zdj {fn:Func} {t:Array Value} {W:World} {q r:Nat} {D R:Array Value} (hf:fn.results= #[.cell 4 32, .cell 5 39]) (h4:t.getD 4 undef= .pointer (some ⟨q,0,none⟩)) (h5:t.getD 5 undef= .pointer (some ⟨r,0,none⟩))
 (hq:Bl W q D 32) (hd:D.size=15) (hr:Bl W r R 39) (hrs:R.size=2):(results fn t).run prog W= .ok (.tuple #[.agg D, .agg R]) W:=by
 have e1:=lvPl hq hd;have e2:=lvRp hr hrs;unfold results;rw[hf];simp only[List.mapM_toArray,List.mapM_cons,List.mapM_nil,h4,h5,asAddr,Sem.run_bind,Sem.run_pure,Result.andThen_ok,e1,e2,Sem.run_map];rfl
abbrev rops (s1 s2:Nat) (t1 t2 t3 t4:TypeId) (p1 p2 p3 p4:String) (f1 f2 f3 f4:Array Edge) (l:Array (Nat×Operand)):Array Oper:=
 #[{dst:=some s1,op:= .load 32 (.tmp 2),type:=t1,pos:=p1,after:=f1,guard:=none},{dst:=some s2,op:= .build 39 l,type:=t2,pos:=p2,after:=f2,guard:=none},{dst:=none,op:= .store 32 (.tmp 4) (.tmp s1),type:=t3,pos:=p3,after:=f3,guard:=none},{dst:=none,op:= .store 39 (.tmp 5) (.tmp s2),type:=t4,pos:=p4,after:=f4,guard:=none}]
theorem Zbo {id s1 s2:Nat} {t1 t2 t3 t4:TypeId} {p1 p2 p3 p4:String} {f1 f2 f3 f4:Array Edge} {l:Array (Nat×Operand)} {Q:Exit→Act→World→Prop} {a:Act} {W:World} {p q r:Nat} {C Z R Y:Array Value}
 (hp:Bl W p C 32) (hc:C.size=15) (h1:C.toList.all (·.oneCell')=true) (hq:Bl W q Z 32) (hz:Z.size=15) (hr:Bl W r Y 39) (hy:Y.size=2) (hR:R.size=2) (hR1:R.toList.all (·.oneCell')=true) (hqr:r≠q)
 (a2:a.eval (.tmp 2)= .pointer (some ⟨p,0,none⟩))
 (hb:(execOp (a.put (some s1) (.agg C)).eval {dst:=some s2,op:= .build 39 l,type:=t2,pos:=p2,after:=f2,guard:=none}).run prog W= .ok (.value (.agg R)) W)
 (a4:((a.put (some s1) (.agg C)).put (some s2) (.agg R)).eval (.tmp 4)= .pointer (some ⟨q,0,none⟩)) (a1:((a.put (some s1) (.agg C)).put (some s2) (.agg R)).eval (.tmp s1)= .agg C)
 (a5:(((a.put (some s1) (.agg C)).put (some s2) (.agg R)).put none undef).eval (.tmp 5)= .pointer (some ⟨r,0,none⟩)) (a6:(((a.put (some s1) (.agg C)).put (some s2) (.agg R)).put none undef).eval (.tmp s2)= .agg R)
 (h: ∀ W',Off q W (W.setCells q 0 C.toList)→Off r (W.setCells q 0 C.toList) W'→(∀ B,B≤q→B≤r→ ∀ {w0},Below B w0 W→Below B w0 W')→Bl W' q C 32→Bl W' r R 39→Q .normal ((((a.put (some s1) (.agg C)).put (some s2) (.agg R)).put none undef).put none undef) W'):
 (Code.region id (rops s1 s2 t1 t2 t3 t4 p1 p2 p3 p4 f1 f2 f3 f4 l) false).wp prog Q a W:=by
 refine wp_region_lit ?_;refine wpList_load_mid rfl 32 _ rfl p 0 a2 C.toList _ hp.range underlying32 rfl (by rw[Yau,hc];exact Zam) ?_
 refine wpList_plain rfl fun K hK=> ?_
 unfold Oper.wp;rw[show C.toList.toArray=C from rfl,hb];refine hK _ _ ?_;refine wpList_store_mid rfl 32 _ _ rfl q 0 C a4 a1 (hq.there (by omega)) (by rw[hc];exact Zam) (Ybo.2 fun v hv=>Ybt.1 h1 v (by simpa using hv)) ?_
 have hr1:=hr.others (o:=0) hqr C.toList;have hq1:=hq.sets (D:=C) (by omega)
 refine wpList_store_mid rfl 39 _ _ rfl r 0 R a5 a6 (hr1.there (by omega)) (by rw[hR];exact Zcq) (Ybo.2 fun v hv=>Ybt.1 hR1 v (by simpa using hv)) ?_
 refine wpList_nil ?_;exact h _ ((Off.refl _ _).setCells _ 0) ((Off.refl _ _).setCells _ 0) (fun B b1 b2 w0 hb=>Zap b2 _ _ (Zap b1 _ _ hb)) (hq1.others (Ne.symm hqr) _) (hr1.sets (by omega))
end Go.Proofs.Zq
