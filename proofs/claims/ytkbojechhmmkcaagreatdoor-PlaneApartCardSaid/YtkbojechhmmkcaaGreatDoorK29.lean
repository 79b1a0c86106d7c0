import Derived.Test.YtkbojechhmmkcaaGreatDoorK28
set_option linter.unusedVariables false
set_option linter.unusedSimpArgs false
set_option maxHeartbeats 4000000
set_option maxRecDepth 100000
namespace Go.Proofs.Zq
open Tryz
open Go Go.RowKit Go.Sort Tre Lx Prs Lns Edt Sch
theorem Zsr (C:Array Value) (S:Ps) (k:Nat) (w:World) (hE:Env w) (hP:PlC w C S) (hk:k<3) (h1:Zab (S.ses k).base=true) (h2:Zab (S.ses k).mine=true) (h3:Zab S.run=true):
 Calls prog 23 #[.agg C, .int .i64 (k:Int)] w (Zeu (Zba (S.ses k).base (S.ses k).mine S.run) w):=by
 obtain⟨vB,eB,gB⟩:=hP.base k hk;obtain⟨vM,eM,gM⟩:=hP.mine k hk;obtain⟨v0,e0,g0⟩:=hP.run;obtain⟨aB,nB,cB,rfl⟩:=gB.slice;obtain⟨aM,nM,cM,rfl⟩:=gM.slice;obtain⟨a0,n0,c0,rfl⟩:=g0.slice;have eo:=hP.opn k hk;generalize (S.ses k).opn=bo at eo;obtain⟨wb,hwb⟩: ∃ wb,w.alloc (.cells C 32)=wb:=⟨_,rfl⟩;have hbb:Below w.heap.size w wb:=by rw[←hwb];exact(Yag _ _).alloc (Yaf _) _
 have hb1:Below w.heap.size w (wb.alloc (.cells #[.int .i64 0, .int .i64 0] 39)):=hbb.alloc hbb.size _;have hb2:Below w.heap.size w ((wb.alloc (.cells #[.int .i64 0, .int .i64 0] 39)).alloc (.cells #[.bool bo, .slice aB nB cB, .slice aM nM cM] 29)):=hb1.alloc hb1.size _;obtain⟨wa,hwa⟩: ∃ wa,wb.alloc (.cells #[.int .i64 0, .int .i64 0] 39)=wa:=⟨_,rfl⟩;obtain⟨wd,hwd⟩: ∃ wd,wa.alloc (.cells #[.bool bo, .slice aB nB cB, .slice aM nM cM] 29)=wd:=⟨_,rfl⟩;have hp1:wb.heap.size<wd.heap.size:=by rw[←hwd,←hwa];simp;omega
 have hp0:w.heap.size<wb.heap.size:=by rw[←hwb];simp
 have hpa:wb.heap.size<wa.heap.size:=by rw[←hwa];simp
 have hh0:Bl wa w.heap.size C 32:=by rw[←hwa,←hwb];exact(Bl.new _ _ _).alloc _
 have hhd:Bl wd w.heap.size C 32:=by rw[←hwd];exact hh0.alloc _
 have k0:wa.cell? ⟨w.heap.size,2+k*3,none⟩=some (.bool bo):=(hh0.cell _).trans eo;have k1:wa.cell? ⟨w.heap.size,2+k*3+1,none⟩=some (.slice aB nB cB):=(hh0.cell _).trans eB;have k2:wa.cell? ⟨w.heap.size,2+k*3+2,none⟩=some (.slice aM nM cM):=(hh0.cell _).trans eM;have k3:wd.cell? ⟨w.heap.size,0,none⟩=some (.slice a0 n0 c0):=(hhd.cell _).trans e0;have k4:wd.cell? ⟨wa.heap.size,1,none⟩=some (.slice aB nB cB):=by rw[←hwd];exact World.cell?_alloc_at _ _ _ _ rfl
 have k5:wd.cell? ⟨wa.heap.size,2,none⟩=some (.slice aM nM cM):=by rw[←hwd];exact World.cell?_alloc_at _ _ _ _ rfl
 have hki:(k:Int)<3:=by omega
 have hkz:(0:Int)≤(k:Int):=by omega
 have hh:wd.heap[wb.heap.size]?=some (.cells #[.int .i64 0, .int .i64 0] 39 (0,0)):=by
  rw[←hwd,heap_alloc_old (r:=wb.heap.size) wa _ (by rw[←hwa];simp),←hwa];exact heap_alloc_new _ _
 rw[hwa,hwd]at hb2;have HBd:=Zhd hb2
 have HP1:Hid (∀ W,Below wd.heap.size wd W→W.cell? ⟨wb.heap.size,0,none⟩=some (.int .i64 0)∧W.cell? ⟨wb.heap.size,1,none⟩=some (.int .i64 0)∧ ∀ j,W.frozen? ⟨wb.heap.size,j,none⟩=false):=fun W hb=>by
  have h:=(hb.block _ hp1).trans hh;exact⟨by rw[cell_of_row W _ _ _ _ (0,0) h];rfl,by rw[cell_of_row W _ _ _ _ (0,0) h];rfl,fun j=>frozen_of_row W _ j _ _ h⟩
 have hwbs:w.heap.size≤wb.heap.size:=hbb.size;have HM:=Zhd (Zaer (.slice aB nB cB) (.slice aM nM cM) (.slice a0 n0 c0) (S.ses k).base (S.ses k).mine S.run wd (gB.below hb2) (gM.below hb2) (g0.below hb2) h1 h2 h3);obtain⟨m,hm⟩: ∃ m,Zdw (S.ses k).base (S.ses k).mine S.run=m:=⟨_,rfl⟩;obtain⟨T,nbad,er⟩:=m;rw[hm]at HM;unfold Zazz at HM;simp only at HM
 have hTr:er=0→Zab T=true:=fun h0=>by
  have:=(Znv h1 h2 h3 (by rw[hm];exact h0)).1
  rwa [hm]at this
 obtain⟨z,hz⟩: ∃ z,Zba (S.ses k).base (S.ses k).mine S.run=z:=⟨_,rfl⟩;have HZ1:=Zhd (fun h=>hz.symm.trans (Zbht hm h))
 have HZ2:=Zhd (fun(h:er=0) X e2 (h2:Zdx T=(X,e2)) h3=>hz.symm.trans (Zbhu (by rw[hm,h]) h2 h3))
 have HZ3:=Zhd (fun(h:er=0) X (h2:Zdx T=(X,0)) h3=>hz.symm.trans (Zbhv (by rw[hm,h]) h2 h3))
 have HZ4:=Zhd (fun(h:er=0) X (h2:Zdx T=(X,0)) h3 h4=>hz.symm.trans (Zbhw (by rw[hm,h]) h2 h3 h4))
 have HZ5:=Zhd (fun(h:er=0) X (h2:Zdx T=(X,0)) h3 h4=>hz.symm.trans (Zbgb (by rw[hm,h]) h2 h3 h4))
 have HE:=Zhd hE;rw[hz];clear hz hm hh hh0 hhd hb1 hb2 hbb hp1 hp0 hpa g0 gB gM h1 h2 h3 hE hP eB eM e0;go_enter func23,ntmps23;go_wp2_with fail;refine HM.out.mono ?_;rintro e w1 ⟨⟨v1,A1,d1,rfl,hl1⟩,hb1⟩;have HB1:=Zhd hb1;have HL1:=Zhd hl1;clear hb1 hl1 HM;by_cases he:er=0
 · subst he;have q00:((0:Int)!=0)=false:=rfl;have HEx:=Zhd (Zajy v1 T w1 HL1.out (hTr rfl));obtain⟨x,hx⟩: ∃ x,Zdx T=x:=⟨_,rfl⟩;obtain⟨X,e2⟩:=x;rw[hx]at HEx;unfold Zif at HEx;simp only at HEx;go_wp2_with fail;refine HEx.out.mono ?_;rintro e w2 ⟨⟨v2,rfl,hl2⟩,hb2⟩;have HB2:=Zhd (Zaa HB1.out hb2);have HL2:=Zhd (HL1.out.below hb2);obtain⟨A2,d2,e3,f1,f2,f3,-⟩:=hl2;subst e3;by_cases he2:e2=0
   · subst he2;have HCk:=Zhd (Zane A2 d2 X w2 (HE.out.below (Zaa HBd.out HB2.out)) f3 f1 f2);clear hb2 f3 HEx HL1 HB1 HZ1 HZ2;go_wp2_with fail;refine HCk.out.mono ?_;rintro e w3 ⟨⟨hr,v3,rfl,hp3⟩|⟨hr,rfl⟩,hb3⟩
     · obtain⟨vs,-,hrow⟩:=hp3.2.2;obtain⟨A3,d3,e4,-,-,-⟩:=Zbj hrow;subst e4;have hln:((Zhx X).map Zer).length=(Zhx X).length:=Yay ..;obtain⟨nf,hnf⟩: ∃ nf,(Zhx X).length=nf:=⟨_,rfl⟩;rw[hln,hnf];have HB3:=Zhd (Zaa HB2.out hb3);have HL3:=Zhd (HL2.out.below hb3);have hp:=HP1.out w3 HB3.out;obtain⟨x0,x1,xf⟩:=hp;by_cases hpos:0<nf
       · have HK:=Zhd (HZ4.out trivial X hx hr (by rw[hnf];exact hpos))
         rw[hnf]at HK;have hpI:(0:Int)<(nf:Int):=by omega
         have HB4:=Zhd (((Zaa HBd.out HB3.out).setCell (p:=⟨wb.heap.size,0,none⟩) hwbs (.int .i64 7)).setCell (p:=⟨wb.heap.size,1,none⟩) hwbs (.int .i64 (nf:Int)));clear hb3 hp3 hrow hln hnf hr hx HZ3 HZ4 HZ5 hpos HCk;go_wp2_with fail;refine bodyPost_ret (v:= .tuple #[.slice none 0 0, .agg #[.int .i64 7, .int .i64 (nf:Int)]]) (by simp[results,results23,go_sem, *]) rfl ?_
         unfold Zeu;rw[HK.out];exact⟨⟨_,rfl,Zdr _⟩,HB4.out⟩
       · have HK:=Zhd (HZ5.out trivial X hx hr (by rw[hnf];exact hpos))
         have hpI: ¬ (0:Int)<(nf:Int):=by omega
         have hbc:=((Zaa HBd.out HB3.out).setCell (p:=⟨wb.heap.size,0,none⟩) hwbs (.int .i64 0)).setCell (p:=⟨wb.heap.size,1,none⟩) hwbs (.int .i64 0);have hbc3:=((Yag w3.heap.size w3).mono (Yas _));have HB4:=Zhd hbc;obtain⟨A1',d1',e5,k1',k2',k3',k4'⟩:=HL3.out
         have HL4:Hid (Lr ((w3.setCell ⟨wb.heap.size,0,none⟩ (.int .i64 0)).setCell ⟨wb.heap.size,1,none⟩ (.int .i64 0)) v1 T):=by
          refine⟨A1',d1',e5,k1',k2', ?_,k4'⟩;have hq:=HP1.out w3 HB3.out;exact Zbdk k3' (by simp) (fun p u hu=>Zajj hq.1 hq.2.1 hu)
         clear hb3 hp3 hrow hln hnf hr hx HZ3 HZ4 HZ5 hpos HCk hbc hbc3 k3';subst e5;go_wp2_with fail;refine bodyPost_ret (v:= .tuple #[.slice A1' T.length d1', .agg #[.int .i64 0, .int .i64 0]]) (by simp[results,results23,go_sem, *]) rfl ?_
         unfold Zeu;rw[HK.out];exact⟨⟨_,rfl,HL4.out⟩,HB4.out⟩
     · have HK:=Zhd (HZ3.out trivial X hx hr);have HB3:=Zhd (Zaa HB2.out hb3);have hp:=HP1.out w3 HB3.out;obtain⟨x0,x1,xf⟩:=hp;have HB4:=Zhd (((Zaa HBd.out HB3.out).setCell (p:=⟨wb.heap.size,0,none⟩) hwbs (.int .i64 1)).setCell (p:=⟨wb.heap.size,1,none⟩) hwbs (.int .i64 0));clear hb3 hr hx HZ3 HZ4 HZ5 HCk;go_wp2_with fail;refine bodyPost_ret (v:= .tuple #[.slice none 0 0, .agg #[.int .i64 1, .int .i64 0]]) (by simp[results,results23,go_sem, *]) rfl ?_
       unfold Zeu;rw[HK.out];exact⟨⟨_,rfl,Zdr _⟩,HB4.out⟩
   · have HK:=Zhd (HZ2.out trivial X e2 hx he2);have qe:(e2 !=0)=true:=by rw[bne_iff_ne];exact he2
     have hp:=HP1.out w2 HB2.out;obtain⟨x0,x1,xf⟩:=hp;have HB4:=Zhd (((Zaa HBd.out HB2.out).setCell (p:=⟨wb.heap.size,0,none⟩) hwbs (.int .i64 e2)).setCell (p:=⟨wb.heap.size,1,none⟩) hwbs (.int .i64 0));clear hb2 f3 hx HZ1 HZ2 HZ3 HZ4 HZ5 HEx;go_wp2_with fail;refine bodyPost_ret (v:= .tuple #[.slice none 0 0, .agg #[.int .i64 e2, .int .i64 0]]) (by simp[results,results23,go_sem, *]) rfl ?_
     unfold Zeu;rw[HK.out];exact⟨⟨_,rfl,Zdr _⟩,HB4.out⟩
 · have HK:=Zhd (HZ1.out he);have qe:(er !=0)=true:=by rw[bne_iff_ne];exact he
   have hp:=HP1.out w1 HB1.out;obtain⟨x0,x1,xf⟩:=hp;have HB4:=Zhd (((Zaa HBd.out HB1.out).setCell (p:=⟨wb.heap.size,0,none⟩) hwbs (.int .i64 er)).setCell (p:=⟨wb.heap.size,1,none⟩) hwbs (.int .i64 (nbad:Int)));clear HZ1 HZ2 HZ3 HZ4 HZ5;go_wp2_with fail;refine bodyPost_ret (v:= .tuple #[.slice none 0 0, .agg #[.int .i64 er, .int .i64 (nbad:Int)]]) (by simp[results,results23,go_sem, *]) rfl ?_
   unfold Zeu;rw[HK.out];exact⟨⟨_,rfl,Zdr _⟩,HB4.out⟩
theorem Zos (C:Array Value) (S:Ps) (w:World) (hP:PlC w C S) (h5:S.revs.length≤5):Calls prog 18 #[.agg C] w fun e w'=>e= .returned (.int .i64 (Zbl S))∧Below w.heap.size w w':=Zbco hP.plR h5
theorem Zabt (C:Array Value) (S:Ps) (At:Option Addr) (ct:Nat) (T:List Line) (w:World) (hP:PlC w C S) (hT:Lr w (.slice At T.length ct) T) (h5:S.revs.length≤5) (hl:0≤Zbl S∧Zbl S≤1000000000):
 Calls prog 30 #[.agg C, .slice At T.length ct] w fun e w'=>(∃ C',e= .returned (.agg C')∧PlC w' C' (Zej S T)∧ ∀ A n c,C'[1]?=some (.slice A n c)→ ∀ a,A=some a→w.heap.size≤a.block)∧Below w.heap.size w w':=by
 obtain⟨a0,ar,a1,a2,a3,a4,a5,a6,ab,n0,nr,n1,n2,n3,n4,n5,n6,nb,c0,cr,c1,c2,c3,c4,c5,c6,cb,e,g0,gr,g1,g2,g3,g4,g5,g6,gb⟩:=hP.plR;injection e with e
 subst e;refine(Zbcr S a0 ar a1 a2 a3 a4 a5 a6 ab n0 nr n1 n2 n3 n4 n5 n6 nb c0 cr c1 c2 c3 c4 c5 c6 cb At ct T w gr hT h5 hl).mono ?_;rintro e w' ⟨⟨q,o,nq,cq,rfl,hq,hr⟩,hb⟩
 have hR:PlR w' (.agg (plv At (some ⟨q,o,none⟩) a1 a2 a3 a4 a5 a6 ab T.length nq n1 n2 n3 n4 n5 n6 nb ct cq c1 c2 c3 c4 c5 c6 cb S.s0.opn S.s1.opn S.s2.opn S.lock S.clock S.dead)) (Zej S T):=
  ⟨At,some ⟨q,o,none⟩,a1,a2,a3,a4,a5,a6,ab,T.length,nq,n1,n2,n3,n4,n5,n6,nb,ct,cq,c1,c2,c3,c4,c5,c6,cb,rfl,hT.below hb,hr,g1.below hb,g2.below hb,g3.below hb,g4.below hb,g5.below hb,g6.below hb,gb.below hb⟩
 obtain⟨C',e,hC⟩:=hR.cells;injection e with e
 subst e;refine⟨⟨_,rfl,hC,fun A n c h a e=> ?_⟩,hb⟩
 have h':some (Value.slice (some ⟨q,o,none⟩) nq cq)=some (.slice A n c):=h;injection h' with h'
 injection h' with h1
 rw[e]at h1;injection h1 with h1
 rw[←h1];exact hq
theorem PlC.setDead {w:World} {C:Array Value} {S:Ps} (h:PlC w C S) (l:Int):PlC w (C.setIfInBounds 13 (.int .i64 l)) {S with dead:=l}:=by
 have hs:=h.size
 have g: ∀ j,(C.setIfInBounds 13 (.int .i64 l))[j]?=if j=13 then some (.int .i64 l)else C[j]?:=fun j=>by
  rw[Ycx];by_cases e:j=13
  · rw[Yam e.symm,Yam (by omega),Yam e]
  · rw[Yab (Ne.symm e),Yab e]
 refine⟨by simp[hs], ?_, ?_,fun j hj=> ?_,fun j hj=> ?_,fun j hj=> ?_, ?_, ?_, ?_, ?_⟩
 · rw[g,Yab (by omega)];exact h.run
 · rw[g,Yab (by omega)];exact h.revs
 · rw[g,Yab (by omega)];exact h.opn j hj
 · rw[g,Yab (by omega)];exact h.base j hj
 · rw[g,Yab (by omega)];exact h.mine j hj
 · rw[g,Yab (by omega)];exact h.lock
 · rw[g,Yab (by omega)];exact h.clock
 · rw[g,Yam rfl]
 · rw[g,Yab (by omega)];exact h.back
theorem PlC.setBack {w:World} {C:Array Value} {S:Ps} (h:PlC w C S) (v:Value) (B:List Line) (hB:Lr w v B):PlC w (C.setIfInBounds 14 v) {S with back:=B}:=by
 have hs:=h.size
 have g: ∀ j,(C.setIfInBounds 14 v)[j]?=if j=14 then some v else C[j]?:=fun j=>by
  rw[Ycx];by_cases e:j=14
  · rw[Yam e.symm,Yam (by omega),Yam e]
  · rw[Yab (Ne.symm e),Yab e]
 refine⟨by simp[hs], ?_, ?_,fun j hj=> ?_,fun j hj=> ?_,fun j hj=> ?_, ?_, ?_, ?_, ?_⟩
 · rw[g,Yab (by omega)];exact h.run
 · rw[g,Yab (by omega)];exact h.revs
 · rw[g,Yab (by omega)];exact h.opn j hj
 · rw[g,Yab (by omega)];exact h.base j hj
 · rw[g,Yab (by omega)];exact h.mine j hj
 · rw[g,Yab (by omega)];exact h.lock
 · rw[g,Yab (by omega)];exact h.clock
 · rw[g,Yab (by omega)];exact h.dead
 · rw[g,Yam rfl];exact⟨_,rfl,hB⟩
end Go.Proofs.Zq
namespace Edt
open Go Go.Lib Tre Sch Lns
def Zkl (S:Ps) (n:Int) (was:List Line):Ps:=
 if n=0 then {S with dead:=0,back:= []}else if S.dead=0 then {S with dead:=S.clock+n,back:=was}else {S with dead:=S.clock+n}
theorem Zath (S:Ps) (n:Int) (was:List Line):(Zkl S n was).revs=S.revs:=by
 unfold Zkl;split
 · rfl
 · split<;>rfl
end Edt
namespace Go.Proofs.Zq
open Tryz
open Go Go.RowKit Go.Sort Tre Lx Prs Lns Edt Sch
def Zez (S:Ps) (k:Nat) (n:Int):Ps×Int×Int:=
 if n<0∨65535<n then(S,1,0)
 else let c:=Zba (S.ses k).base (S.ses k).mine S.run
 if c.2.1≠0 then(S,c.2.1,c.2.2)
 else if n=0∧S.dead=0∧eqL c.1 S.run=true then(S.setSes k ⟨true,c.1,c.1⟩,0,0)
 else(Zej (Zkl (S.setSes k ⟨true,c.1,c.1⟩) n S.run) c.1,0,Zbl (Zej (Zkl (S.setSes k ⟨true,c.1,c.1⟩) n S.run) c.1))
theorem Zajo (C:Array Value) (S:Ps) (kind:Int) (k:Nat) (vp:Value) (wd:ByteArray) (bt nn:Int) (tx:ByteArray) (w:World) (hP:PlC w C S) (hk:k<3) (hvp:vp.oneCell'=true) (hE:Env w)
 (h1:Zab (S.ses k).base=true) (h2:Zab (S.ses k).mine=true) (h3:Zab S.run=true) (hck:0≤S.clock∧S.clock≤2147483647) (h5:S.revs.length≤5) (hl:0≤Zbl S∧Zbl S≤1000000000):
 Calls prog 24 #[.agg C, .agg #[.int .i64 kind, .int .i64 (k:Int),vp, .string wd, .int .i64 bt, .int .i64 nn, .string tx]] w (Zef (Zez S k nn) w):=by
 have hcs:=hP.size;obtain⟨wp,hwp⟩: ∃ wp,w.alloc (.cells C 32)=wp:=⟨_,rfl⟩;obtain⟨wo,hwo⟩: ∃ wo,wp.alloc (.cells #[.int .i64 kind, .int .i64 (k:Int),vp, .string wd, .int .i64 bt, .int .i64 nn, .string tx] 36)=wo:=⟨_,rfl⟩;obtain⟨wq,hwq⟩: ∃ wq,wo.alloc (.cells #[.slice none 0 0, .slice none 0 0, .bool false, .slice none 0 0, .slice none 0 0, .bool false, .slice none 0 0, .slice none 0 0, .bool false, .slice none 0 0, .slice none 0 0, .int .i64 0, .int .i64 0, .int .i64 0, .slice none 0 0] 32)=wq:=⟨_,rfl⟩;obtain⟨wr,hwr⟩: ∃ wr,wq.alloc (.cells #[.int .i64 0, .int .i64 0] 39)=wr:=⟨_,rfl⟩;have hs1:w.heap.size<wp.heap.size:=by rw[←hwp];simp
 have hs2:wp.heap.size<wo.heap.size:=by rw[←hwo];simp
 have hs3:wo.heap.size<wq.heap.size:=by rw[←hwq];simp
 have hs4:wq.heap.size<wr.heap.size:=by rw[←hwr];simp
 have Bp:Bl wr w.heap.size C 32:=by rw[←hwr,←hwq,←hwo,←hwp];exact(((Bl.new _ _ _).alloc _).alloc _).alloc _
 have Bo:Bl wr wp.heap.size #[.int .i64 kind, .int .i64 (k:Int),vp, .string wd, .int .i64 bt, .int .i64 nn, .string tx] 36:=by rw[←hwr,←hwq,←hwo];exact((Bl.new _ _ _).alloc _).alloc _
 have Bq:Bl wr wo.heap.size #[.slice none 0 0, .slice none 0 0, .bool false, .slice none 0 0, .slice none 0 0, .bool false, .slice none 0 0, .slice none 0 0, .bool false, .slice none 0 0, .slice none 0 0, .int .i64 0, .int .i64 0, .int .i64 0, .slice none 0 0] 32:=by rw[←hwr,←hwq];exact(Bl.new _ _ _).alloc _
 have Br:Bl wr wq.heap.size #[.int .i64 0, .int .i64 0] 39:=by rw[←hwr];exact Bl.new _ _ _
 have HBs:Hid (Below w.heap.size w wr):=by
  show Below _ _ _;rw[←hwr,←hwq,←hwo,←hwp];refine Below.alloc (Below.alloc (Below.alloc (Below.alloc (Yag _ _) (Yaf _) _) ?_ _) ?_ _) ?_ _<;>simp<;>omega
 have HP:Hid (∀ W,Below w.heap.size w W→PlC W C S):=fun W hb=>hP.below hb
 have HC:=Zhd (Zsr C S k wr (hE.below HBs.out) (HP.out _ HBs.out) hk h1 h2 h3);have hne:wq.heap.size≠wo.heap.size:=by omega
 have hge1:w.heap.size≤wo.heap.size:=by omega
 have hge2:w.heap.size≤wq.heap.size:=by omega
 have hn1:wo.heap.size≠w.heap.size:=by omega
 have hn2:wq.heap.size≠w.heap.size:=by omega
 have hn3:wp.heap.size≠w.heap.size:=by omega
 have ox1:wr.cell? ⟨wp.heap.size,1,none⟩=some (.int .i64 (k:Int)):=(Bo.cell _).trans rfl;have ox5:wr.cell? ⟨wp.heap.size,5,none⟩=some (.int .i64 nn):=(Bo.cell _).trans rfl;have hki:(k:Int)<3:=by omega
 have hk0:(0:Int)≤(k:Int):=by omega
 obtain⟨z,hz0⟩: ∃ z,Zez S k nn=z:=⟨_,rfl⟩;rw[hz0];have hz:=Zhd hz0;clear hz0 hE h1 h2 h3;by_cases hn0:nn<0
 · have HZ:Hid (z=(S,1,0)):=by
    show z=_;rw[←hz.out];unfold Zez;rw[Yam (.inl hn0)]
   go_enter func24,ntmps24;go_upto_region 2 with fail
   have hpc: ∀ W,Below w.heap.size w W→PlC W C S:=fun W hb'=>HP.out W hb'
   refine Zbo (C:=C) (R:= #[.int .i64 1, .int .i64 0]) Bp (hpc _ HBs.out).size (hpc _ HBs.out).one Bq rfl Br rfl rfl rfl hne (by rfl) (by go_simp) (by rfl) (by rfl) (by rfl) (by rfl) ?_
   intro W' _ _ hbw hq' hr';have hb':=hbw w.heap.size hge1 hge2 HBs.out;have hpw:=hpc _ hb';try simp only[Act.put,Yaa,Yac,Yad]
   go_wp2_with fail;refine bodyPost_ret (Zdj results24 (by rfl) (by rfl) hq' hpw.size hr' rfl) rfl ?_
   unfold Zef;rw[HZ.out];exact⟨⟨_,rfl,hpw.plR⟩,hb'⟩
 by_cases hb1:65535<nn
 · have HZ:Hid (z=(S,1,0)):=by
    show z=_;rw[←hz.out];unfold Zez;rw[Yam (.inr hb1)]
   go_enter func24,ntmps24;go_upto_region 2 with fail
   have hpc: ∀ W,Below w.heap.size w W→PlC W C S:=fun W hb'=>HP.out W hb'
   refine Zbo (C:=C) (R:= #[.int .i64 1, .int .i64 0]) Bp (hpc _ HBs.out).size (hpc _ HBs.out).one Bq rfl Br rfl rfl rfl hne (by rfl) (by go_simp) (by rfl) (by rfl) (by rfl) (by rfl) ?_
   intro W' _ _ hbw hq' hr';have hb':=hbw w.heap.size hge1 hge2 HBs.out;have hpw:=hpc _ hb';try simp only[Act.put,Yaa,Yac,Yad]
   go_wp2_with fail;refine bodyPost_ret (Zdj results24 (by rfl) (by rfl) hq' hpw.size hr' rfl) rfl ?_
   unfold Zef;rw[HZ.out];exact⟨⟨_,rfl,hpw.plR⟩,hb'⟩
 have hnb: ¬ (nn<0∨65535<nn):=fun h=>h.elim hn0 hb1
 have HNB:=Zhd hnb;clear hnb;go_enter func24,ntmps24;go_upto_region 3 with fail
 refine wp_region_lit ?_;refine wpList_load_mid rfl 32 _ rfl w.heap.size 0 (by rfl) C.toList _ Bp.range underlying32 rfl (by rw[Yau,hcs];exact Zam) ?_
 rw[show C.toList.toArray=C from rfl];try simp only[Act.put,Yaa,Yac,Yad]
 go_wp2_with fail;go_at_call 23;refine HC.out.mono ?_;unfold Zeu;rintro e w5 ⟨⟨v5,rfl,hl5⟩,hb5⟩;obtain⟨ck,hck0⟩: ∃ ck,Zba (S.ses k).base (S.ses k).mine S.run=ck:=⟨_,rfl⟩;have HCK:=Zhd hck0;rw[hck0]at hl5⊢;clear hck0 HC;obtain⟨T,er,cn⟩:=ck;obtain⟨At,ct,rfl,-⟩:=id hl5;have hb5w:=Zaa HBs.out hb5;have hlt5:wr.heap.size≤w5.heap.size:=hb5.size;obtain⟨w6,hw6⟩: ∃ x,w5.alloc (.cells #[.int .i64 er, .int .i64 cn] 39)=x:=⟨_,rfl⟩;have B6p:Bl w6 w.heap.size C 32:=by rw[←hw6];exact(Bp.below hb5).alloc _
 have B6o:Bl w6 wp.heap.size #[.int .i64 kind, .int .i64 (k:Int),vp, .string wd, .int .i64 bt, .int .i64 nn, .string tx] 36:=by rw[←hw6];exact(Bo.below hb5).alloc _
 have B6q:Bl w6 wo.heap.size #[.slice none 0 0, .slice none 0 0, .bool false, .slice none 0 0, .slice none 0 0, .bool false, .slice none 0 0, .slice none 0 0, .bool false, .slice none 0 0, .slice none 0 0, .int .i64 0, .int .i64 0, .int .i64 0, .slice none 0 0] 32:=by rw[←hw6];exact(Bq.below hb5).alloc _
 have B6r:Bl w6 wq.heap.size #[.int .i64 0, .int .i64 0] 39:=by rw[←hw6];exact(Br.below hb5).alloc _
 have B6s:Bl w6 w5.heap.size #[.int .i64 er, .int .i64 cn] 39:=by rw[←hw6];exact Bl.new _ _ _
 have HB6:Hid (Below w.heap.size w w6):=by show Below _ _ _;rw[←hw6];exact hb5w.alloc hb5w.size _
 have HL6:Hid (Lr w6 (.slice At T.length ct) T):=by
  show Lr _ _ _;rw[←hw6];exact hl5.below ((Yag _ _).alloc (Yaf _) _)
 have hns:w5.heap.size≠w.heap.size:=by omega
 clear hl5 hb5 Bp Bo Bq Br;have x0:w6.cell? ⟨w5.heap.size,0,none⟩=some (.int .i64 er):=(B6s.cell _).trans rfl;replace ox1:w6.cell? ⟨wp.heap.size,1,none⟩=some (.int .i64 (k:Int)):=(B6o.cell _).trans rfl;replace ox5:w6.cell? ⟨wp.heap.size,5,none⟩=some (.int .i64 nn):=(B6o.cell _).trans rfl;by_cases he:er≠0
 · have he1:(er !=0)=true:=by rw[bne_iff_ne];exact he
   have HZ:Hid (z=(S,er,cn)):=by
    show z=_;rw[←hz.out];unfold Zez;rw[Yab HNB.out,HCK.out,Yam he]
   clear he;go_upto_region 5 with fail
   refine wp_region_noPanic ?_;refine wp_region_held_drew (S:=fun W=>Bl W w.heap.size C 32∧Bl W w5.heap.size #[.int .i64 er, .int .i64 cn] 39) (by kernel_rfl) ⟨B6p,B6s⟩ (fun hHeld=> ?_)
   refine wpAnyH_take (i:=0) (oi:={dst:=some 29,op:= .load 32 (.tmp 2),type:=32,pos:= "plane.go:131",after:= #[],guard:=none}) (v:= .agg C) rfl (by kernel_rfl) (by kernel_rfl) (by kernel_rfl) (fun _ _ _ h=>h) (yieldsIf_load_mid (by rfl) 32 _ rfl w.heap.size 0 rfl C.toList _ (fun W h=>h.1.range) underlying32 rfl (by rw[Yau,hcs];exact Zam)) hHeld ?_
   try simp only[Act.put,Yaa,Yac,Yad]
   refine wpAnyH_take (i:=1) (oi:={dst:=some 30,op:= .load 39 (.tmp 7),type:=39,pos:= "plane.go:131",after:= #[{on:=2,ground:= .gcOnly .lateStores}],guard:=none}) (v:= .agg #[.int .i64 er, .int .i64 cn]) rfl (by kernel_rfl) (by kernel_rfl) (by kernel_rfl) (fun _ _ _ h=>h) (yieldsIf_load_mid (by rfl) 39 _ rfl w5.heap.size 0 rfl (#[.int .i64 er, .int .i64 cn]:Array Value).toList _ (fun W h=>h.2.range) underlying39 rfl Zcq) hHeld ?_
   try simp only[Act.put,Yaa,Yac,Yad]
   refine wpAnyH_ready (rs:= [2]) (by kernel_rfl) (by simp) ?_
   refine AllReadyH.cons rfl (fun K hK=> ?_) AllReadyH.nil
   refine Zio (C:= #[.slice none 0 0, .slice none 0 0, .bool false, .slice none 0 0, .slice none 0 0, .bool false, .slice none 0 0, .slice none 0 0, .bool false, .slice none 0 0, .slice none 0 0, .int .i64 0, .int .i64 0, .int .i64 0, .slice none 0 0]) (D:=C) 32 rfl _ _ rfl wo.heap.size (show Bl w6.drew _ _ _ from B6q.drew) hcs.symm (by rfl) (by rfl) (by rw[hcs];exact Zam) (HP.out _ HB6.out).one ?_
   intro w7 hw7;have B7p:=B6p.drew.others (o:=0) hn1.symm C.toList;rw[hw7]at B7p;have B7q:=B6q.drew.sets (D:=C) hcs;rw[hw7]at B7q;have B7r:=B6r.drew.others (o:=0) hne C.toList;rw[hw7]at B7r;have B7s:=B6s.drew.others (o:=0) (show w5.heap.size≠wo.heap.size by omega) C.toList
   rw[hw7]at B7s;have HB7:=Zhd (Zap hge1 C.toList 0 HB6.out.drew);rw[hw7]at HB7;refine hK.out _ _ ⟨B7p,B7s⟩ (fun _=> ?_)
   clear hK K hw7;try simp only[Act.put,Yaa,Yac,Yad]
   refine wpAnyH_ready (rs:= [3]) (by kernel_rfl) (by simp) ?_
   refine AllReadyH.cons rfl (fun K hK=> ?_) AllReadyH.nil
   refine Zio (C:= #[.int .i64 0, .int .i64 0]) (D:= #[.int .i64 er, .int .i64 cn]) 39 rfl _ _ rfl wq.heap.size B7r rfl (by rfl) (by rfl) Zcq (by rfl) ?_
   intro w8 hw8;have B8p:=B7p.others (o:=0) hn2.symm (#[.int .i64 er, .int .i64 cn]:Array Value).toList;rw[hw8]at B8p;have B8q:=B7q.others (o:=0) hne.symm (#[.int .i64 er, .int .i64 cn]:Array Value).toList;rw[hw8]at B8q;have B8r:=B7r.sets (D:= #[.int .i64 er, .int .i64 cn]) rfl;rw[hw8]at B8r;have B8s:=B7s.others (o:=0) (show w5.heap.size≠wq.heap.size by omega) (#[.int .i64 er, .int .i64 cn]:Array Value).toList
   rw[hw8]at B8s;have HB8:=Zhd (Zap hge2 (#[.int .i64 er, .int .i64 cn]:Array Value).toList 0 HB7.out);rw[hw8]at HB8;refine hK.out _ _ ⟨B8p,B8s⟩ (fun _=> ?_)
   clear hK K hw8;try simp only[Act.put,Yaa,Yac,Yad]
   refine wpAnyH_done (by kernel_rfl) ?_ _
   refine NoPanic.normal ?_;go_wp2_with fail;refine bodyPost_ret (Zdj results24 (by rfl) (by rfl) B8q hcs B8r rfl) rfl ?_
   unfold Zef;rw[HZ.out];exact⟨⟨_,rfl,(HP.out _ HB8.out).plR⟩,HB8.out⟩
 obtain rfl:er=0:=Decidable.not_not.1 he;clear he;obtain⟨v0,ev0,hr0⟩:=hP.run;obtain⟨A0,c0,rfl,-⟩:=id hr0;have px0:w6.cell? ⟨w.heap.size,0,none⟩=some (.slice A0 S.run.length c0):=(B6p.cell _).trans ev0;have px1:w6.cell? ⟨w.heap.size,2+k*3,none⟩=some (.bool (S.ses k).opn):=(B6p.cell _).trans (hP.opn k hk);obtain⟨v1,ev1,hb1⟩:=hP.base k hk;obtain⟨v2,ev2,hm1⟩:=hP.mine k hk;obtain⟨A1,n1,c1,rfl⟩:=hb1.slice;obtain⟨A2,n2,c2,rfl⟩:=hm1.slice;have px2:w6.cell? ⟨w.heap.size,2+k*3+1,none⟩=some (.slice A1 n1 c1):=(B6p.cell _).trans ev1;have px3:w6.cell? ⟨w.heap.size,2+k*3+2,none⟩=some (.slice A2 n2 c2):=(B6p.cell _).trans ev2;have pf: ∀ j,w6.frozen? ⟨w.heap.size,j,none⟩=false:=B6p.froz;clear ev1 ev2 hb1 hm1;obtain⟨w7,hw7⟩: ∃ x,((w6.setCell ⟨w.heap.size,2+k*3,none⟩ (.bool true)).setCell ⟨w.heap.size,2+k*3+1,none⟩ (.slice At T.length ct)).setCell ⟨w.heap.size,2+k*3+2,none⟩ (.slice At T.length ct)=x:=⟨_,rfl⟩;have B7p:Bl w7 w.heap.size (((C.setIfInBounds (2+k*3) (.bool true)).setIfInBounds (2+k*3+1) (.slice At T.length ct)).setIfInBounds (2+k*3+2) (.slice At T.length ct)) 32:=by rw[←hw7];exact((B6p.set _ _).set _ _).set _ _
 have B7o:Bl w7 wp.heap.size #[.int .i64 kind, .int .i64 (k:Int),vp, .string wd, .int .i64 bt, .int .i64 nn, .string tx] 36:=by rw[←hw7];exact(((B6o.other hn3 _).other hn3 _).other hn3 _)
 have B7q:Bl w7 wo.heap.size #[.slice none 0 0, .slice none 0 0, .bool false, .slice none 0 0, .slice none 0 0, .bool false, .slice none 0 0, .slice none 0 0, .bool false, .slice none 0 0, .slice none 0 0, .int .i64 0, .int .i64 0, .int .i64 0, .slice none 0 0] 32:=by rw[←hw7];exact(((B6q.other hn1 _).other hn1 _).other hn1 _)
 have B7r:Bl w7 wq.heap.size #[.int .i64 0, .int .i64 0] 39:=by rw[←hw7];exact(((B6r.other hn2 _).other hn2 _).other hn2 _)
 have HB7:Hid (Below w.heap.size w w7):=by show Below _ _ _;rw[←hw7];exact(((HB6.out.setCell (p:=⟨_,_,none⟩) (Yaf _) _).setCell (p:=⟨_,_,none⟩) (Yaf _) _).setCell (p:=⟨_,_,none⟩) (Yaf _) _)
 have HL7:Hid (Lr w7 (.slice At T.length ct) T):=by show Lr _ _ _;rw[←hw7];exact HL6.out.off B6p (HP.out _ HB6.out).nostr ((((Off.refl _ _).setCell _ _).setCell _ _).setCell _ _)
 have HPC7:=Zhd ((HP.out _ HB7.out).setSes k hk true _ _ T T HL7.out HL7.out);have HR7:=Zhd (hr0.below HB7.out);replace ox5:w7.cell? ⟨wp.heap.size,5,none⟩=some (.int .i64 nn):=(B7o.cell _).trans rfl;have pd:w7.cell? ⟨w.heap.size,13,none⟩=some (.int .i64 S.dead):=((B7p.cell _).trans HPC7.out.dead).trans (by rw[(Zbv S k _).2.2.2.2.1])
 have pc:w7.cell? ⟨w.heap.size,12,none⟩=some (.int .i64 S.clock):=((B7p.cell _).trans HPC7.out.clock).trans (by rw[(Zbv S k _).2.2.2.1])
 have pb: ∃ u,w7.cell? ⟨w.heap.size,14,none⟩=some u:=(let ⟨u,e,_⟩:=HPC7.out.back;⟨u,(B7p.cell _).trans e⟩)
 obtain⟨vb,pb⟩:=pb;have pg: ∀ j,w7.frozen? ⟨w.heap.size,j,none⟩=false:=B7p.froz;have hwc:IntKind.i64.wrap (S.clock+nn)=S.clock+nn:=by rw[IntKind.wrap_i64];omega
 have hrev:(S.setSes k ⟨true,T,T⟩).revs=S.revs:=(Zbv S k _).2.1;have HLT:Hid (∀ W,Off w.heap.size w7 W→Lr W (.slice At T.length ct) T):=fun W ho=>HL7.out.off B7p HPC7.out.nostr ho
 have HE:Hid (Calls prog 34 #[.slice At T.length ct, .slice A0 S.run.length c0] w7 fun e w'=>e= .returned (.bool (eqL T S.run))∧Below w7.heap.size w7 w'):=by
  obtain⟨A3,c3,e3,q1,q2,q3,-⟩:=HL7.out;obtain⟨A4,c4,e4,r1,r2,r3,-⟩:=HR7.out;injection e3 with e3 _ e5
  injection e4 with e4 _ e6
  subst e3 e5 e4 e6;exact Zajx _ _ _ _ T S.run w7 q3 r3 (by omega) (by omega)
 have HBP:Hid (∀ W,Below w.heap.size w W→Lr W (.slice At T.length ct) T→PlC W (((C.setIfInBounds (2+k*3) (.bool true)).setIfInBounds (2+k*3+1) (.slice At T.length ct)).setIfInBounds (2+k*3+2) (.slice At T.length ct)) (S.setSes k ⟨true,T,T⟩)):=fun W hb hl=>(HP.out W hb).setSes k hk true _ _ T T hl hl
 have HRN:Hid (∀ W,Below w.heap.size w W→Lr W (.slice A0 S.run.length c0) S.run):=fun W hb=>hr0.below hb
 have h5w:=Zath (S.setSes k ⟨true,T,T⟩) nn S.run;have hls:Zbl (Zkl (S.setSes k ⟨true,T,T⟩) nn S.run)=Zbl S:=by unfold Zbl;rw[h5w,hrev]
 rw[hrev]at h5w;have H5:=Zhd h5w;have HLS:=Zhd hls;have HHL:=Zhd hl;have HH5:=Zhd h5;clear h5w hls hl h5 hrev;have HO7:=Zhd (Off.refl w.heap.size w7);go_upto_block 0 with fail
 try rw[hw7]
 clear hb5w hw6 hw7 HL6 HB6 HP ev0 hr0 hlt5 B6p B6o B6q B6r B6s x0 px0 px1 px2 px3 pf;go_cut [] (fun wx=> ∃ C',Hid (z=(Zej (Zkl (S.setSes k ⟨true,T,T⟩) nn S.run) T,0,Zbl (Zej (Zkl (S.setSes k ⟨true,T,T⟩) nn S.run) T)))∧Hid (Bl wx w.heap.size C' 32)∧Hid (∀ W,Below w.heap.size w W→Lr W (.slice At T.length ct) T→PlC W C' (Zkl (S.setSes k ⟨true,T,T⟩) nn S.run))∧Hid (Off w.heap.size w7 wx)∧Hid (Below w.heap.size w wx)∧Hid (Bl wx wo.heap.size #[.slice none 0 0, .slice none 0 0, .bool false, .slice none 0 0, .slice none 0 0, .bool false, .slice none 0 0, .slice none 0 0, .bool false, .slice none 0 0, .slice none 0 0, .int .i64 0, .int .i64 0, .int .i64 0, .slice none 0 0] 32)∧Hid (Bl wx wq.heap.size #[.int .i64 0, .int .i64 0] 39))
 case first=>
  have HZM:Hid (¬ (nn=0∧S.dead=0∧eqL T S.run=true)→z=(Zej (Zkl (S.setSes k ⟨true,T,T⟩) nn S.run) T,0,Zbl (Zej (Zkl (S.setSes k ⟨true,T,T⟩) nn S.run) T))):=fun h=>by
   rw[←hz.out];unfold Zez;rw[Yab HNB.out];simp only;rw[HCK.out,Yab (by simp),Yab h]
  by_cases n0:nn=0
  · have hn0:(nn==0)=true:=by rw[n0];rfl
    have HS:Hid (Zkl (S.setSes k ⟨true,T,T⟩) nn S.run={(S.setSes k ⟨true,T,T⟩)with dead:=0,back:= []}):=by show _=_;unfold Zkl;rw[Yam n0]
    by_cases d0:S.dead=0
    · have hd0:(S.dead==0)=true:=by rw[d0];rfl
      cases he:eqL T S.run with
      | true=>
        rw[he]at HE
        have HZ:Hid (z=((S.setSes k ⟨true,T,T⟩),0,0)):=by
         show z=_;rw[←hz.out];unfold Zez;rw[Yab HNB.out];simp only;rw[HCK.out,Yab (by simp)]
         rw[Yam ⟨n0,d0,he⟩]
        clear n0 d0 he;go_wp2_with fail;go_at_call 34;refine HE.out.mono ?_;rintro e w8 ⟨rfl,hb8⟩;have HW8:=Zhd (Zaa HB7.out hb8);have HO8:=Zhd (show Off w.heap.size w7 w8 from Off.below hb8)
        have B8p:=B7p.below hb8;have B8o:=B7o.below hb8;have B8q:=B7q.below hb8;have B8r:=B7r.below hb8;clear hb8;go_upto_region 10 with fail
        have hpc: ∀ W,Below w.heap.size w W→Lr W (.slice At T.length ct) T→PlC W (((C.setIfInBounds (2+k*3) (.bool true)).setIfInBounds (2+k*3+1) (.slice At T.length ct)).setIfInBounds (2+k*3+2) (.slice At T.length ct)) (S.setSes k ⟨true,T,T⟩):=fun W hb' hl'=>HBP.out W hb' hl'
        refine Zbo (C:=(((C.setIfInBounds (2+k*3) (.bool true)).setIfInBounds (2+k*3+1) (.slice At T.length ct)).setIfInBounds (2+k*3+2) (.slice At T.length ct))) (R:= #[.int .i64 0, .int .i64 0]) B8p (hpc _ HW8.out (HLT.out _ HO8.out)).size (hpc _ HW8.out (HLT.out _ HO8.out)).one B8q rfl B8r rfl rfl rfl hne (by rfl) (by go_simp) (by rfl) (by rfl) (by rfl) (by rfl) ?_
        intro W' hf1 hf2 hbw hq' hr';have hb':=hbw w.heap.size hge1 hge2 HW8.out;have hpw:=hpc _ hb' (show Lr W' (.slice At T.length ct) T from((HLT.out _ HO8.out).off B8q rfl hf1).off (B8r.others hne _) rfl hf2)
        try simp only[Act.put,Yaa,Yac,Yad]
        go_wp2_with fail;refine bodyPost_ret (Zdj results24 (by rfl) (by rfl) hq' hpw.size hr' rfl) rfl ?_
        unfold Zef;rw[HZ.out];exact⟨⟨_,rfl,hpw.plR⟩,hb'⟩
      | false=>
        rw[he]at HE;have HZF:=Zhd (HZM.out (fun h=>by rw[he]at h;cases h.2.2))
        clear n0 d0 he;go_wp2_with fail;go_at_call 34;refine HE.out.mono ?_;rintro e w8 ⟨rfl,hb8⟩;have HW8:=Zhd (Zaa HB7.out hb8);have HO8:=Zhd (show Off w.heap.size w7 w8 from Off.below hb8)
        have B8p:=B7p.below hb8;have B8o:=B7o.below hb8;have B8q:=B7q.below hb8;have B8r:=B7r.below hb8;clear hb8;replace ox5:w8.cell? ⟨wp.heap.size,5,none⟩=some (.int .i64 nn):=(B8o.cell _).trans rfl;have hPc:=HBP.out _ HW8.out (HLT.out _ HO8.out);replace pd:w8.cell? ⟨w.heap.size,13,none⟩=some (.int .i64 S.dead):=((B8p.cell _).trans hPc.dead).trans (by rw[(Zbv S k _).2.2.2.2.1])
        replace pb: ∃ u,w8.cell? ⟨w.heap.size,14,none⟩=some u:=(let ⟨u,e,_⟩:=hPc.back;⟨u,(B8p.cell _).trans e⟩)
        obtain⟨vb8,pb⟩:=pb;replace pg: ∀ j,w8.frozen? ⟨w.heap.size,j,none⟩=false:=B8p.froz;clear hPc;go_wp2_with fail;go_meet;exact⟨_,HZF,(B8p.set _ _).set _ _,fun W hb hl=>by rw[HS.out];exact((HBP.out W hb hl).setDead 0).setBack _ [] (Zdr _),(HO8.out.setCell _ _).setCell _ _,(HW8.out.setCell (p:=⟨_,_,none⟩) (Yaf _) _).setCell (p:=⟨_,_,none⟩) (Yaf _) _,(B8q.other hn1 _).other hn1 _,(B8r.other hn2 _).other hn2 _⟩
    · have hd0:(S.dead==0)=false:=by rw[Yak];exact d0
      have HZF:=Zhd (HZM.out (fun h=>d0 h.2.1))
      clear n0 d0;go_wp2_with fail;go_meet;exact⟨_,HZF,(B7p.set _ _).set _ _,fun W hb hl=>by rw[HS.out];exact((HBP.out W hb hl).setDead 0).setBack _ [] (Zdr _),(HO7.out.setCell _ _).setCell _ _,(HB7.out.setCell (p:=⟨_,_,none⟩) (Yaf _) _).setCell (p:=⟨_,_,none⟩) (Yaf _) _,(B7q.other hn1 _).other hn1 _,(B7r.other hn2 _).other hn2 _⟩
  · have hn0:(nn==0)=false:=by rw[Yak];exact n0
    have HZF:=Zhd (HZM.out (fun h=>n0 h.1))
    by_cases d0:S.dead=0
    · have hd0:(S.dead==0)=true:=by rw[d0];rfl
      have HS:Hid (Zkl (S.setSes k ⟨true,T,T⟩) nn S.run={(S.setSes k ⟨true,T,T⟩)with dead:=(S.setSes k ⟨true,T,T⟩).clock+nn,back:=S.run}):=by show _=_;unfold Zkl;rw[Yab n0,Yam ((Zbv S k _).2.2.2.2.1.trans d0)]
      clear n0 d0;go_wp2_with fail;go_meet;exact⟨_,HZF,(B7p.set _ _).set _ _,fun W hb hl=>by rw[HS.out,show(S.setSes k ⟨true,T,T⟩).clock+nn=S.clock+nn by rw[(Zbv S k _).2.2.2.1]];exact((HBP.out W hb hl).setDead (S.clock+nn)).setBack _ S.run (HRN.out W hb),(HO7.out.setCell _ _).setCell _ _,(HB7.out.setCell (p:=⟨_,_,none⟩) (Yaf _) _).setCell (p:=⟨_,_,none⟩) (Yaf _) _,(B7q.other hn1 _).other hn1 _,(B7r.other hn2 _).other hn2 _⟩
    · have hd0:(S.dead==0)=false:=by rw[Yak];exact d0
      have HS:Hid (Zkl (S.setSes k ⟨true,T,T⟩) nn S.run={(S.setSes k ⟨true,T,T⟩)with dead:=(S.setSes k ⟨true,T,T⟩).clock+nn}):=by show _=_;unfold Zkl;rw[Yab n0,Yab (fun h=>d0 ((Zbv S k _).2.2.2.2.1.symm.trans h))]
      clear n0 d0;go_wp2_with fail;go_meet;exact⟨_,HZF,B7p.set _ _,fun W hb hl=>by rw[HS.out,show(S.setSes k ⟨true,T,T⟩).clock+nn=S.clock+nn by rw[(Zbv S k _).2.2.2.1]];exact(HBP.out W hb hl).setDead (S.clock+nn),HO7.out.setCell _ _,HB7.out.setCell (p:=⟨_,_,none⟩) (Yaf _) _,B7q.other hn1 _,B7r.other hn2 _⟩
 clear HE B7p B7o B7q B7r HB7 HL7 HPC7 HR7 ox5 ox1 pd pc pb pg HO7;obtain⟨C',HZ,HB',HPC',HO',HBW,HQ',HR'⟩:=hcut;clear HBP HRN;obtain⟨S',hS'⟩: ∃ S',Zkl (S.setSes k ⟨true,T,T⟩) nn S.run=S':=⟨_,rfl⟩;rw[hS']at HPC' HZ H5 HLS;have hlt:=HLT.out _ HO'.out;have hPC:=HPC'.out _ HBW.out hlt;have hC's:=hPC.size;have HM:=Zhd (Zabt C' S' At ct T _ hPC hlt (by rw[H5.out];exact HH5.out) (by rw[HLS.out];exact HHL.out))
 have h5m:(Zej S' T).revs.length≤5:=by
  show((S'.revs++ [(Zbl S'+1,T)]).drop (S'.revs.length+1-5)).length≤5;rw[Yan,Yae];show S'.revs.length+1-_≤5;omega
 have hB'lt:=HB'.out.lt;have hQ'lt:=HQ'.out.lt;have hR'lt:=HR'.out.lt;clear hS' HLT H5 HLS HH5 HHL;go_upto_region 15 with fail
 refine wp_region_lit ?_;refine wpList_load_mid rfl 32 _ rfl w.heap.size 0 (by rfl) C'.toList _ HB'.out.range underlying32 rfl (by rw[Yau,hC's];exact Zam) ?_
 rw[show C'.toList.toArray=C' from rfl];try simp only[Act.put,Yaa,Yac,Yad]
 go_wp2_with fail;go_at_call 30;refine HM.out.mono ?_;rintro e w9 ⟨⟨C2,rfl,hP2,hA2⟩,hb9⟩;have B9p:=HB'.out.below hb9;have B9q:=HQ'.out.below hb9;have B9r:=HR'.out.below hb9;have HB9:=Zhd (Zaa HBW.out hb9);have hC2:=hP2.size;clear HM hb9;rename_i hKx;refine hKx _ _ ?_;clear hKx;try simp only[Act.put,Yaa,Yac,Yad]
 refine wpList_store_mid rfl 32 _ _ rfl w.heap.size 0 C2 (by rfl) (by rfl) (B9p.there (by omega)) (by rw[hC2];exact Zam) (Ybo.2 fun v hv=>Ybt.1 hP2.one v (by simpa using hv)) ?_
 obtain⟨wA,hwA⟩: ∃ x,w9.setCells w.heap.size 0 C2.toList=x:=⟨_,rfl⟩;rw[hwA];have BAp:Bl wA w.heap.size C2 32:=by rw[←hwA];exact B9p.sets (D:=C2) (by omega)
 have BAq:Bl wA wo.heap.size #[.slice none 0 0, .slice none 0 0, .bool false, .slice none 0 0, .slice none 0 0, .bool false, .slice none 0 0, .slice none 0 0, .bool false, .slice none 0 0, .slice none 0 0, .int .i64 0, .int .i64 0, .int .i64 0, .slice none 0 0] 32:=by rw[←hwA];exact B9q.others hn1 _
 have BAr:Bl wA wq.heap.size #[.int .i64 0, .int .i64 0] 39:=by rw[←hwA];exact B9r.others hn2 _
 have HBA:Hid (Below w.heap.size w wA):=by show Below _ _ _;rw[←hwA];exact Zap (Yaf _) C2.toList 0 HB9.out
 have hPA:PlC wA C2 (Zej S' T):=by
  rw[←hwA];exact hP2.off B9p (by decide) hPC.nostr ((Off.refl _ _).setCells _ 0)
 have HL:=Zhd (fun W (hb:Below wA.heap.size wA W)=>Zos C2 (Zej S' T) W (hPA.below hb) h5m)
 have HPA:Hid (∀ W,Off wo.heap.size wA W→PlC W C2 (Zej S' T)):=fun W ho=>hPA.off BAq (by decide) rfl ho
 have h1C:=hPA.one;obtain⟨ln,hln⟩: ∃ ln,Zbl (Zej S' T)=ln:=⟨_,rfl⟩;rw[hln]at HL HZ;clear hwA B9p B9q B9r HB9 hP2 hA2 hPC HPC' hPA HB' HQ' HR' HBW HO' hlt hln;try simp only[Act.put,Yaa,Yac,Yad]
 go_upto_region 16 with fail
 refine wp_region_noPanic ?_;refine wp_region_held_drew (S:=fun W=>Bl W w.heap.size C2 32) (by kernel_rfl) BAp.drew (fun hHeld=> ?_)
 refine wpAnyH_take (i:=0) (v:= .agg C2) rfl (by kernel_rfl) (by kernel_rfl) (by kernel_rfl) (fun _ _ _ h=>h) (yieldsIf_load_mid (by rfl) 32 _ rfl w.heap.size 0 rfl C2.toList _ (fun W h=>h.range) underlying32 rfl (by rw[Yau,hC2];exact Zam)) hHeld ?_
 try simp only[Act.put,Yaa,Yac,Yad]
 refine wpAnyH_take (i:=1) (v:= .agg C2) rfl (by kernel_rfl) (by kernel_rfl) (by kernel_rfl) (fun _ _ _ h=>h) (yieldsIf_load_mid (by rfl) 32 _ rfl w.heap.size 0 rfl C2.toList _ (fun W h=>h.range) underlying32 rfl (by rw[Yau,hC2];exact Zam)) hHeld ?_
 try simp only[Act.put,Yaa,Yac,Yad]
 refine wpAnyH_ready (rs:= [2]) (by kernel_rfl) (by simp) ?_
 refine AllReadyH.cons rfl (fun K hK=> ?_) AllReadyH.nil
 go_simp;go_at_call 18;refine(HL.out _ (Yag _ _).drew).mono ?_;rintro e w10 ⟨rfl,hb10⟩;have B10p:=BAp.drew.below hb10;have B10q:=BAq.drew.below hb10;have B10r:=BAr.drew.below hb10;have HBx:=Zhd (Zaa (show Below wA.heap.size wA wA.drew from(Yag _ _).drew) hb10)
 have HO10:=Zhd (show Off wo.heap.size wA w10 from Off.below HBx.out)
 have HB10:=Zhd (Zaa HBA.out HBx.out);clear hb10 HL BAp BAq BAr HBx;refine hK.out _ _ B10p (fun _=> ?_)
 clear hK K;try simp only[Act.put,Yaa,Yac,Yad]
 refine wpAnyH_take (i:=3) (oi:={dst:=some 86,op:= .build 39 #[(1, .tmp 85)],type:=39,pos:= "plane.go:146",after:= #[{on:=2,ground:= .data},{on:=4,ground:= .gcOnly .lateStores}],guard:=none}) (v:= .agg #[.int .i64 0, .int .i64 ln]) rfl (by kernel_rfl) (by kernel_rfl) (by kernel_rfl) (fun _ _ _ h=>h) (Or.inl ⟨by rfl, ?_⟩) B10p ?_
 · intro W hW;go_simp
 try simp only[Act.put,Yaa,Yac,Yad]
 refine wpAnyH_ready (rs:= [4]) (by kernel_rfl) (by simp) ?_
 refine AllReadyH.cons rfl (fun K hK=> ?_) AllReadyH.nil
 refine Zio (C:= #[.slice none 0 0, .slice none 0 0, .bool false, .slice none 0 0, .slice none 0 0, .bool false, .slice none 0 0, .slice none 0 0, .bool false, .slice none 0 0, .slice none 0 0, .int .i64 0, .int .i64 0, .int .i64 0, .slice none 0 0]) (D:=C2) 32 rfl _ _ rfl wo.heap.size B10q hC2.symm (by rfl) (by rfl) (by rw[hC2];exact Zam) h1C ?_
 intro w11 hw11;have B11p:=B10p.others (o:=0) hn1.symm C2.toList;rw[hw11]at B11p;have B11q:=B10q.sets (D:=C2) hC2;rw[hw11]at B11q;have B11r:=B10r.others (o:=0) hne C2.toList;rw[hw11]at B11r;have HB11:=Zhd (Zap hge1 C2.toList 0 HB10.out);have HO11:=Zhd (HO10.out.setCells C2.toList 0);rw[hw11]at HB11 HO11;refine hK.out _ _ B11p (fun _=> ?_)
 clear hK K hw11;try simp only[Act.put,Yaa,Yac,Yad]
 refine wpAnyH_ready (rs:= [5]) (by kernel_rfl) (by simp) ?_
 refine AllReadyH.cons rfl (fun K hK=> ?_) AllReadyH.nil
 refine Zio (C:= #[.int .i64 0, .int .i64 0]) (D:= #[.int .i64 0, .int .i64 ln]) 39 rfl _ _ rfl wq.heap.size B11r rfl (by rfl) (by rfl) Zcq (by rfl) ?_
 intro w12 hw12;have B12p:=B11p.others (o:=0) hn2.symm (#[.int .i64 0, .int .i64 ln]:Array Value).toList;rw[hw12]at B12p;have B12q:=B11q.others (o:=0) hne.symm (#[.int .i64 0, .int .i64 ln]:Array Value).toList;rw[hw12]at B12q;have B12r:=B11r.sets (D:= #[.int .i64 0, .int .i64 ln]) rfl;rw[hw12]at B12r;have HB12:=Zhd (Zap hge2 (#[.int .i64 0, .int .i64 ln]:Array Value).toList 0 HB11.out);rw[hw12]at HB12
 have hP12:PlC w12 C2 (Zej S' T):=by
  rw[←hw12];exact(HPA.out _ HO11.out).off B11r (by decide) rfl ((Off.refl _ _).setCells _ 0)
 refine hK.out _ _ B12p (fun _=> ?_)
 clear hK K hw12;try simp only[Act.put,Yaa,Yac,Yad]
 refine wpAnyH_done (by kernel_rfl) ?_ _
 refine NoPanic.normal ?_;go_wp2_with fail;refine bodyPost_ret (Zdj results24 (by rfl) (by rfl) B12q hC2 B12r rfl) rfl ?_
 unfold Zef;rw[HZ.out];exact⟨⟨_,rfl,hP12.plR⟩,HB12.out⟩
end Go.Proofs.Zq
namespace Edt
open Go Go.Lib Tre Sch Lns Prs Go.Proofs.Zq
def doS (S:Ps) (o:Opp) (who:Int):Ps×Int×Int:=
 if o.kind=15 then Zne S o.n
 else if o.kind<1∨15<o.kind∨who<0∨3≤who then(S,1,0)
 else if o.kind≠1∧(S.ses who.toNat).opn=false then(S,3,0)
 else if o.kind≤4 then Zkx S o.kind who.toNat
 else if o.kind=13 then(S,(Zba (S.ses who.toNat).base (S.ses who.toNat).mine S.run).2.1,(Zba (S.ses who.toNat).base (S.ses who.toNat).mine S.run).2.2)
 else if S.lock≠0∧S.lock≠who+1 then(S,9,0)
 else if o.kind=14 then Zez S who.toNat o.n
 else if(Zed S o who.toNat).2.1=0 then(S.setSes who.toNat ⟨true,(S.ses who.toNat).base,(Zed S o who.toNat).1⟩,0,(Zed S o who.toNat).2.2)
 else(S,(Zed S o who.toNat).2.1,(Zed S o who.toNat).2.2)
section
variable {S:Ps} {o:Opp} {k:Nat} (h1:o.kind≠15) (h2:1≤o.kind) (h3:o.kind≤15) (hk:k<3)
include h1 h2 h3 hk
theorem do_3 (h:o.kind≠1∧(S.ses k).opn=false):doS S o k=(S,3,0):=by
 unfold doS;rw[Yab h1,Yab (by omega),Ybr,Yam h]
theorem do_4 (h: ¬ (o.kind≠1∧(S.ses k).opn=false)) (h4:o.kind≤4):doS S o k=Zkx S o.kind k:=by
 unfold doS;rw[Yab h1,Yab (by omega),Ybr,Yab h,Yam h4]
omit h2 h3 in
theorem do_5 (h:(S.ses k).opn=true) (h4:o.kind=13):doS S o k=(S,(Zba (S.ses k).base (S.ses k).mine S.run).2.1,(Zba (S.ses k).base (S.ses k).mine S.run).2.2):=by
 unfold doS;rw[Yab h1,Yab (by omega),Ybr,Yab (by rw[h];simp),Yab (by omega),Yam h4]
theorem do_6 (h:(S.ses k).opn=true) (h4:4<o.kind) (h5:o.kind≠13) (hl:S.lock≠0∧S.lock≠(k:Int)+1):doS S o k=(S,9,0):=by
 unfold doS;rw[Yab h1,Yab (by omega),Ybr,Yab (by rw[h];simp),Yab (by omega),Yab h5,Yam hl]
omit h2 h3 in
theorem do_7 (h:(S.ses k).opn=true) (h5:o.kind=14) (hl: ¬ (S.lock≠0∧S.lock≠(k:Int)+1)):doS S o k=Zez S k o.n:=by
 unfold doS;rw[Yab h1,Yab (by omega),Ybr,Yab (by rw[h];simp),Yab (by omega),Yab (by omega),Yab hl,Yam h5]
theorem do_8 (h:(S.ses k).opn=true) (h4:4<o.kind) (h5:o.kind≠13) (h6:o.kind≠14) (hl: ¬ (S.lock≠0∧S.lock≠(k:Int)+1)):doS S o k=if(Zed S o k).2.1=0 then(S.setSes k ⟨true,(S.ses k).base,(Zed S o k).1⟩,0,(Zed S o k).2.2)else(S,(Zed S o k).2.1,(Zed S o k).2.2):=by
 unfold doS;rw[Yab h1,Yab (by omega),Ybr,Yab (by rw[h];simp),Yab (by omega),Yab h5,Yab hl,Yab h6]
end
end Edt
