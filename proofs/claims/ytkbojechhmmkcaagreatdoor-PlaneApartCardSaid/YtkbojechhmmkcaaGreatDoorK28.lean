import Derived.Test.YtkbojechhmmkcaaGreatDoorK27
set_option linter.unusedVariables false
set_option linter.unusedSimpArgs false
set_option maxHeartbeats 4000000
set_option maxRecDepth 100000
namespace Edt
open Go Go.Lib Tre Sch Lns
def Zkx (S:Ps) (kind:Int) (k:Nat):Ps×Int×Int:=
 if kind=1 then if(S.ses k).opn then(S,4,0)else(S.setSes k ⟨true,S.run,S.run⟩,0,0)
 else if kind=2 then({S.setSes k ⟨false,[],[]⟩with lock:=if S.lock=(k:Int)+1 then 0 else S.lock},0,0)
 else if kind=3 then if S.lock≠0∧S.lock≠(k:Int)+1 then(S,9,0)else({S with lock:=(k:Int)+1},0,0)
 else if kind=4 then if S.lock≠(k:Int)+1 then(S,3,0)else({S with lock:=0},0,0)
 else(S,0,0)
end Edt
namespace Go.Proofs.Zq
open Tryz
open Go Go.RowKit Go.Sort Tre Lx Prs Lns Edt Sch
attribute [local go_sem] Zsh Zpl
theorem Zaxa (C:Array Value) (S:Ps) (kind:Int) (k:Nat) (vp:Value) (wd:ByteArray) (bt nn:Int) (tx:ByteArray) (w:World) (hP:PlC w C S) (hk:k<3) (hvp:vp.oneCell'=true):
 Calls prog 22 #[.agg C, .agg #[.int .i64 kind, .int .i64 (k:Int),vp, .string wd, .int .i64 bt, .int .i64 nn, .string tx]] w (Zef (Zkx S kind k) w):=by
 have hcs:=hP.size;obtain⟨wp,hwp⟩: ∃ wp,w.alloc (.cells C 32)=wp:=⟨_,rfl⟩;obtain⟨wo,hwo⟩: ∃ wo,wp.alloc (.cells #[.int .i64 kind, .int .i64 (k:Int),vp, .string wd, .int .i64 bt, .int .i64 nn, .string tx] 36)=wo:=⟨_,rfl⟩;obtain⟨wq,hwq⟩: ∃ wq,wo.alloc (.cells #[.slice none 0 0, .slice none 0 0, .bool false, .slice none 0 0, .slice none 0 0, .bool false, .slice none 0 0, .slice none 0 0, .bool false, .slice none 0 0, .slice none 0 0, .int .i64 0, .int .i64 0, .int .i64 0, .slice none 0 0] 32)=wq:=⟨_,rfl⟩;obtain⟨wr,hwr⟩: ∃ wr,wq.alloc (.cells #[.int .i64 0, .int .i64 0] 39)=wr:=⟨_,rfl⟩;have hs1:w.heap.size<wp.heap.size:=by rw[←hwp];simp
 have hs2:wp.heap.size<wo.heap.size:=by rw[←hwo];simp
 have hs3:wo.heap.size<wq.heap.size:=by rw[←hwq];simp
 have hs4:wq.heap.size<wr.heap.size:=by rw[←hwr];simp
 have Bp:Bl wr w.heap.size C 32:=by rw[←hwr,←hwq,←hwo,←hwp];exact(((Bl.new _ _ _).alloc _).alloc _).alloc _
 have Bo:Bl wr wp.heap.size #[.int .i64 kind, .int .i64 (k:Int),vp, .string wd, .int .i64 bt, .int .i64 nn, .string tx] 36:=by rw[←hwr,←hwq,←hwo];exact((Bl.new _ _ _).alloc _).alloc _
 have Bq:Bl wr wo.heap.size #[.slice none 0 0, .slice none 0 0, .bool false, .slice none 0 0, .slice none 0 0, .bool false, .slice none 0 0, .slice none 0 0, .bool false, .slice none 0 0, .slice none 0 0, .int .i64 0, .int .i64 0, .int .i64 0, .slice none 0 0] 32:=by rw[←hwr,←hwq];exact(Bl.new _ _ _).alloc _
 have Br:Bl wr wq.heap.size #[.int .i64 0, .int .i64 0] 39:=by rw[←hwr];exact Bl.new _ _ _
 have HB:Hid (Below w.heap.size w wr):=by
  show Below _ _ _;rw[←hwr,←hwq,←hwo,←hwp];refine Below.alloc (Below.alloc (Below.alloc (Below.alloc (Yag _ _) (Yaf _) _) ?_ _) ?_ _) ?_ _<;>simp<;>omega
 obtain⟨v1,ev1,hb1⟩:=hP.base k hk;obtain⟨v2,ev2,hm1⟩:=hP.mine k hk;obtain⟨A1,n1,c1,rfl⟩:=hb1.slice;obtain⟨A2,n2,c2,rfl⟩:=hm1.slice;have HP:Hid (∀ W,Below w.heap.size w W→PlC W C S):=fun W hb=>hP.below hb
 have px0:wr.cell? ⟨w.heap.size,2+k*3,none⟩=some (.bool (S.ses k).opn):=(Bp.cell _).trans (hP.opn k hk);have px1:wr.cell? ⟨w.heap.size,2+k*3+1,none⟩=some (.slice A1 n1 c1):=(Bp.cell _).trans ev1;have px2:wr.cell? ⟨w.heap.size,2+k*3+2,none⟩=some (.slice A2 n2 c2):=(Bp.cell _).trans ev2;have px3:wr.cell? ⟨w.heap.size,11,none⟩=some (.int .i64 S.lock):=(Bp.cell _).trans hP.lock;have ox:wr.cell? ⟨wp.heap.size,1,none⟩=some (.int .i64 (k:Int)):=(Bo.cell _).trans rfl;have hwk:IntKind.i64.wrap ((k:Int)+1)=(k:Int)+1:=by rw[IntKind.wrap_i64];omega
 have hki:(k:Int)<3:=by omega
 have hk0:(0:Int)≤(k:Int):=by omega
 obtain⟨z,hz0⟩: ∃ z,Zkx S kind k=z:=⟨_,rfl⟩;rw[hz0];have hz:=Zhd hz0;clear hz0;go_enter func22,ntmps22;go_upto_region 1 with fail
 go_region_held3 (fun W=>W.cell? ⟨w.heap.size,2+k*3,none⟩=some (.bool (S.ses k).opn)∧W.cell? ⟨w.heap.size,2+k*3+1,none⟩=some (.slice A1 n1 c1)∧W.cell? ⟨w.heap.size,2+k*3+2,none⟩=some (.slice A2 n2 c2)∧W.cell? ⟨w.heap.size,11,none⟩=some (.int .i64 S.lock)∧W.cell? ⟨wp.heap.size,1,none⟩=some (.int .i64 (k:Int))) (go_keep) ((fail))
 obtain⟨ws,hws⟩: ∃ ws,(wr.alloc (.cells #[.bool (S.ses k).opn, .slice A1 n1 c1, .slice A2 n2 c2] 29)).drew=ws:=⟨_,rfl⟩;rw[hws];have HBs:Hid (Below w.heap.size w ws):=by show Below _ _ _;rw[←hws];exact(HB.out.alloc HB.out.size _).drew
 replace Bp:Bl ws w.heap.size C 32:=by rw[←hws];exact(Bp.alloc _).drew
 replace Bo:Bl ws wp.heap.size #[.int .i64 kind, .int .i64 (k:Int),vp, .string wd, .int .i64 bt, .int .i64 nn, .string tx] 36:=by rw[←hws];exact(Bo.alloc _).drew
 replace Bq:Bl ws wo.heap.size #[.slice none 0 0, .slice none 0 0, .bool false, .slice none 0 0, .slice none 0 0, .bool false, .slice none 0 0, .slice none 0 0, .bool false, .slice none 0 0, .slice none 0 0, .int .i64 0, .int .i64 0, .int .i64 0, .slice none 0 0] 32:=by rw[←hws];exact(Bq.alloc _).drew
 replace Br:Bl ws wq.heap.size #[.int .i64 0, .int .i64 0] 39:=by rw[←hws];exact(Br.alloc _).drew
 have Bs:Bl ws wr.heap.size #[.bool (S.ses k).opn, .slice A1 n1 c1, .slice A2 n2 c2] 29:=by rw[←hws];exact(Bl.new _ _ _).drew
 have hne:wq.heap.size≠wo.heap.size:=by omega
 have hge1:w.heap.size≤wo.heap.size:=by omega
 have hge2:w.heap.size≤wq.heap.size:=by omega
 have hn1:wo.heap.size≠w.heap.size:=by omega
 have hn2:wq.heap.size≠w.heap.size:=by omega
 obtain⟨v0,ev0,hr0⟩:=hP.run;obtain⟨A0,n0,c0,rfl⟩:=hr0.slice;replace px0:ws.cell? ⟨w.heap.size,2+k*3,none⟩=some (.bool (S.ses k).opn):=(Bp.cell _).trans (hP.opn k hk);replace px1:ws.cell? ⟨w.heap.size,2+k*3+1,none⟩=some (.slice A1 n1 c1):=(Bp.cell _).trans ev1;replace px2:ws.cell? ⟨w.heap.size,2+k*3+2,none⟩=some (.slice A2 n2 c2):=(Bp.cell _).trans ev2;replace px3:ws.cell? ⟨w.heap.size,11,none⟩=some (.int .i64 S.lock):=(Bp.cell _).trans hP.lock;have px4:ws.cell? ⟨w.heap.size,0,none⟩=some (.slice A0 n0 c0):=(Bp.cell _).trans ev0;have pf: ∀ j,ws.frozen? ⟨w.heap.size,j,none⟩=false:=Bp.froz;have ox0:ws.cell? ⟨wp.heap.size,0,none⟩=some (.int .i64 kind):=(Bo.cell _).trans rfl;replace ox:ws.cell? ⟨wp.heap.size,1,none⟩=some (.int .i64 (k:Int)):=(Bo.cell _).trans rfl;have sx0:ws.cell? ⟨wr.heap.size,0,none⟩=some (.bool (S.ses k).opn):=(Bs.cell _).trans rfl;have HR:=Zhd hr0;have hk3:k=0∨k=1∨k=2:=by omega
 have HK3:=Zhd hk3;clear hws hwr hwq hwo hwp hb1 hm1 hr0 ev0 ev1 ev2 Bs Bo HB hk3;by_cases k1:kind=1
 · subst k1;by_cases ho:(S.ses k).opn=true
   · rw[ho]at sx0 px0
     have HZ:Hid (z=(S,4,0)):=by
      show z=_;rw[←hz.out];unfold Zkx;rw[Yam rfl,Yam ho]
     go_upto_region 5 with fail
     have hpc: ∀ W,Below w.heap.size w W→PlC W C S:=fun W hb'=>HP.out W hb'
     refine Zbo (C:=C) (R:= #[.int .i64 4, .int .i64 0]) Bp (hpc _ HBs.out).size (hpc _ HBs.out).one Bq rfl Br rfl rfl rfl hne (by rfl) (by go_simp) (by rfl) (by rfl) (by rfl) (by rfl) ?_
     intro W' _ _ hbw hq' hr';have hb':=hbw w.heap.size hge1 hge2 HBs.out;have hpw:=hpc _ hb';try simp only[Act.put,Yaa,Yac,Yad]
     go_wp2_with fail;refine bodyPost_ret (Zdj results22 (by rfl) (by rfl) hq' hpw.size hr' rfl) rfl ?_
     unfold Zef;rw[HZ.out];exact⟨⟨_,rfl,hpw.plR⟩,hb'⟩
   · replace ho:(S.ses k).opn=false:=by cases h:(S.ses k).opn<;>simp_all
     rw[ho]at sx0 px0
     have HZ:Hid (z=((S.setSes k ⟨true,S.run,S.run⟩),0,0)):=by
      show z=_;rw[←hz.out];unfold Zkx;rw[Yam rfl,ho];rfl
     obtain⟨w6,hw6⟩: ∃ x,((ws.setCell ⟨w.heap.size,2+k*3,none⟩ (.bool true)).setCell ⟨w.heap.size,2+k*3+1,none⟩ (.slice A0 n0 c0)).setCell ⟨w.heap.size,2+k*3+2,none⟩ (.slice A0 n0 c0)=x:=⟨_,rfl⟩;have Dp:Bl w6 w.heap.size (((C.setIfInBounds (2+k*3) (.bool true)).setIfInBounds (2+k*3+1) (.slice A0 n0 c0)).setIfInBounds (2+k*3+2) (.slice A0 n0 c0)) 32:=by rw[←hw6];exact((Bp.set _ _).set _ _).set _ _
     have Dq:Bl w6 wo.heap.size #[.slice none 0 0, .slice none 0 0, .bool false, .slice none 0 0, .slice none 0 0, .bool false, .slice none 0 0, .slice none 0 0, .bool false, .slice none 0 0, .slice none 0 0, .int .i64 0, .int .i64 0, .int .i64 0, .slice none 0 0] 32:=by rw[←hw6];exact((Bq.other hn1 _).other hn1 _).other hn1 _
     have Dr:Bl w6 wq.heap.size #[.int .i64 0, .int .i64 0] 39:=by rw[←hw6];exact((Br.other hn2 _).other hn2 _).other hn2 _
     have HB6:Hid (Below w.heap.size w w6):=by show Below _ _ _;rw[←hw6];exact((HBs.out.setCell (p:=⟨_,_,none⟩) (Yaf _) _).setCell (p:=⟨_,_,none⟩) (Yaf _) _).setCell (p:=⟨_,_,none⟩) (Yaf _) _
     go_upto_region 19 with fail
     have hpc: ∀ W,Below w.heap.size w W→PlC W (((C.setIfInBounds (2+k*3) (.bool true)).setIfInBounds (2+k*3+1) (.slice A0 n0 c0)).setIfInBounds (2+k*3+2) (.slice A0 n0 c0)) (S.setSes k ⟨true,S.run,S.run⟩):=fun W hb'=>(HP.out W hb').setSes k hk true _ _ S.run S.run (HR.out.below hb') (HR.out.below hb')
     refine Zbo (C:=(((C.setIfInBounds (2+k*3) (.bool true)).setIfInBounds (2+k*3+1) (.slice A0 n0 c0)).setIfInBounds (2+k*3+2) (.slice A0 n0 c0))) (R:= #[.int .i64 0, .int .i64 0]) Dp (hpc _ HB6.out).size (hpc _ HB6.out).one Dq rfl Dr rfl rfl rfl hne (by rfl) (by go_simp) (by rfl) (by rfl) (by rfl) (by rfl) ?_
     intro W' _ _ hbw hq' hr';have hb':=hbw w.heap.size hge1 hge2 HB6.out;have hpw:=hpc _ hb';try simp only[Act.put,Yaa,Yac,Yad]
     go_wp2_with fail;refine bodyPost_ret (Zdj results22 (by rfl) (by rfl) hq' hpw.size hr' rfl) rfl ?_
     unfold Zef;rw[HZ.out];exact⟨⟨_,rfl,hpw.plR⟩,hb'⟩
 have hq1:(kind==1)=false:=by rw[Yak];exact k1
 by_cases k2:kind=2
 · subst k2;clear k1 hq1;obtain⟨w8,hw8⟩: ∃ x,((ws.setCell ⟨w.heap.size,2+k*3,none⟩ (.bool false)).setCell ⟨w.heap.size,2+k*3+1,none⟩ (.slice none 0 0)).setCell ⟨w.heap.size,2+k*3+2,none⟩ (.slice none 0 0)=x:=⟨_,rfl⟩;have Dp:Bl w8 w.heap.size (((C.setIfInBounds (2+k*3) (.bool false)).setIfInBounds (2+k*3+1) (.slice none 0 0)).setIfInBounds (2+k*3+2) (.slice none 0 0)) 32:=by rw[←hw8];exact((Bp.set _ _).set _ _).set _ _
   have Dq:Bl w8 wo.heap.size #[.slice none 0 0, .slice none 0 0, .bool false, .slice none 0 0, .slice none 0 0, .bool false, .slice none 0 0, .slice none 0 0, .bool false, .slice none 0 0, .slice none 0 0, .int .i64 0, .int .i64 0, .int .i64 0, .slice none 0 0] 32:=by rw[←hw8];exact((Bq.other hn1 _).other hn1 _).other hn1 _
   have Dr:Bl w8 wq.heap.size #[.int .i64 0, .int .i64 0] 39:=by rw[←hw8];exact((Br.other hn2 _).other hn2 _).other hn2 _
   have HB8:Hid (Below w.heap.size w w8):=by show Below _ _ _;rw[←hw8];exact((HBs.out.setCell (p:=⟨_,_,none⟩) (Yaf _) _).setCell (p:=⟨_,_,none⟩) (Yaf _) _).setCell (p:=⟨_,_,none⟩) (Yaf _) _
   have HP8:=Zhd ((HP.out w8 HB8.out).setSes k hk false _ _ [] [] (Zdr _) (Zdr _));have lx:w8.cell? ⟨w.heap.size,11,none⟩=some (.int .i64 (S.setSes k ⟨false,[],[]⟩).lock):=(Dp.cell _).trans HP8.out.lock;rw[(Zbv S k _).2.2.1]at lx;have df: ∀ j,w8.frozen? ⟨w.heap.size,j,none⟩=false:=Dp.froz;by_cases ow:S.lock=(k:Int)+1
   · have hown:(S.lock==(k:Int)+1)=true:=by rw[beq_iff_eq];exact ow
     have HZ:Hid (z=({(S.setSes k ⟨false,[],[]⟩)with lock:=0},0,0)):=by
      show z=_;rw[←hz.out];unfold Zkx;rw[Yab (by decide),Yam rfl,Yam ow]
     clear ow;obtain⟨w10,hw10⟩: ∃ x,w8.setCell ⟨w.heap.size,11,none⟩ (.int .i64 0)=x:=⟨_,rfl⟩;have Fp:Bl w10 w.heap.size (((((C.setIfInBounds (2+k*3) (.bool false)).setIfInBounds (2+k*3+1) (.slice none 0 0)).setIfInBounds (2+k*3+2) (.slice none 0 0))).setIfInBounds 11 (.int .i64 0)) 32:=by rw[←hw10];exact Dp.set _ _
     have Fq:Bl w10 wo.heap.size #[.slice none 0 0, .slice none 0 0, .bool false, .slice none 0 0, .slice none 0 0, .bool false, .slice none 0 0, .slice none 0 0, .bool false, .slice none 0 0, .slice none 0 0, .int .i64 0, .int .i64 0, .int .i64 0, .slice none 0 0] 32:=by rw[←hw10];exact Dq.other hn1 _
     have Fr:Bl w10 wq.heap.size #[.int .i64 0, .int .i64 0] 39:=by rw[←hw10];exact Dr.other hn2 _
     have HB10:Hid (Below w.heap.size w w10):=by show Below _ _ _;rw[←hw10];exact HB8.out.setCell (p:=⟨_,_,none⟩) (Yaf _) _
     go_upto_region 19 with fail
     have hpc: ∀ W,Below w.heap.size w W→PlC W ((((C.setIfInBounds (2+k*3) (.bool false)).setIfInBounds (2+k*3+1) (.slice none 0 0)).setIfInBounds (2+k*3+2) (.slice none 0 0)).setIfInBounds 11 (.int .i64 0)) {(S.setSes k ⟨false,[],[]⟩)with lock:=0}:=fun W hb'=>((HP.out W hb').setSes k hk false _ _ [] [] (Zdr _) (Zdr _)).setLock 0
     refine Zbo (C:=((((C.setIfInBounds (2+k*3) (.bool false)).setIfInBounds (2+k*3+1) (.slice none 0 0)).setIfInBounds (2+k*3+2) (.slice none 0 0)).setIfInBounds 11 (.int .i64 0))) (R:= #[.int .i64 0, .int .i64 0]) Fp (hpc _ HB10.out).size (hpc _ HB10.out).one Fq rfl Fr rfl rfl rfl hne (by rfl) (by go_simp) (by rfl) (by rfl) (by rfl) (by rfl) ?_
     intro W' _ _ hbw hq' hr';have hb':=hbw w.heap.size hge1 hge2 HB10.out;have hpw:=hpc _ hb';try simp only[Act.put,Yaa,Yac,Yad]
     go_wp2_with fail;refine bodyPost_ret (Zdj results22 (by rfl) (by rfl) hq' hpw.size hr' rfl) rfl ?_
     unfold Zef;rw[HZ.out];exact⟨⟨_,rfl,hpw.plR⟩,hb'⟩
   · have hown:(S.lock==(k:Int)+1)=false:=by rw[Yak];exact ow
     have HZ:Hid (z=((S.setSes k ⟨false,[],[]⟩),0,0)):=by
      show z=_;rw[←hz.out];unfold Zkx;rw[Yab (by decide),Yam rfl,Yab ow];rcases HK3.out with e|e|e<;>subst e<;>rfl
     clear ow;go_upto_region 19 with fail
     have hpc: ∀ W,Below w.heap.size w W→PlC W (((C.setIfInBounds (2+k*3) (.bool false)).setIfInBounds (2+k*3+1) (.slice none 0 0)).setIfInBounds (2+k*3+2) (.slice none 0 0)) (S.setSes k ⟨false,[],[]⟩):=fun W hb'=>((HP.out W hb').setSes k hk false _ _ [] [] (Zdr _) (Zdr _))
     refine Zbo (C:=(((C.setIfInBounds (2+k*3) (.bool false)).setIfInBounds (2+k*3+1) (.slice none 0 0)).setIfInBounds (2+k*3+2) (.slice none 0 0))) (R:= #[.int .i64 0, .int .i64 0]) Dp (hpc _ HB8.out).size (hpc _ HB8.out).one Dq rfl Dr rfl rfl rfl hne (by rfl) (by go_simp) (by rfl) (by rfl) (by rfl) (by rfl) ?_
     intro W' _ _ hbw hq' hr';have hb':=hbw w.heap.size hge1 hge2 HB8.out;have hpw:=hpc _ hb';try simp only[Act.put,Yaa,Yac,Yad]
     go_wp2_with fail;refine bodyPost_ret (Zdj results22 (by rfl) (by rfl) hq' hpw.size hr' rfl) rfl ?_
     unfold Zef;rw[HZ.out];exact⟨⟨_,rfl,hpw.plR⟩,hb'⟩
 have hq2:(kind==2)=false:=by rw[Yak];exact k2
 by_cases k3:kind=3
 · subst k3;clear k1 hq1 k2 hq2;by_cases l0:S.lock=0
   · have hl0:(S.lock==0)=true:=by rw[beq_iff_eq];exact l0
     have hl1:(S.lock !=0)=false:=by simp[l0]
     have HZ:Hid (z=({S with lock:=(k:Int)+1},0,0)):=by
      show z=_;rw[←hz.out];unfold Zkx;rw[Yab (by decide),Yab (by decide),Yam rfl,Yab (fun h=>h.1 l0)]
     clear l0;obtain⟨w14,hw14⟩: ∃ x,ws.setCell ⟨w.heap.size,11,none⟩ (.int .i64 ((k:Int)+1))=x:=⟨_,rfl⟩;have Dp:Bl w14 w.heap.size ((C).setIfInBounds 11 (.int .i64 ((k:Int)+1))) 32:=by rw[←hw14];exact Bp.set _ _
     have Dq:Bl w14 wo.heap.size #[.slice none 0 0, .slice none 0 0, .bool false, .slice none 0 0, .slice none 0 0, .bool false, .slice none 0 0, .slice none 0 0, .bool false, .slice none 0 0, .slice none 0 0, .int .i64 0, .int .i64 0, .int .i64 0, .slice none 0 0] 32:=by rw[←hw14];exact Bq.other hn1 _
     have Dr:Bl w14 wq.heap.size #[.int .i64 0, .int .i64 0] 39:=by rw[←hw14];exact Br.other hn2 _
     have HB14:Hid (Below w.heap.size w w14):=by show Below _ _ _;rw[←hw14];exact HBs.out.setCell (p:=⟨_,_,none⟩) (Yaf _) _
     go_upto_region 19 with fail
     have hpc: ∀ W,Below w.heap.size w W→PlC W (C.setIfInBounds 11 (.int .i64 ((k:Int)+1))) {S with lock:=(k:Int)+1}:=fun W hb'=>(HP.out W hb').setLock ((k:Int)+1)
     refine Zbo (C:=(C.setIfInBounds 11 (.int .i64 ((k:Int)+1)))) (R:= #[.int .i64 0, .int .i64 0]) Dp (hpc _ HB14.out).size (hpc _ HB14.out).one Dq rfl Dr rfl rfl rfl hne (by rfl) (by go_simp) (by rfl) (by rfl) (by rfl) (by rfl) ?_
     intro W' _ _ hbw hq' hr';have hb':=hbw w.heap.size hge1 hge2 HB14.out;have hpw:=hpc _ hb';try simp only[Act.put,Yaa,Yac,Yad]
     go_wp2_with fail;refine bodyPost_ret (Zdj results22 (by rfl) (by rfl) hq' hpw.size hr' rfl) rfl ?_
     unfold Zef;rw[HZ.out];exact⟨⟨_,rfl,hpw.plR⟩,hb'⟩
   have hl0:(S.lock==0)=false:=by rw[Yak];exact l0
   have hl1:(S.lock !=0)=true:=by simp[l0]
   by_cases ow:S.lock=(k:Int)+1
   · have hown:(S.lock==(k:Int)+1)=true:=by rw[beq_iff_eq];exact ow
     have HZ:Hid (z=({S with lock:=(k:Int)+1},0,0)):=by
      show z=_;rw[←hz.out];unfold Zkx;rw[Yab (by decide),Yab (by decide),Yam rfl,Yab (fun h=>h.2 ow)]
     clear ow l0;obtain⟨w14,hw14⟩: ∃ x,ws.setCell ⟨w.heap.size,11,none⟩ (.int .i64 ((k:Int)+1))=x:=⟨_,rfl⟩;have Dp:Bl w14 w.heap.size ((C).setIfInBounds 11 (.int .i64 ((k:Int)+1))) 32:=by rw[←hw14];exact Bp.set _ _
     have Dq:Bl w14 wo.heap.size #[.slice none 0 0, .slice none 0 0, .bool false, .slice none 0 0, .slice none 0 0, .bool false, .slice none 0 0, .slice none 0 0, .bool false, .slice none 0 0, .slice none 0 0, .int .i64 0, .int .i64 0, .int .i64 0, .slice none 0 0] 32:=by rw[←hw14];exact Bq.other hn1 _
     have Dr:Bl w14 wq.heap.size #[.int .i64 0, .int .i64 0] 39:=by rw[←hw14];exact Br.other hn2 _
     have HB14:Hid (Below w.heap.size w w14):=by show Below _ _ _;rw[←hw14];exact HBs.out.setCell (p:=⟨_,_,none⟩) (Yaf _) _
     go_upto_region 19 with fail
     have hpc: ∀ W,Below w.heap.size w W→PlC W (C.setIfInBounds 11 (.int .i64 ((k:Int)+1))) {S with lock:=(k:Int)+1}:=fun W hb'=>(HP.out W hb').setLock ((k:Int)+1)
     refine Zbo (C:=(C.setIfInBounds 11 (.int .i64 ((k:Int)+1)))) (R:= #[.int .i64 0, .int .i64 0]) Dp (hpc _ HB14.out).size (hpc _ HB14.out).one Dq rfl Dr rfl rfl rfl hne (by rfl) (by go_simp) (by rfl) (by rfl) (by rfl) (by rfl) ?_
     intro W' _ _ hbw hq' hr';have hb':=hbw w.heap.size hge1 hge2 HB14.out;have hpw:=hpc _ hb';try simp only[Act.put,Yaa,Yac,Yad]
     go_wp2_with fail;refine bodyPost_ret (Zdj results22 (by rfl) (by rfl) hq' hpw.size hr' rfl) rfl ?_
     unfold Zef;rw[HZ.out];exact⟨⟨_,rfl,hpw.plR⟩,hb'⟩
   · have hown:(S.lock==(k:Int)+1)=false:=by rw[Yak];exact ow
     have HZ:Hid (z=(S,9,0)):=by
      show z=_;rw[←hz.out];unfold Zkx;rw[Yab (by decide),Yab (by decide),Yam rfl,Yam ⟨l0,ow⟩]
     clear ow l0;go_upto_region 13 with fail
     have hpc: ∀ W,Below w.heap.size w W→PlC W C S:=fun W hb'=>HP.out W hb'
     refine Zbo (C:=C) (R:= #[.int .i64 9, .int .i64 0]) Bp (hpc _ HBs.out).size (hpc _ HBs.out).one Bq rfl Br rfl rfl rfl hne (by rfl) (by go_simp) (by rfl) (by rfl) (by rfl) (by rfl) ?_
     intro W' _ _ hbw hq' hr';have hb':=hbw w.heap.size hge1 hge2 HBs.out;have hpw:=hpc _ hb';try simp only[Act.put,Yaa,Yac,Yad]
     go_wp2_with fail;refine bodyPost_ret (Zdj results22 (by rfl) (by rfl) hq' hpw.size hr' rfl) rfl ?_
     unfold Zef;rw[HZ.out];exact⟨⟨_,rfl,hpw.plR⟩,hb'⟩
 have hq3:(kind==3)=false:=by rw[Yak];exact k3
 by_cases k4:kind=4
 · subst k4;clear k1 hq1 k2 hq2 k3 hq3;by_cases ow:S.lock=(k:Int)+1
   · have hown:(S.lock==(k:Int)+1)=true:=by rw[beq_iff_eq];exact ow
     have HZ:Hid (z=({S with lock:=0},0,0)):=by
      show z=_;rw[←hz.out];unfold Zkx;rw[Yab (by decide),Yab (by decide),Yab (by decide),Yam rfl,Yab (fun h=>h ow)]
     clear ow;obtain⟨w18,hw18⟩: ∃ x,ws.setCell ⟨w.heap.size,11,none⟩ (.int .i64 0)=x:=⟨_,rfl⟩;have Dp:Bl w18 w.heap.size ((C).setIfInBounds 11 (.int .i64 0)) 32:=by rw[←hw18];exact Bp.set _ _
     have Dq:Bl w18 wo.heap.size #[.slice none 0 0, .slice none 0 0, .bool false, .slice none 0 0, .slice none 0 0, .bool false, .slice none 0 0, .slice none 0 0, .bool false, .slice none 0 0, .slice none 0 0, .int .i64 0, .int .i64 0, .int .i64 0, .slice none 0 0] 32:=by rw[←hw18];exact Bq.other hn1 _
     have Dr:Bl w18 wq.heap.size #[.int .i64 0, .int .i64 0] 39:=by rw[←hw18];exact Br.other hn2 _
     have HB18:Hid (Below w.heap.size w w18):=by show Below _ _ _;rw[←hw18];exact HBs.out.setCell (p:=⟨_,_,none⟩) (Yaf _) _
     go_upto_region 19 with fail
     have hpc: ∀ W,Below w.heap.size w W→PlC W (C.setIfInBounds 11 (.int .i64 0)) {S with lock:=0}:=fun W hb'=>(HP.out W hb').setLock 0
     refine Zbo (C:=(C.setIfInBounds 11 (.int .i64 0))) (R:= #[.int .i64 0, .int .i64 0]) Dp (hpc _ HB18.out).size (hpc _ HB18.out).one Dq rfl Dr rfl rfl rfl hne (by rfl) (by go_simp) (by rfl) (by rfl) (by rfl) (by rfl) ?_
     intro W' _ _ hbw hq' hr';have hb':=hbw w.heap.size hge1 hge2 HB18.out;have hpw:=hpc _ hb';try simp only[Act.put,Yaa,Yac,Yad]
     go_wp2_with fail;refine bodyPost_ret (Zdj results22 (by rfl) (by rfl) hq' hpw.size hr' rfl) rfl ?_
     unfold Zef;rw[HZ.out];exact⟨⟨_,rfl,hpw.plR⟩,hb'⟩
   · have hown:(S.lock==(k:Int)+1)=false:=by rw[Yak];exact ow
     have HZ:Hid (z=(S,3,0)):=by
      show z=_;rw[←hz.out];unfold Zkx;rw[Yab (by decide),Yab (by decide),Yab (by decide),Yam rfl,Yam ow]
     clear ow;go_upto_region 17 with fail
     have hpc: ∀ W,Below w.heap.size w W→PlC W C S:=fun W hb'=>HP.out W hb'
     refine Zbo (C:=C) (R:= #[.int .i64 3, .int .i64 0]) Bp (hpc _ HBs.out).size (hpc _ HBs.out).one Bq rfl Br rfl rfl rfl hne (by rfl) (by go_simp) (by rfl) (by rfl) (by rfl) (by rfl) ?_
     intro W' _ _ hbw hq' hr';have hb':=hbw w.heap.size hge1 hge2 HBs.out;have hpw:=hpc _ hb';try simp only[Act.put,Yaa,Yac,Yad]
     go_wp2_with fail;refine bodyPost_ret (Zdj results22 (by rfl) (by rfl) hq' hpw.size hr' rfl) rfl ?_
     unfold Zef;rw[HZ.out];exact⟨⟨_,rfl,hpw.plR⟩,hb'⟩
 have hq4:(kind==4)=false:=by rw[Yak];exact k4
 have HZ:Hid (z=(S,0,0)):=by
  show z=_;rw[←hz.out];unfold Zkx;rw[Yab k1,Yab k2,Yab k3,Yab k4]
 clear k1 k2 k3 k4;go_upto_region 19 with fail
 have hpc: ∀ W,Below w.heap.size w W→PlC W C S:=fun W hb'=>HP.out W hb'
 refine Zbo (C:=C) (R:= #[.int .i64 0, .int .i64 0]) Bp (hpc _ HBs.out).size (hpc _ HBs.out).one Bq rfl Br rfl rfl rfl hne (by rfl) (by go_simp) (by rfl) (by rfl) (by rfl) (by rfl) ?_
 intro W' _ _ hbw hq' hr';have hb':=hbw w.heap.size hge1 hge2 HBs.out;have hpw:=hpc _ hb';try simp only[Act.put,Yaa,Yac,Yad]
 go_wp2_with fail;refine bodyPost_ret (Zdj results22 (by rfl) (by rfl) hq' hpw.size hr' rfl) rfl ?_
 unfold Zef;rw[HZ.out];exact⟨⟨_,rfl,hpw.plR⟩,hb'⟩
end Go.Proofs.Zq
namespace Edt
open Go Go.Lib Tre Sch Lns Prs
structure Opp where
 kind:Int
 path:List ByteArray
 word:ByteArray
 bit:Int
 n:Int
 text:ByteArray
def Zed (S:Ps) (o:Opp) (k:Nat):List Line×Int×Int:=
 let t:=(S.ses k).mine
 if o.kind=5 then((setB t o.path).1,(setB t o.path).2,0)
 else if o.kind=6 then((delB t o.path).1,(delB t o.path).2,0)
 else if o.kind=7 then((Zhu t o.path o.bit true).1,(Zhu t o.path o.bit true).2,0)
 else if o.kind=8 then((Zhu t o.path o.bit false).1,(Zhu t o.path o.bit false).2,0)
 else if o.kind=9 then((renB t o.path o.word).1,(renB t o.path o.word).2,0)
 else if o.kind=10 then((Zkv t o.path o.word).1,(Zkv t o.path o.word).2,0)
 else if o.kind=11 then((Zir o.text).1,(Zir o.text).2.2,(Zir o.text).2.1)
 else if o.kind=12 then if o.n<0∨(S.revs.length:Int)≤o.n then([],3,0)else((S.revs[S.revs.length-1-o.n.toNat]?.getD (0,[])).2,0,0)
 else(t,0,0)
end Edt
namespace Go.Proofs.Zq
open Tryz
open Go Go.RowKit Go.Sort Tre Lx Prs Lns Edt Sch
theorem Zxl (C:Array Value) (S:Ps) (o:Opp) (k:Nat) (Ap:Option Addr) (cp:Nat) (w:World) (hP:PlC w C S) (hk:k<3) (hR:Rd w 1 Ap o.path.length (sv o.path)) (hcp:o.path.length≤cp) (hc2:cp≤maxLen) (hlP:o.path.length≤1000000) (htx:o.text.size≤1000000) (hE:Env w) (hr:Zab (S.ses k).mine=true) (hrl:S.revs.length≤1000):
 Calls prog 25 #[.agg C, .agg #[.int .i64 o.kind, .int .i64 (k:Int), .slice Ap o.path.length cp, .string o.word, .int .i64 o.bit, .int .i64 o.n, .string o.text]] w (Zeu (Zed S o k) w):=by
 have hcs:=hP.size;obtain⟨wp,hwp⟩: ∃ wp,w.alloc (.cells C 32)=wp:=⟨_,rfl⟩;obtain⟨wo,hwo⟩: ∃ wo,wp.alloc (.cells #[.int .i64 o.kind, .int .i64 (k:Int), .slice Ap o.path.length cp, .string o.word, .int .i64 o.bit, .int .i64 o.n, .string o.text] 36)=wo:=⟨_,rfl⟩;obtain⟨wr,hwr⟩: ∃ wr,wo.alloc (.cells #[.int .i64 0, .int .i64 0] 39)=wr:=⟨_,rfl⟩;have hs1:w.heap.size<wp.heap.size:=by rw[←hwp];simp
 have hs2:wp.heap.size<wo.heap.size:=by rw[←hwo];simp
 have hs3:wo.heap.size<wr.heap.size:=by rw[←hwr];simp
 have Bp:Bl wr w.heap.size C 32:=by rw[←hwr,←hwo,←hwp];exact((Bl.new _ _ _).alloc _).alloc _
 have Bo:Bl wr wp.heap.size #[.int .i64 o.kind, .int .i64 (k:Int), .slice Ap o.path.length cp, .string o.word, .int .i64 o.bit, .int .i64 o.n, .string o.text] 36:=by rw[←hwr,←hwo];exact(Bl.new _ _ _).alloc _
 have Br:Bl wr wo.heap.size #[.int .i64 0, .int .i64 0] 39:=by rw[←hwr];exact Bl.new _ _ _
 have HB:Hid (Below w.heap.size w wr):=by
  show Below _ _ _;rw[←hwr,←hwo,←hwp];refine Below.alloc (Below.alloc (Below.alloc (Yag _ _) (Yaf _) _) ?_ _) ?_ _<;>simp<;>omega
 obtain⟨v2,ev2,hm1⟩:=hP.mine k hk;obtain⟨A2,c2,rfl,hl1,hl2,hl3,hl4⟩:=hm1;obtain⟨Ar,nr,cr,er,hrv⟩:=hP.revs;have px2:wr.cell? ⟨w.heap.size,2+k*3+2,none⟩=some (.slice A2 (S.ses k).mine.length c2):=(Bp.cell _).trans ev2;have px1:wr.cell? ⟨w.heap.size,1,none⟩=some (.slice Ar nr cr):=(Bp.cell _).trans er;have ox0:wr.cell? ⟨wp.heap.size,0,none⟩=some (.int .i64 o.kind):=(Bo.cell _).trans rfl;have ox1:wr.cell? ⟨wp.heap.size,1,none⟩=some (.int .i64 (k:Int)):=(Bo.cell _).trans rfl;have ox2:wr.cell? ⟨wp.heap.size,2,none⟩=some (.slice Ap o.path.length cp):=(Bo.cell _).trans rfl;have ox3:wr.cell? ⟨wp.heap.size,3,none⟩=some (.string o.word):=(Bo.cell _).trans rfl;have ox4:wr.cell? ⟨wp.heap.size,4,none⟩=some (.int .i64 o.bit):=(Bo.cell _).trans rfl;have ox5:wr.cell? ⟨wp.heap.size,5,none⟩=some (.int .i64 o.n):=(Bo.cell _).trans rfl;have ox6:wr.cell? ⟨wp.heap.size,6,none⟩=some (.string o.text):=(Bo.cell _).trans rfl;have rx0:wr.cell? ⟨wo.heap.size,0,none⟩=some (.int .i64 0):=(Br.cell _).trans rfl;have rx1:wr.cell? ⟨wo.heap.size,1,none⟩=some (.int .i64 0):=(Br.cell _).trans rfl;have rf: ∀ j,wr.frozen? ⟨wo.heap.size,j,none⟩=false:=Br.froz;have HBr:Hid (∀ W,Below wr.heap.size wr W→Bl W wo.heap.size #[.int .i64 0, .int .i64 0] 39):=fun W hb=>Br.below hb
 have fin: ∀ (W:World) (v:Value) (M:List Line),Below wr.heap.size wr W→Lr W v M→ ∀ x y,Lr ((W.setCell ⟨wo.heap.size,0,none⟩ x).setCell ⟨wo.heap.size,1,none⟩ y) v M∧Below w.heap.size w ((W.setCell ⟨wo.heap.size,0,none⟩ x).setCell ⟨wo.heap.size,1,none⟩ y):=fun W v M hb hl x y=>
  ⟨hl.off (HBr.out _ hb) rfl (((Off.refl _ _).setCell 0 x).setCell 1 y),((Zaa HB.out hb).setCell (p:=⟨_,_,none⟩) (by show _≤wo.heap.size;omega) _).setCell (p:=⟨_,_,none⟩) (by show _≤wo.heap.size;omega) _⟩
 have FIN:=Zhd fin;have hb0:=HB.out;have HS:=Zhd (Zbdp A2 c2 _ Ap cp o.path wr (hl3.below hb0) hl1 hl2 hl4 hr (hR.below hb0) hcp hc2 hlP);have HD:=Zhd (Zajs A2 c2 _ Ap cp o.path wr (hl3.below hb0) hl1 hl2 hl4 hr (hR.below hb0) hcp hc2);have HM:=Zhd (fun on=>Zaoa A2 c2 _ Ap cp o.path o.bit on wr (hl3.below hb0) hl1 hl2 hl4 hr (hR.below hb0) hcp hc2)
 have HN:=Zhd (Zbdl A2 c2 _ Ap cp o.path o.word wr (hl3.below hb0) hl1 hl2 hl4 hr (hR.below hb0) hcp hc2 hlP);have HCp:=Zhd (Zavz A2 c2 _ Ap cp o.path o.word wr (hl3.below hb0) hl1 hl2 hl4 hr (hR.below hb0) hcp hc2 hlP);have HT:=Zhd (Zazu o.text wr (hE.below hb0) htx);have HL0:=Zhd (show Lr w (.slice A2 (S.ses k).mine.length c2) (S.ses k).mine from⟨A2,c2,rfl,hl1,hl2,hl3,hl4⟩)
 have HRV:=Zhd hrv;have hnr:nr=S.revs.length:=by
  obtain⟨-,-,-,Q,h1,h2,-⟩:=hrv;rw[←h1,←h2,Yay]
 have hki:(k:Int)<3:=by omega
 have hk0:(0:Int)≤(k:Int):=by omega
 obtain⟨z,hz0⟩: ∃ z,Zed S o k=z:=⟨_,rfl⟩;rw[hz0];have hz:=Zhd hz0;clear hz0 Bo fin hb0 hl3 hl4 hR hrv ev2 er Br Bp hE;by_cases k5:o.kind=5
 · have HZ:Hid (z=((setB (S.ses k).mine o.path).1,(setB (S.ses k).mine o.path).2,0)):=by
    show z=_;rw[←hz.out];unfold Zed;rw[Yam k5]
   rw[k5]at ox0;clear k5;go_enter func25,ntmps25;go_wp2_with fail;go_at_call 35;refine HS.out.mono ?_;rintro e w5 ⟨⟨v5,rfl,hl5⟩,hb5⟩;have HL5:=Zhd hl5;have HB5:=Zhd hb5;have Br5:=HBr.out _ hb5;have rx0':w5.cell? ⟨wo.heap.size,0,none⟩=some (.int .i64 0):=(Br5.cell _).trans rfl;have rx1':w5.cell? ⟨wo.heap.size,1,none⟩=some (.int .i64 0):=(Br5.cell _).trans rfl;have rf': ∀ j,w5.frozen? ⟨wo.heap.size,j,none⟩=false:=Br5.froz;clear hl5 hb5 Br5 hwr hwo hwp;obtain⟨r,hr⟩: ∃ r,setB (S.ses k).mine o.path=r:=⟨_,rfl⟩;rw[hr]at HZ HL5⊢;clear hr;go_wp2_with fail;refine bodyPost_ret (v:= .tuple #[v5, .agg #[.int .i64 r.2, .int .i64 0]]) (by simp[results,results25,go_sem, *]) rfl ?_
   unfold Zeu;rw[HZ.out];obtain⟨l9,b9⟩:=FIN.out _ _ _ HB5.out HL5.out (.int .i64 r.2) (.int .i64 0);exact⟨⟨_,rfl,l9⟩,b9⟩
 have hq5:(o.kind==5)=false:=by rw[Yak];exact k5
 by_cases k6:o.kind=6
 · have HZ:Hid (z=((delB (S.ses k).mine o.path).1,(delB (S.ses k).mine o.path).2,0)):=by
    show z=_;rw[←hz.out];unfold Zed;rw[Yab k5,Yam k6]
   rw[k6]at ox0;clear k6;go_enter func25,ntmps25;go_wp2_with fail;go_at_call 36;refine HD.out.mono ?_;rintro e w5 ⟨⟨v5,rfl,hl5⟩,hb5⟩;have HL5:=Zhd hl5;have HB5:=Zhd hb5;have Br5:=HBr.out _ hb5;have rx0':w5.cell? ⟨wo.heap.size,0,none⟩=some (.int .i64 0):=(Br5.cell _).trans rfl;have rx1':w5.cell? ⟨wo.heap.size,1,none⟩=some (.int .i64 0):=(Br5.cell _).trans rfl;have rf': ∀ j,w5.frozen? ⟨wo.heap.size,j,none⟩=false:=Br5.froz;clear hl5 hb5 Br5 hwr hwo hwp;obtain⟨r,hr⟩: ∃ r,delB (S.ses k).mine o.path=r:=⟨_,rfl⟩;rw[hr]at HZ HL5⊢;clear hr;go_wp2_with fail;refine bodyPost_ret (v:= .tuple #[v5, .agg #[.int .i64 r.2, .int .i64 0]]) (by simp[results,results25,go_sem, *]) rfl ?_
   unfold Zeu;rw[HZ.out];obtain⟨l9,b9⟩:=FIN.out _ _ _ HB5.out HL5.out (.int .i64 r.2) (.int .i64 0);exact⟨⟨_,rfl,l9⟩,b9⟩
 have hq6:(o.kind==6)=false:=by rw[Yak];exact k6
 by_cases k7:o.kind=7
 · have HZ:Hid (z=((Zhu (S.ses k).mine o.path o.bit true).1,(Zhu (S.ses k).mine o.path o.bit true).2,0)):=by
    show z=_;rw[←hz.out];unfold Zed;rw[Yab k5,Yab k6,Yam k7]
   rw[k7]at ox0;clear k7;go_enter func25,ntmps25;go_wp2_with fail;go_at_call 37;refine(HM.out true).mono ?_;rintro e w5 ⟨⟨v5,rfl,hl5⟩,hb5⟩;have HL5:=Zhd hl5;have HB5:=Zhd hb5;have Br5:=HBr.out _ hb5;have rx0':w5.cell? ⟨wo.heap.size,0,none⟩=some (.int .i64 0):=(Br5.cell _).trans rfl;have rx1':w5.cell? ⟨wo.heap.size,1,none⟩=some (.int .i64 0):=(Br5.cell _).trans rfl;have rf': ∀ j,w5.frozen? ⟨wo.heap.size,j,none⟩=false:=Br5.froz;clear hl5 hb5 Br5 hwr hwo hwp;obtain⟨r,hr⟩: ∃ r,Zhu (S.ses k).mine o.path o.bit true=r:=⟨_,rfl⟩;rw[hr]at HZ HL5⊢;clear hr;go_wp2_with fail;refine bodyPost_ret (v:= .tuple #[v5, .agg #[.int .i64 r.2, .int .i64 0]]) (by simp[results,results25,go_sem, *]) rfl ?_
   unfold Zeu;rw[HZ.out];obtain⟨l9,b9⟩:=FIN.out _ _ _ HB5.out HL5.out (.int .i64 r.2) (.int .i64 0);exact⟨⟨_,rfl,l9⟩,b9⟩
 have hq7:(o.kind==7)=false:=by rw[Yak];exact k7
 by_cases k8:o.kind=8
 · have HZ:Hid (z=((Zhu (S.ses k).mine o.path o.bit false).1,(Zhu (S.ses k).mine o.path o.bit false).2,0)):=by
    show z=_;rw[←hz.out];unfold Zed;rw[Yab k5,Yab k6,Yab k7,Yam k8]
   rw[k8]at ox0;clear k8;go_enter func25,ntmps25;go_wp2_with fail;go_at_call 37;refine(HM.out false).mono ?_;rintro e w5 ⟨⟨v5,rfl,hl5⟩,hb5⟩;have HL5:=Zhd hl5;have HB5:=Zhd hb5;have Br5:=HBr.out _ hb5;have rx0':w5.cell? ⟨wo.heap.size,0,none⟩=some (.int .i64 0):=(Br5.cell _).trans rfl;have rx1':w5.cell? ⟨wo.heap.size,1,none⟩=some (.int .i64 0):=(Br5.cell _).trans rfl;have rf': ∀ j,w5.frozen? ⟨wo.heap.size,j,none⟩=false:=Br5.froz;clear hl5 hb5 Br5 hwr hwo hwp;obtain⟨r,hr⟩: ∃ r,Zhu (S.ses k).mine o.path o.bit false=r:=⟨_,rfl⟩;rw[hr]at HZ HL5⊢;clear hr;go_wp2_with fail;refine bodyPost_ret (v:= .tuple #[v5, .agg #[.int .i64 r.2, .int .i64 0]]) (by simp[results,results25,go_sem, *]) rfl ?_
   unfold Zeu;rw[HZ.out];obtain⟨l9,b9⟩:=FIN.out _ _ _ HB5.out HL5.out (.int .i64 r.2) (.int .i64 0);exact⟨⟨_,rfl,l9⟩,b9⟩
 have hq8:(o.kind==8)=false:=by rw[Yak];exact k8
 by_cases k9:o.kind=9
 · have HZ:Hid (z=((renB (S.ses k).mine o.path o.word).1,(renB (S.ses k).mine o.path o.word).2,0)):=by
    show z=_;rw[←hz.out];unfold Zed;rw[Yab k5,Yab k6,Yab k7,Yab k8,Yam k9]
   rw[k9]at ox0;clear k9;go_enter func25,ntmps25;go_wp2_with fail;go_at_call 38;refine HN.out.mono ?_;rintro e w5 ⟨⟨v5,rfl,hl5⟩,hb5⟩;have HL5:=Zhd hl5;have HB5:=Zhd hb5;have Br5:=HBr.out _ hb5;have rx0':w5.cell? ⟨wo.heap.size,0,none⟩=some (.int .i64 0):=(Br5.cell _).trans rfl;have rx1':w5.cell? ⟨wo.heap.size,1,none⟩=some (.int .i64 0):=(Br5.cell _).trans rfl;have rf': ∀ j,w5.frozen? ⟨wo.heap.size,j,none⟩=false:=Br5.froz;clear hl5 hb5 Br5 hwr hwo hwp;obtain⟨r,hr⟩: ∃ r,renB (S.ses k).mine o.path o.word=r:=⟨_,rfl⟩;rw[hr]at HZ HL5⊢;clear hr;go_wp2_with fail;refine bodyPost_ret (v:= .tuple #[v5, .agg #[.int .i64 r.2, .int .i64 0]]) (by simp[results,results25,go_sem, *]) rfl ?_
   unfold Zeu;rw[HZ.out];obtain⟨l9,b9⟩:=FIN.out _ _ _ HB5.out HL5.out (.int .i64 r.2) (.int .i64 0);exact⟨⟨_,rfl,l9⟩,b9⟩
 have hq9:(o.kind==9)=false:=by rw[Yak];exact k9
 by_cases k10:o.kind=10
 · have HZ:Hid (z=((Zkv (S.ses k).mine o.path o.word).1,(Zkv (S.ses k).mine o.path o.word).2,0)):=by
    show z=_;rw[←hz.out];unfold Zed;rw[Yab k5,Yab k6,Yab k7,Yab k8,Yab k9,Yam k10]
   rw[k10]at ox0;clear k10;go_enter func25,ntmps25;go_wp2_with fail;go_at_call 39;refine HCp.out.mono ?_;rintro e w5 ⟨⟨v5,rfl,hl5⟩,hb5⟩;have HL5:=Zhd hl5;have HB5:=Zhd hb5;have Br5:=HBr.out _ hb5;have rx0':w5.cell? ⟨wo.heap.size,0,none⟩=some (.int .i64 0):=(Br5.cell _).trans rfl;have rx1':w5.cell? ⟨wo.heap.size,1,none⟩=some (.int .i64 0):=(Br5.cell _).trans rfl;have rf': ∀ j,w5.frozen? ⟨wo.heap.size,j,none⟩=false:=Br5.froz;clear hl5 hb5 Br5 hwr hwo hwp;obtain⟨r,hr⟩: ∃ r,Zkv (S.ses k).mine o.path o.word=r:=⟨_,rfl⟩;rw[hr]at HZ HL5⊢;clear hr;go_wp2_with fail;refine bodyPost_ret (v:= .tuple #[v5, .agg #[.int .i64 r.2, .int .i64 0]]) (by simp[results,results25,go_sem, *]) rfl ?_
   unfold Zeu;rw[HZ.out];obtain⟨l9,b9⟩:=FIN.out _ _ _ HB5.out HL5.out (.int .i64 r.2) (.int .i64 0);exact⟨⟨_,rfl,l9⟩,b9⟩
 have hq10:(o.kind==10)=false:=by rw[Yak];exact k10
 by_cases k11:o.kind=11
 · have HZ:Hid (z=((Zir o.text).1,(Zir o.text).2.2,(Zir o.text).2.1)):=by
    show z=_;rw[←hz.out];unfold Zed;rw[Yab k5,Yab k6,Yab k7,Yab k8,Yab k9,Yab k10,Yam k11]
   rw[k11]at ox0;clear k11;go_enter func25,ntmps25;go_wp2_with fail;go_at_call 40;refine HT.out.mono ?_;rintro e w5 ⟨⟨v5,rfl,ho5⟩,hb5⟩;have hl5:=Lr.own ho5;clear ho5;have HL5:=Zhd hl5;have HB5:=Zhd hb5;have Br5:=HBr.out _ hb5;have rx0':w5.cell? ⟨wo.heap.size,0,none⟩=some (.int .i64 0):=(Br5.cell _).trans rfl;have rx1':w5.cell? ⟨wo.heap.size,1,none⟩=some (.int .i64 0):=(Br5.cell _).trans rfl;have rf': ∀ j,w5.frozen? ⟨wo.heap.size,j,none⟩=false:=Br5.froz;clear hl5 hb5 Br5 hwr hwo hwp;obtain⟨r,hr⟩: ∃ r,Zir o.text=r:=⟨_,rfl⟩;rw[hr]at HZ HL5⊢;clear hr;go_wp2_with fail;refine bodyPost_ret (v:= .tuple #[v5, .agg #[.int .i64 r.2.2, .int .i64 r.2.1]]) (by simp[results,results25,go_sem, *]) rfl ?_
   unfold Zeu;rw[HZ.out];obtain⟨l9,b9⟩:=FIN.out _ _ _ HB5.out HL5.out (.int .i64 r.2.2) (.int .i64 r.2.1);exact⟨⟨_,rfl,l9⟩,b9⟩
 have hq11:(o.kind==11)=false:=by rw[Yak];exact k11
 by_cases k12:o.kind=12
 · rw [k12]at ox0;by_cases hn0:o.n<0
   · have HZ:Hid (z=([],3,0)):=by
      show z=_;rw[←hz.out];unfold Zed;rw[Yab k5,Yab k6,Yab k7,Yab k8,Yab k9,Yab k10,Yab k11,Yam k12,Yam (.inl hn0)]
     clear k12;go_enter func25,ntmps25;go_wp2_with fail;refine bodyPost_ret (v:= .tuple #[(.slice none 0 0), .agg #[.int .i64 3, .int .i64 0]]) (by simp[results,results25,go_sem, *]) rfl ?_
     unfold Zeu;rw[HZ.out];obtain⟨l9,b9⟩:=FIN.out _ _ _ (Yag _ _) (Zdr _) (.int .i64 3) (.int .i64 0);exact⟨⟨_,rfl,l9⟩,b9⟩
   by_cases hn1:(nr:Int)≤o.n
   · have HZ:Hid (z=([],3,0)):=by
      show z=_;rw[←hz.out];unfold Zed;rw[Yab k5,Yab k6,Yab k7,Yab k8,Yab k9,Yab k10,Yab k11,Yam k12,Yam (.inr (by rw[←hnr];exact hn1))]
     clear k12;go_enter func25,ntmps25;go_wp2_with fail;refine bodyPost_ret (v:= .tuple #[(.slice none 0 0), .agg #[.int .i64 3, .int .i64 0]]) (by simp[results,results25,go_sem, *]) rfl ?_
     unfold Zeu;rw[HZ.out];obtain⟨l9,b9⟩:=FIN.out _ _ _ (Yag _ _) (Zdr _) (.int .i64 3) (.int .i64 0);exact⟨⟨_,rfl,l9⟩,b9⟩
   obtain⟨m,hm⟩: ∃ m:Nat,o.n=(m:Int):=⟨o.n.toNat,by omega⟩
   obtain⟨q,hq⟩: ∃ q:Nat,nr=q+1+m:=⟨nr-1-m,by omega⟩
   have hq2:S.revs.length-1-o.n.toNat=q:=by omega
   obtain⟨y1,y2,y3,Q,h1,h2,h3,h4,-⟩:=HRV.out;have hqQ:q<Q.length:=by omega
   obtain⟨ad,rfl,hbl,hx⟩:=(h3.below HB.out).2 (by omega)
   have hsp:ad.spot=none:=by
    have h00:=hx 0 _ (Zoc Q 0 (by omega)).1
    have h2:=World.cell?_spot h00;have h3:ad.add 0=ad:=by simp[Addr.add]
    rwa [h3]at h2
   obtain⟨b,of,sp⟩:=ad;obtain rfl:sp=none:=hsp;have hlq:=h4 Q[q] (Yaw hqQ);obtain⟨Aq,nq,cq,eq⟩:=hlq.slice;have hcq:=hx _ _ (Zoc Q q hqQ).2;rw[eq]at hcq hlq;rw[Zag,←Ydn]at hcq;have HLQ:=Zhd (hlq.below HB.out)
   have hres:(S.revs[S.revs.length-1-o.n.toNat]?.getD (0,[])).2=Q[q].2.2:=by
    rw[hq2,←h2,Ydb,Yaj hqQ];rfl
   have HZ:Hid (z=(Q[q].2.2,0,0)):=by
    show z=_;rw[←hz.out];unfold Zed;rw[Yab k5,Yab k6,Yab k7,Yab k8,Yab k9,Yab k10,Yab k11,Yam k12,Yab (by rw[←hnr];omega),hres]
   clear k12 hres hq2 h1 h2 h3 h4 hx hlq eq;generalize Q[q].2.2=M at *;rw[hm]at ox5 hn0 hn1;have hw1:IntKind.i64.wrap ((nr:Int)-1)=(nr:Int)-1:=by rw[IntKind.wrap_i64];omega
   have hw2:IntKind.i64.wrap ((nr:Int)-1-(m:Int))=(q:Int):=by rw[IntKind.wrap_i64];omega
   have hi1:(q:Int)<(nr:Int):=by omega
   have hi2:(0:Int)≤(q:Int):=by omega
   clear hq hm hnr;go_enter func25,ntmps25;go_wp2_with fail;refine bodyPost_ret (v:= .tuple #[(.slice Aq nq cq), .agg #[.int .i64 0, .int .i64 0]]) (by simp[results,results25,go_sem, *]) rfl ?_
   unfold Zeu;rw[HZ.out];obtain⟨l9,b9⟩:=FIN.out _ _ _ (Yag _ _) HLQ.out (.int .i64 0) (.int .i64 0);exact⟨⟨_,rfl,l9⟩,b9⟩
 have hq12:(o.kind==12)=false:=by rw[Yak];exact k12
 have HZ:Hid (z=((S.ses k).mine,0,0)):=by
  show z=_;rw[←hz.out];unfold Zed;rw[Yab k5,Yab k6,Yab k7,Yab k8,Yab k9,Yab k10,Yab k11,Yab k12]
 clear k5 k6 k7 k8 k9 k10 k11 k12;go_enter func25,ntmps25;go_wp2_with fail;refine bodyPost_ret (v:= .tuple #[(.slice A2 (S.ses k).mine.length c2), .agg #[.int .i64 0, .int .i64 0]]) (by simp[results,results25,go_sem, *]) rfl ?_
 unfold Zeu;rw[HZ.out];obtain⟨l9,b9⟩:=FIN.out _ _ _ (Yag _ _) (HL0.out.below HB.out) (.int .i64 0) (.int .i64 0);exact⟨⟨_,rfl,l9⟩,b9⟩
def eqL:List Line→List Line→Bool
 | [],[]=>true
 |a::L,b::M=>(a.depth==b.depth&&(a.word.toList==b.word.toList&&a.mark==b.mark))&&eqL L M
 |_,_=>false
theorem Zxw: ∀ (L M:List Line),L.length≠M.length→eqL L M=false
 | [],[],h=>absurd rfl h
 | [],_::_,_=>rfl
 |_::_,[],_=>rfl
 |a::L,b::M,h=>by rw[eqL,Zxw L M (fun e=>h (by simp[e])),Yeo]
theorem Zajx (A A2:Option Addr) (c c2:Nat) (L M:List Line) (w:World) (hR:Rd w 3 A L.length (lines L)) (hR2:Rd w 3 A2 M.length (lines M)) (hl:L.length≤maxLen) (hl2:M.length≤maxLen):
 Calls prog 34 #[.slice A L.length c, .slice A2 M.length c2] w fun e w'=>e= .returned (.bool (eqL L M))∧Below w.heap.size w w':=by
 unfold maxLen at hl hl2;have HR:=Zhd hR;have HR2:=Zhd hR2;clear hR hR2;by_cases hn:L.length=M.length
 · rw [←hn];have HN:=Zhd hn;clear hn hl2;go_enter func34,ntmps34;go_wp2;go_loopw [13] (fun vi wr=> ∃ k:Nat,k≤L.length∧vi= .int .i64 k∧Hid (eqL L M=eqL (L.drop k) (M.drop k))∧Below w.heap.size w wr) (fun vi _=>L.length-(intOf vi).toNat)
   case atStart=>exact⟨0,Yas _,rfl,rfl,Yag _ _⟩
   case round=>
    obtain⟨k,hk,rfl,HQ,hbw⟩:=hrel;by_cases hlt:k<L.length
    · have hlt2:k<M.length:=by have:=HN.out;omega
      obtain⟨B,O,rfl,hB,hadd,x0,x1,x2⟩:=(HR.out.below hbw).line hlt;obtain⟨B2,O2,rfl,hB2,hadd2,y0,y1,y2⟩:=(HR2.out.below hbw).line hlt2;have hq:=HQ.out;rw[Yaz hlt,Yaz hlt2,eqL]at hq;clear HQ;generalize L[k]=a at *;generalize M[k]=b at *;obtain⟨d1,s1,m1⟩:=a;obtain⟨d2,s2,m2⟩:=b;by_cases hd:d1=d2
      · subst hd;by_cases hs:s1.toList=s2.toList
        · have e4:(s1.toList==s2.toList)=true:=by rw[beq_iff_eq];exact hs
          by_cases hm:m1=m2
          · subst hm;have HQ2:Hid (eqL L M=eqL (L.drop (k+1)) (M.drop (k+1))):=by show _=_;rw[hq];simp[e4]
            clear hq hs;go_wp2_with fail;go_region_held3 (fun W=>W.cell? ⟨B,O+k*3,none⟩=some (.int .i64 d1)∧W.cell? ⟨B,O+k*3+1,none⟩=some (.string s1)∧W.cell? ⟨B,O+k*3+2,none⟩=some (.int .i64 m1)∧W.cell? ⟨B2,O2+k*3,none⟩=some (.int .i64 d1)∧W.cell? ⟨B2,O2+k*3+1,none⟩=some (.string s2)∧W.cell? ⟨B2,O2+k*3+2,none⟩=some (.int .i64 m1)) (go_keep) ((fail))
            go_wp2_with fail;go_roundw
            case rel=>
             exact⟨k+1,by omega,by go_num,HQ2,hbw.drew⟩
            case measure=>simp[intOf];omega
          · have e3:(m1==m2)=false:=by rw[Yak];exact hm
            have HQ2:Hid (eqL L M=false):=by show _=_;rw[hq];simp[e3]
            clear hq;go_wp2_with fail;go_region_held3 (fun W=>W.cell? ⟨B,O+k*3,none⟩=some (.int .i64 d1)∧W.cell? ⟨B,O+k*3+1,none⟩=some (.string s1)∧W.cell? ⟨B,O+k*3+2,none⟩=some (.int .i64 m1)∧W.cell? ⟨B2,O2+k*3,none⟩=some (.int .i64 d1)∧W.cell? ⟨B2,O2+k*3+1,none⟩=some (.string s2)∧W.cell? ⟨B2,O2+k*3+2,none⟩=some (.int .i64 m2)) (go_keep) ((fail))
            go_wp2_with fail;go_ret;rw[HQ2.out];exact⟨rfl,hbw.drew⟩
        · have e3:(s1.toList==s2.toList)=false:=by rw[Yak];exact hs
          have HQ2:Hid (eqL L M=false):=by show _=_;rw[hq];simp[e3]
          clear hq;go_wp2_with fail;go_region_held3 (fun W=>W.cell? ⟨B,O+k*3,none⟩=some (.int .i64 d1)∧W.cell? ⟨B,O+k*3+1,none⟩=some (.string s1)∧W.cell? ⟨B,O+k*3+2,none⟩=some (.int .i64 m1)∧W.cell? ⟨B2,O2+k*3,none⟩=some (.int .i64 d1)∧W.cell? ⟨B2,O2+k*3+1,none⟩=some (.string s2)∧W.cell? ⟨B2,O2+k*3+2,none⟩=some (.int .i64 m2)) (go_keep) ((fail))
          go_wp2_with fail;go_ret;rw[HQ2.out];exact⟨rfl,hbw.drew⟩
      · have e3:(d1==d2)=false:=by rw[Yak];exact hd
        have HQ2:Hid (eqL L M=false):=by show _=_;rw[hq];simp[e3]
        clear hq;go_wp2_with fail;go_region_held3 (fun W=>W.cell? ⟨B,O+k*3,none⟩=some (.int .i64 d1)∧W.cell? ⟨B,O+k*3+1,none⟩=some (.string s1)∧W.cell? ⟨B,O+k*3+2,none⟩=some (.int .i64 m1)∧W.cell? ⟨B2,O2+k*3,none⟩=some (.int .i64 d2)∧W.cell? ⟨B2,O2+k*3+1,none⟩=some (.string s2)∧W.cell? ⟨B2,O2+k*3+2,none⟩=some (.int .i64 m2)) (go_keep) ((fail))
        go_wp2_with fail;go_ret;rw[HQ2.out];exact⟨rfl,hbw.drew⟩
    · have hke:k=L.length:=by omega
      have HQ2:Hid (eqL L M=true):=by show _=_;rw[HQ.out,hke,Ydo,HN.out,Ydo];rfl
      subst hke;clear HQ;go_wp2;go_ret;rw[HQ2.out];exact⟨rfl,hbw⟩
 · have HQ2:Hid (eqL L M=false):=Zxw _ _ hn;have e3:((L.length:Int)==(M.length:Int))=false:=by rw[Yak];omega
   go_enter func34,ntmps34;go_wp2;go_ret;rw[HQ2.out];exact⟨rfl,Yag _ _⟩
end Go.Proofs.Zq
