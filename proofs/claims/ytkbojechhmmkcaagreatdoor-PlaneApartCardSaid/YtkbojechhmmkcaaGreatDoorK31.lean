import Derived.Test.YtkbojechhmmkcaaGreatDoorK29
set_option linter.unusedVariables false
set_option linter.unusedSimpArgs false
set_option maxHeartbeats 4000000
set_option maxRecDepth 100000
namespace Go.Proofs.Zq
open Tryz
open Go Go.RowKit Go.Sort Tre Lx Prs Lns Edt Sch
theorem PlC.setClock {w:World} {C:Array Value} {S:Ps} (h:PlC w C S) (l:Int):PlC w (C.setIfInBounds 12 (.int .i64 l)) {S with clock:=l}:=by
 have hs:=h.size
 have g: ∀ j,(C.setIfInBounds 12 (.int .i64 l))[j]?=if j=12 then some (.int .i64 l)else C[j]?:=fun j=>by
  rw[Ycx];by_cases e:j=12
  · rw[Yam e.symm,Yam (by omega),Yam e]
  · rw[Yab (Ne.symm e),Yab e]
 refine⟨by simp[hs], ?_, ?_,fun j hj=> ?_,fun j hj=> ?_,fun j hj=> ?_, ?_, ?_, ?_, ?_⟩
 · rw[g,Yab (by omega)];exact h.run
 · rw[g,Yab (by omega)];exact h.revs
 · rw[g,Yab (by omega)];exact h.opn j hj
 · rw[g,Yab (by omega)];exact h.base j hj
 · rw[g,Yab (by omega)];exact h.mine j hj
 · rw[g,Yab (by omega)];exact h.lock
 · rw[g,Yam rfl]
 · rw[g,Yab (by omega)];exact h.dead
 · rw[g,Yab (by omega)];exact h.back
theorem Zazm (C:Array Value) (S:Ps) (n:Int) (w:World) (hP:PlC w C S) (hck:0≤S.clock∧S.clock≤2147483647) (hnn: -9223372036854775808≤n∧n≤9223372036854775807) (h5:S.revs.length≤5) (hl:0≤Zbl S∧Zbl S≤1000000000):
 Calls prog 21 #[.agg C, .int .i64 n] w (Zef (Zne S n) w):=by
 have hcs:=hP.size;obtain⟨wp,hwp⟩: ∃ wp,w.alloc (.cells C 32)=wp:=⟨_,rfl⟩;obtain⟨wq,hwq⟩: ∃ wq,wp.alloc (.cells #[.slice none 0 0, .slice none 0 0, .bool false, .slice none 0 0, .slice none 0 0, .bool false, .slice none 0 0, .slice none 0 0, .bool false, .slice none 0 0, .slice none 0 0, .int .i64 0, .int .i64 0, .int .i64 0, .slice none 0 0] 32)=wq:=⟨_,rfl⟩;obtain⟨wr,hwr⟩: ∃ wr,wq.alloc (.cells #[.int .i64 0, .int .i64 0] 39)=wr:=⟨_,rfl⟩;have hs1:w.heap.size<wp.heap.size:=by rw[←hwp];simp
 have hs2:wp.heap.size<wq.heap.size:=by rw[←hwq];simp
 have hs3:wq.heap.size<wr.heap.size:=by rw[←hwr];simp
 have Bp:Bl wr w.heap.size C 32:=by rw[←hwr,←hwq,←hwp];exact((Bl.new _ _ _).alloc _).alloc _
 have Bq:Bl wr wp.heap.size #[.slice none 0 0, .slice none 0 0, .bool false, .slice none 0 0, .slice none 0 0, .bool false, .slice none 0 0, .slice none 0 0, .bool false, .slice none 0 0, .slice none 0 0, .int .i64 0, .int .i64 0, .int .i64 0, .slice none 0 0] 32:=by rw[←hwr,←hwq];exact(Bl.new _ _ _).alloc _
 have Br:Bl wr wq.heap.size #[.int .i64 0, .int .i64 0] 39:=by rw[←hwr];exact Bl.new _ _ _
 have HBs:Hid (Below w.heap.size w wr):=by
  show Below _ _ _;rw[←hwr,←hwq,←hwp];refine Below.alloc (Below.alloc (Below.alloc (Yag _ _) (Yaf _) _) ?_ _) ?_ _<;>simp<;>omega
 have HP:Hid (∀ W,Below w.heap.size w W→PlC W C S):=fun W hb=>hP.below hb
 have hne:wq.heap.size≠wp.heap.size:=by omega
 have hge1:w.heap.size≤wp.heap.size:=by omega
 have hge2:w.heap.size≤wq.heap.size:=by omega
 have hn1:wp.heap.size≠w.heap.size:=by omega
 have hn2:wq.heap.size≠w.heap.size:=by omega
 obtain⟨z,hz0⟩: ∃ z,Zne S n=z:=⟨_,rfl⟩;rw[hz0];have hz:=Zhd hz0;have px:wr.cell? ⟨w.heap.size,12,none⟩=some (.int .i64 S.clock):=(Bp.cell _).trans hP.clock;have hwm:IntKind.i64.wrap (2147483647-S.clock)=2147483647-S.clock:=by rw[IntKind.wrap_i64];omega
 clear hz0;by_cases hn0:n<0
 · have HZ:Hid (z=(S,1,0)):=by
    show z=_;rw[←hz.out];unfold Zne;rw[Yam (.inl hn0)]
   go_enter func21,ntmps21;go_upto_region 2 with fail
   have hpc: ∀ W,Below w.heap.size w W→PlC W C S:=fun W hb'=>HP.out W hb'
   refine Zbo (C:=C) (R:= #[.int .i64 1, .int .i64 0]) Bp (hpc _ HBs.out).size (hpc _ HBs.out).one Bq rfl Br rfl rfl rfl hne (by rfl) (by go_simp) (by rfl) (by rfl) (by rfl) (by rfl) ?_
   intro W' _ _ hbw hq' hr';have hb':=hbw w.heap.size hge1 hge2 HBs.out;have hpw:=hpc _ hb';try simp only[Act.put,Yaa,Yac,Yad]
   go_wp2_with fail;refine bodyPost_ret (Zdj results21 (by rfl) (by rfl) hq' hpw.size hr' rfl) rfl ?_
   unfold Zef;rw[HZ.out];exact⟨⟨_,rfl,hpw.plR⟩,hb'⟩
 by_cases hb1:2147483647-S.clock<n
 · have HZ:Hid (z=(S,1,0)):=by
    show z=_;rw[←hz.out];unfold Zne;rw[Yam (.inr hb1)]
   go_enter func21,ntmps21;go_upto_region 2 with fail
   have hpc: ∀ W,Below w.heap.size w W→PlC W C S:=fun W hb'=>HP.out W hb'
   refine Zbo (C:=C) (R:= #[.int .i64 1, .int .i64 0]) Bp (hpc _ HBs.out).size (hpc _ HBs.out).one Bq rfl Br rfl rfl rfl hne (by rfl) (by go_simp) (by rfl) (by rfl) (by rfl) (by rfl) ?_
   intro W' _ _ hbw hq' hr';have hb':=hbw w.heap.size hge1 hge2 HBs.out;have hpw:=hpc _ hb';try simp only[Act.put,Yaa,Yac,Yad]
   go_wp2_with fail;refine bodyPost_ret (Zdj results21 (by rfl) (by rfl) hq' hpw.size hr' rfl) rfl ?_
   unfold Zef;rw[HZ.out];exact⟨⟨_,rfl,hpw.plR⟩,hb'⟩
 have hnb: ¬ (n<0∨2147483647-S.clock<n):=fun h=>h.elim hn0 hb1
 have HNB:=Zhd hnb;have hwc:IntKind.i64.wrap (S.clock+n)=S.clock+n:=by rw[IntKind.wrap_i64];omega
 have pf: ∀ j,wr.frozen? ⟨w.heap.size,j,none⟩=false:=Bp.froz;clear hnb;obtain⟨w7,hw7⟩: ∃ x,wr.setCell ⟨w.heap.size,12,none⟩ (.int .i64 (S.clock+n))=x:=⟨_,rfl⟩;have B7p:Bl w7 w.heap.size (C.setIfInBounds 12 (.int .i64 (S.clock+n))) 32:=by rw[←hw7];exact Bp.set _ _
 have B7q:Bl w7 wp.heap.size #[.slice none 0 0, .slice none 0 0, .bool false, .slice none 0 0, .slice none 0 0, .bool false, .slice none 0 0, .slice none 0 0, .bool false, .slice none 0 0, .slice none 0 0, .int .i64 0, .int .i64 0, .int .i64 0, .slice none 0 0] 32:=by rw[←hw7];exact Bq.other hn1 _
 have B7r:Bl w7 wq.heap.size #[.int .i64 0, .int .i64 0] 39:=by rw[←hw7];exact Br.other hn2 _
 have HB7:Hid (Below w.heap.size w w7):=by show Below _ _ _;rw[←hw7];exact HBs.out.setCell (p:=⟨_,_,none⟩) (Yaf _) _
 have HP7:Hid (∀ W,Below w.heap.size w W→PlC W (C.setIfInBounds 12 (.int .i64 (S.clock+n))) {S with clock:=S.clock+n}):=fun W hb=>(HP.out W hb).setClock _
 have pd:w7.cell? ⟨w.heap.size,13,none⟩=some (.int .i64 S.dead):=(B7p.cell _).trans (HP7.out _ HB7.out).dead;have pc:w7.cell? ⟨w.heap.size,12,none⟩=some (.int .i64 (S.clock+n)):=(B7p.cell _).trans (HP7.out _ HB7.out).clock;obtain⟨vb,eb,hlb⟩:=(HP7.out _ HB7.out).back;obtain⟨At,ct,rfl,-⟩:=id hlb;have pb:w7.cell? ⟨w.heap.size,14,none⟩=some (.slice At S.back.length ct):=(B7p.cell _).trans eb;have pg: ∀ j,w7.frozen? ⟨w.heap.size,j,none⟩=false:=B7p.froz
 have HLB:Hid (∀ W,Below w.heap.size w W→Lr W (.slice At S.back.length ct) S.back):=by
  obtain⟨vb2,eb2,hlb2⟩:=hP.back
  have:some vb2=some (.slice At S.back.length ct):=by
   rw[←eb2,←eb,Array.getElem?_setIfInBounds_ne (by decide)]
  injection this with this
  subst this;exact fun W hb=>hlb2.below hb
 clear eb hlb;have HH5:=Zhd h5;have HHL:=Zhd hl;clear h5 hl hck hnn;by_cases d0:S.dead=0
 · have HZ:Hid (z=({S with clock:=S.clock+n},0,0)):=by
    show z=_;rw[←hz.out];unfold Zne;rw[Yab HNB.out,Yam (.inl d0)]
   have hd0:(S.dead==0)=true:=by rw[d0];rfl
   clear d0;go_enter func21,ntmps21;go_upto_region 5 with fail
   have hpc: ∀ W,Below w.heap.size w W→PlC W (C.setIfInBounds 12 (.int .i64 (S.clock+n))) {S with clock:=S.clock+n}:=fun W hb'=>HP7.out W hb'
   refine Zbo (C:=(C.setIfInBounds 12 (.int .i64 (S.clock+n)))) (R:= #[.int .i64 0, .int .i64 0]) B7p (hpc _ HB7.out).size (hpc _ HB7.out).one B7q rfl B7r rfl rfl rfl hne (by rfl) (by go_simp) (by rfl) (by rfl) (by rfl) (by rfl) ?_
   intro W' _ _ hbw hq' hr';have hb':=hbw w.heap.size hge1 hge2 HB7.out;have hpw:=hpc _ hb';try simp only[Act.put,Yaa,Yac,Yad]
   go_wp2_with fail;refine bodyPost_ret (Zdj results21 (by rfl) (by rfl) hq' hpw.size hr' rfl) rfl ?_
   unfold Zef;rw[HZ.out];exact⟨⟨_,rfl,hpw.plR⟩,hb'⟩
 have hd0:(S.dead==0)=false:=by rw[Yak];exact d0
 by_cases d1:S.clock+n<S.dead
 · have HZ:Hid (z=({S with clock:=S.clock+n},0,0)):=by
    show z=_;rw[←hz.out];unfold Zne;rw[Yab HNB.out,Yam (.inr d1)]
   clear d0;go_enter func21,ntmps21;go_upto_region 5 with fail
   have hpc: ∀ W,Below w.heap.size w W→PlC W (C.setIfInBounds 12 (.int .i64 (S.clock+n))) {S with clock:=S.clock+n}:=fun W hb'=>HP7.out W hb'
   refine Zbo (C:=(C.setIfInBounds 12 (.int .i64 (S.clock+n)))) (R:= #[.int .i64 0, .int .i64 0]) B7p (hpc _ HB7.out).size (hpc _ HB7.out).one B7q rfl B7r rfl rfl rfl hne (by rfl) (by go_simp) (by rfl) (by rfl) (by rfl) (by rfl) ?_
   intro W' _ _ hbw hq' hr';have hb':=hbw w.heap.size hge1 hge2 HB7.out;have hpw:=hpc _ hb';try simp only[Act.put,Yaa,Yac,Yad]
   go_wp2_with fail;refine bodyPost_ret (Zdj results21 (by rfl) (by rfl) hq' hpw.size hr' rfl) rfl ?_
   unfold Zef;rw[HZ.out];exact⟨⟨_,rfl,hpw.plR⟩,hb'⟩
 have HZ:Hid (z=(Zej (Zrm S n) S.back,0,Zbl (Zej (Zrm S n) S.back))):=by
  show z=_;rw[←hz.out];unfold Zne;rw[Yab HNB.out,Yab (fun h=>h.elim d0 d1)]
 clear d0;obtain⟨w8,hw8⟩: ∃ x,(w7.setCell ⟨w.heap.size,13,none⟩ (.int .i64 0)).setCell ⟨w.heap.size,14,none⟩ (.slice none 0 0)=x:=⟨_,rfl⟩;have HB':Hid (Bl w8 w.heap.size (((C.setIfInBounds 12 (.int .i64 (S.clock+n))).setIfInBounds 13 (.int .i64 0)).setIfInBounds 14 (.slice none 0 0)) 32):=by show Bl _ _ _ _;rw[←hw8];exact(B7p.set _ _).set _ _
 have HQ':Hid (Bl w8 wp.heap.size #[.slice none 0 0, .slice none 0 0, .bool false, .slice none 0 0, .slice none 0 0, .bool false, .slice none 0 0, .slice none 0 0, .bool false, .slice none 0 0, .slice none 0 0, .int .i64 0, .int .i64 0, .int .i64 0, .slice none 0 0] 32):=by show Bl _ _ _ _;rw[←hw8];exact(B7q.other hn1 _).other hn1 _
 have HR':Hid (Bl w8 wq.heap.size #[.int .i64 0, .int .i64 0] 39):=by show Bl _ _ _ _;rw[←hw8];exact(B7r.other hn2 _).other hn2 _
 have HBW:Hid (Below w.heap.size w w8):=by show Below _ _ _;rw[←hw8];exact(HB7.out.setCell (p:=⟨_,_,none⟩) (Yaf _) _).setCell (p:=⟨_,_,none⟩) (Yaf _) _
 have hPC:PlC w8 (((C.setIfInBounds 12 (.int .i64 (S.clock+n))).setIfInBounds 13 (.int .i64 0)).setIfInBounds 14 (.slice none 0 0)) (Zrm S n):=((HP7.out _ HBW.out).setDead 0).setBack _ [] (Zdr _);have hlt:=HLB.out _ HBW.out;have hC's:=hPC.size;have HM:=Zhd (Zabt _ (Zrm S n) At ct S.back _ hPC hlt HH5.out HHL.out)
 have h5m:(Zej (Zrm S n) S.back).revs.length≤5:=by
  have:=HH5.out;show((S.revs++ [(Zbl (Zrm S n)+1,S.back)]).drop (S.revs.length+1-5)).length≤5;rw[Yan,Yae];show S.revs.length+1-_≤5;omega
 have hB'lt:=HB'.out.lt;have hQ'lt:=HQ'.out.lt;have hR'lt:=HR'.out.lt;have HPC':=HBW;have HO':=HBW;obtain⟨C',hC'⟩: ∃ x,(((C.setIfInBounds 12 (.int .i64 (S.clock+n))).setIfInBounds 13 (.int .i64 0)).setIfInBounds 14 (.slice none 0 0))=x:=⟨_,rfl⟩;rw[hC']at HB' hPC hC's HM;obtain⟨S',hS'⟩: ∃ x,Zrm S n=x:=⟨_,rfl⟩;rw[hS']at hPC HM h5m HZ;obtain⟨T,hT⟩: ∃ x,S.back=x:=⟨_,rfl⟩;rw[hT]at pb HM h5m HZ hlt;clear hC' hS' hT HLB HH5 HHL HP7 HB7;go_enter func21,ntmps21;go_upto_region 8 with fail
 refine wp_region_lit ?_;refine wpList_load_mid rfl 32 _ rfl w.heap.size 0 (by rfl) C'.toList _ HB'.out.range underlying32 rfl (by rw[Yau,hC's];exact Zam) ?_
 rw[show C'.toList.toArray=C' from rfl];try simp only[Act.put,Yaa,Yac,Yad]
 go_wp2_with fail;go_at_call 30;refine HM.out.mono ?_;rintro e w9 ⟨⟨C2,rfl,hP2,hA2⟩,hb9⟩;have B9p:=HB'.out.below hb9;have B9q:=HQ'.out.below hb9;have B9r:=HR'.out.below hb9;have HB9:=Zhd (Zaa HBW.out hb9);have hC2:=hP2.size;clear HM hb9;rename_i hKx;refine hKx _ _ ?_;clear hKx;try simp only[Act.put,Yaa,Yac,Yad]
 refine wpList_store_mid rfl 32 _ _ rfl w.heap.size 0 C2 (by rfl) (by rfl) (B9p.there (by omega)) (by rw[hC2];exact Zam) (Ybo.2 fun v hv=>Ybt.1 hP2.one v (by simpa using hv)) ?_
 obtain⟨wA,hwA⟩: ∃ x,w9.setCells w.heap.size 0 C2.toList=x:=⟨_,rfl⟩;rw[hwA];have BAp:Bl wA w.heap.size C2 32:=by rw[←hwA];exact B9p.sets (D:=C2) (by omega)
 have BAq:Bl wA wp.heap.size #[.slice none 0 0, .slice none 0 0, .bool false, .slice none 0 0, .slice none 0 0, .bool false, .slice none 0 0, .slice none 0 0, .bool false, .slice none 0 0, .slice none 0 0, .int .i64 0, .int .i64 0, .int .i64 0, .slice none 0 0] 32:=by rw[←hwA];exact B9q.others hn1 _
 have BAr:Bl wA wq.heap.size #[.int .i64 0, .int .i64 0] 39:=by rw[←hwA];exact B9r.others hn2 _
 have HBA:Hid (Below w.heap.size w wA):=by show Below _ _ _;rw[←hwA];exact Zap (Yaf _) C2.toList 0 HB9.out
 have hPA:PlC wA C2 (Zej S' T):=by
  rw[←hwA];exact hP2.off B9p (by decide) hPC.nostr ((Off.refl _ _).setCells _ 0)
 have HL:=Zhd (fun W (hb:Below wA.heap.size wA W)=>Zos C2 (Zej S' T) W (hPA.below hb) h5m)
 have HPA:Hid (∀ W,Off wp.heap.size wA W→PlC W C2 (Zej S' T)):=fun W ho=>hPA.off BAq (by decide) rfl ho
 have h1C:=hPA.one;obtain⟨ln,hln⟩: ∃ ln,Zbl (Zej S' T)=ln:=⟨_,rfl⟩;rw[hln]at HL HZ;clear hwA B9p B9q B9r HB9 hP2 hA2 hPC HPC' hPA HB' HQ' HR' HBW HO' hlt hln;try simp only[Act.put,Yaa,Yac,Yad]
 go_upto_region 9 with fail
 refine wp_region_noPanic ?_;refine wp_region_held_drew (S:=fun W=>Bl W w.heap.size C2 32) (by kernel_rfl) BAp.drew (fun hHeld=> ?_)
 refine wpAnyH_take (i:=0) (v:= .agg C2) rfl (by kernel_rfl) (by kernel_rfl) (by kernel_rfl) (fun _ _ _ h=>h) (yieldsIf_load_mid (by rfl) 32 _ rfl w.heap.size 0 rfl C2.toList _ (fun W h=>h.range) underlying32 rfl (by rw[Yau,hC2];exact Zam)) hHeld ?_
 try simp only[Act.put,Yaa,Yac,Yad]
 refine wpAnyH_take (i:=1) (v:= .agg C2) rfl (by kernel_rfl) (by kernel_rfl) (by kernel_rfl) (fun _ _ _ h=>h) (yieldsIf_load_mid (by rfl) 32 _ rfl w.heap.size 0 rfl C2.toList _ (fun W h=>h.range) underlying32 rfl (by rw[Yau,hC2];exact Zam)) hHeld ?_
 try simp only[Act.put,Yaa,Yac,Yad]
 refine wpAnyH_ready (rs:= [2]) (by kernel_rfl) (by simp) ?_
 refine AllReadyH.cons rfl (fun K hK=> ?_) AllReadyH.nil
 go_simp;go_at_call 18;refine(HL.out _ (Yag _ _).drew).mono ?_;rintro e w10 ⟨rfl,hb10⟩;have B10p:=BAp.drew.below hb10;have B10q:=BAq.drew.below hb10;have B10r:=BAr.drew.below hb10;have HBx:=Zhd (Zaa (show Below wA.heap.size wA wA.drew from(Yag _ _).drew) hb10)
 have HO10:=Zhd (show Off wp.heap.size wA w10 from Off.below HBx.out)
 have HB10:=Zhd (Zaa HBA.out HBx.out);clear hb10 HL BAp BAq BAr HBx;refine hK.out _ _ B10p (fun _=> ?_)
 clear hK K;try simp only[Act.put,Yaa,Yac,Yad]
 refine wpAnyH_take (i:=3) (oi:={dst:=some 45,op:= .build 39 #[(1, .tmp 44)],type:=39,pos:= "plane.go:161",after:= #[{on:=2,ground:= .data},{on:=4,ground:= .gcOnly .lateStores}],guard:=none}) (v:= .agg #[.int .i64 0, .int .i64 ln]) rfl (by kernel_rfl) (by kernel_rfl) (by kernel_rfl) (fun _ _ _ h=>h) (Or.inl ⟨by rfl, ?_⟩) B10p ?_
 · intro W hW;go_simp
 try simp only[Act.put,Yaa,Yac,Yad]
 refine wpAnyH_ready (rs:= [4]) (by kernel_rfl) (by simp) ?_
 refine AllReadyH.cons rfl (fun K hK=> ?_) AllReadyH.nil
 refine Zio (C:= #[.slice none 0 0, .slice none 0 0, .bool false, .slice none 0 0, .slice none 0 0, .bool false, .slice none 0 0, .slice none 0 0, .bool false, .slice none 0 0, .slice none 0 0, .int .i64 0, .int .i64 0, .int .i64 0, .slice none 0 0]) (D:=C2) 32 rfl _ _ rfl wp.heap.size B10q hC2.symm (by rfl) (by rfl) (by rw[hC2];exact Zam) h1C ?_
 intro w11 hw11;have B11p:=B10p.others (o:=0) hn1.symm C2.toList;rw[hw11]at B11p;have B11q:=B10q.sets (D:=C2) hC2;rw[hw11]at B11q;have B11r:=B10r.others (o:=0) hne C2.toList;rw[hw11]at B11r;have HB11:=Zhd (Zap hge1 C2.toList 0 HB10.out);have HO11:=Zhd (HO10.out.setCells C2.toList 0);rw[hw11]at HB11 HO11;refine hK.out _ _ B11p (fun _=> ?_)
 clear hK K hw11;try simp only[Act.put,Yaa,Yac,Yad]
 refine wpAnyH_ready (rs:= [5]) (by kernel_rfl) (by simp) ?_
 refine AllReadyH.cons rfl (fun K hK=> ?_) AllReadyH.nil
 refine Zio (C:= #[.int .i64 0, .int .i64 0]) (D:= #[.int .i64 0, .int .i64 ln]) 39 rfl _ _ rfl wq.heap.size B11r rfl (by rfl) (by rfl) Zcq (by rfl) ?_
 intro w12 hw12;have B12p:=B11p.others (o:=0) hn2.symm (#[.int .i64 0, .int .i64 ln]:Array Value).toList;rw[hw12]at B12p;have B12q:=B11q.others (o:=0) hne.symm (#[.int .i64 0, .int .i64 ln]:Array Value).toList;rw[hw12]at B12q;have B12r:=B11r.sets (D:= #[.int .i64 0, .int .i64 ln]) rfl;rw[hw12]at B12r;have HB12:=Zhd (Zap hge2 (#[.int .i64 0, .int .i64 ln]:Array Value).toList 0 HB11.out);rw[hw12]at HB12
 have hP12:PlC w12 C2 (Zej S' T):=by
  rw[←hw12];exact(HPA.out _ HO11.out).off B11r (by decide) rfl ((Off.refl _ _).setCells _ 0)
 refine hK.out _ _ B12p (fun _=> ?_)
 clear hK K hw12;try simp only[Act.put,Yaa,Yac,Yad]
 refine wpAnyH_done (by kernel_rfl) ?_ _
 refine NoPanic.normal ?_;go_wp2_with fail;refine bodyPost_ret (Zdj results21 (by rfl) (by rfl) B12q hC2 B12r rfl) rfl ?_
 unfold Zef;rw[HZ.out];exact⟨⟨_,rfl,hP12.plR⟩,HB12.out⟩
end Go.Proofs.Zq
