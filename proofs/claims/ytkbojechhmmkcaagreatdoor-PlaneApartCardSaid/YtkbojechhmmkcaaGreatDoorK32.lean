import Derived.Test.YtkbojechhmmkcaaGreatDoorK30
import Derived.Test.YtkbojechhmmkcaaGreatDoorK31
set_option linter.unusedVariables false
set_option linter.unusedSimpArgs false
set_option maxHeartbeats 4000000
set_option maxRecDepth 100000
namespace Go.Proofs.Zq
open Tryz
open Go Go.RowKit Go.Sort Tre Lx Prs Lns Edt Sch
theorem Zaia {C:Array Value} {i:Nat} {v:Value} (h:C[i]?=some v):C.setIfInBounds i v=C:=by
 refine Array.ext_getElem? fun j=> ?_
 rw[Ycx];split
 · rename_i e;subst e;obtain⟨h1,-⟩:=Ybf.1 h;rw[Yam h1,h]
 · rfl
theorem PlC.setMine {w:World} {C:Array Value} {S:Ps} (h:PlC w C S) (k:Nat) (hk:k<3) (v:Value) (M:List Line) (hM:Lr w v M) (ho:(S.ses k).opn=true):PlC w (C.setIfInBounds (2+k*3+2) v) (S.setSes k ⟨true,(S.ses k).base,M⟩):=by
 obtain⟨v1,e1,hb⟩:=h.base k hk;have e0:=h.opn k hk;rw[ho]at e0;have:=h.setSes k hk true v1 v (S.ses k).base M hb hM;rw[Zaia e0,Zaia e1]at this;exact this
theorem Zzg {ops:Array Oper} {sv s1 s2:Nat} {t1 t2 t3 t4:TypeId} {p1 p2 p3 p4:String} {f1 f2 f3 f4:Array Edge} {Q:Exit→Act→World→Prop} {a:Act} {W:World} {q r:Nat} {C Z R Y:Array Value}
 (hc:C.size=15) (h1:C.toList.all (·.oneCell')=true) (hq:Bl W q Z 32) (hz:Z.size=15) (hr:Bl W r Y 39) (hy:Y.size=2) (hR:R.size=2) (hR1:R.toList.all (·.oneCell')=true) (hqr:r≠q)
 (a0:(execOp a.eval {dst:=some s1,op:= .extract (.tmp sv) 0,type:=t1,pos:=p1,after:=f1,guard:=none}).run prog W= .ok (.value (.agg C)) W)
 (a9:(execOp (a.put (some s1) (.agg C)).eval {dst:=some s2,op:= .extract (.tmp sv) 1,type:=t2,pos:=p2,after:=f2,guard:=none}).run prog W= .ok (.value (.agg R)) W)
 (a4:((a.put (some s1) (.agg C)).put (some s2) (.agg R)).eval (.tmp 4)= .pointer (some ⟨q,0,none⟩)) (a1:((a.put (some s1) (.agg C)).put (some s2) (.agg R)).eval (.tmp s1)= .agg C)
 (a5:(((a.put (some s1) (.agg C)).put (some s2) (.agg R)).put none undef).eval (.tmp 5)= .pointer (some ⟨r,0,none⟩)) (a6:(((a.put (some s1) (.agg C)).put (some s2) (.agg R)).put none undef).eval (.tmp s2)= .agg R)
 (h: ∀ W',Off q W (W.setCells q 0 C.toList)→Off r (W.setCells q 0 C.toList) W'→(∀ B,B≤q→B≤r→ ∀ {w0},Below B w0 W→Below B w0 W')→Bl W' q C 32→Bl W' r R 39→Q .normal ((((a.put (some s1) (.agg C)).put (some s2) (.agg R)).put none undef).put none undef) W'):
 wpList prog ops Q [{dst:=some s1,op:= .extract (.tmp sv) 0,type:=t1,pos:=p1,after:=f1,guard:=none},{dst:=some s2,op:= .extract (.tmp sv) 1,type:=t2,pos:=p2,after:=f2,guard:=none},{dst:=none,op:= .store 32 (.tmp 4) (.tmp s1),type:=t3,pos:=p3,after:=f3,guard:=none},{dst:=none,op:= .store 39 (.tmp 5) (.tmp s2),type:=t4,pos:=p4,after:=f4,guard:=none}] a W:=by
 refine wpList_plain rfl fun K hK=> ?_
 unfold Oper.wp;rw[a0];refine hK _ _ ?_;refine wpList_plain rfl fun K hK=> ?_
 unfold Oper.wp;rw[a9];refine hK _ _ ?_;refine wpList_store_mid rfl 32 _ _ rfl q 0 C a4 a1 (hq.there (by omega)) (by rw[hc];exact Zam) (Ybo.2 fun v hv=>Ybt.1 h1 v (by simpa using hv)) ?_
 have hr1:=hr.others (o:=0) hqr C.toList;have hq1:=hq.sets (D:=C) (by omega)
 refine wpList_store_mid rfl 39 _ _ rfl r 0 R a5 a6 (hr1.there (by omega)) (by rw[hR];exact Zcq) (Ybo.2 fun v hv=>Ybt.1 hR1 v (by simpa using hv)) ?_
 refine wpList_nil ?_;exact h _ ((Off.refl _ _).setCells _ 0) ((Off.refl _ _).setCells _ 0) (fun B b1 b2 w0 hb=>Zap b2 _ _ (Zap b1 _ _ hb)) (hq1.others (Ne.symm hqr) _) (hr1.sets (by omega))
theorem Zkn (C:Array Value) (S:Ps) (o:Opp) (who:Int) (Ap:Option Addr) (cp:Nat) (w:World) (hP:PlC w C S) (hE:Env w) (hR:Rd w 1 Ap o.path.length (sv o.path)) (hcp:o.path.length≤cp) (hc2:cp≤maxLen) (hlP:o.path.length≤1000000) (htx:o.text.size≤1000000)
 (hnn: -9223372036854775808≤o.n∧o.n≤9223372036854775807) (t:Int) (hok:PsOk t S) (ht:t≤1000000000):
 Calls prog 11 #[.agg C, .agg #[.int .i64 o.kind, .int .i64 who, .slice Ap o.path.length cp, .string o.word, .int .i64 o.bit, .int .i64 o.n, .string o.text]] w (Zef (doS S o who) w):=by
 have hcs:=hP.size;obtain⟨wp,hwp⟩: ∃ wp,w.alloc (.cells C 32)=wp:=⟨_,rfl⟩;obtain⟨wo,hwo⟩: ∃ wo,wp.alloc (.cells #[.int .i64 o.kind, .int .i64 who, .slice Ap o.path.length cp, .string o.word, .int .i64 o.bit, .int .i64 o.n, .string o.text] 36)=wo:=⟨_,rfl⟩;obtain⟨wq,hwq⟩: ∃ wq,wo.alloc (.cells #[.slice none 0 0, .slice none 0 0, .bool false, .slice none 0 0, .slice none 0 0, .bool false, .slice none 0 0, .slice none 0 0, .bool false, .slice none 0 0, .slice none 0 0, .int .i64 0, .int .i64 0, .int .i64 0, .slice none 0 0] 32)=wq:=⟨_,rfl⟩;obtain⟨wr,hwr⟩: ∃ wr,wq.alloc (.cells #[.int .i64 0, .int .i64 0] 39)=wr:=⟨_,rfl⟩;have hs1:w.heap.size<wp.heap.size:=by rw[←hwp];simp
 have hs2:wp.heap.size<wo.heap.size:=by rw[←hwo];simp
 have hs3:wo.heap.size<wq.heap.size:=by rw[←hwq];simp
 have hs4:wq.heap.size<wr.heap.size:=by rw[←hwr];simp
 have Bp:Bl wr w.heap.size C 32:=by rw[←hwr,←hwq,←hwo,←hwp];exact(((Bl.new _ _ _).alloc _).alloc _).alloc _
 have Bo:Bl wr wp.heap.size #[.int .i64 o.kind, .int .i64 who, .slice Ap o.path.length cp, .string o.word, .int .i64 o.bit, .int .i64 o.n, .string o.text] 36:=by rw[←hwr,←hwq,←hwo];exact((Bl.new _ _ _).alloc _).alloc _
 have Bq:Bl wr wo.heap.size #[.slice none 0 0, .slice none 0 0, .bool false, .slice none 0 0, .slice none 0 0, .bool false, .slice none 0 0, .slice none 0 0, .bool false, .slice none 0 0, .slice none 0 0, .int .i64 0, .int .i64 0, .int .i64 0, .slice none 0 0] 32:=by rw[←hwr,←hwq];exact(Bl.new _ _ _).alloc _
 have Br:Bl wr wq.heap.size #[.int .i64 0, .int .i64 0] 39:=by rw[←hwr];exact Bl.new _ _ _
 have HBs:Hid (Below w.heap.size w wr):=by
  show Below _ _ _;rw[←hwr,←hwq,←hwo,←hwp];refine Below.alloc (Below.alloc (Below.alloc (Below.alloc (Yag _ _) (Yaf _) _) ?_ _) ?_ _) ?_ _<;>simp<;>omega
 have HP:Hid (∀ W,Below w.heap.size w W→PlC W C S):=fun W hb=>hP.below hb
 have HPr:=Zhd (HP.out _ HBs.out);have HEr:=Zhd (hE.below HBs.out);have HRr:=Zhd (hR.below HBs.out);have HOK:=Zhd hok;have hne:wq.heap.size≠wo.heap.size:=by omega
 have hge1:w.heap.size≤wo.heap.size:=by omega
 have hge2:w.heap.size≤wq.heap.size:=by omega
 have hn1:wo.heap.size≠w.heap.size:=by omega
 have hn2:wq.heap.size≠w.heap.size:=by omega
 have ox0:wr.cell? ⟨wp.heap.size,0,none⟩=some (.int .i64 o.kind):=(Bo.cell _).trans rfl;have ox1:wr.cell? ⟨wp.heap.size,1,none⟩=some (.int .i64 who):=(Bo.cell _).trans rfl;have ox2:wr.cell? ⟨wp.heap.size,2,none⟩=some (.slice Ap o.path.length cp):=(Bo.cell _).trans rfl;have ox3:wr.cell? ⟨wp.heap.size,3,none⟩=some (.string o.word):=(Bo.cell _).trans rfl;have ox4:wr.cell? ⟨wp.heap.size,4,none⟩=some (.int .i64 o.bit):=(Bo.cell _).trans rfl;have ox5:wr.cell? ⟨wp.heap.size,5,none⟩=some (.int .i64 o.n):=(Bo.cell _).trans rfl;have ox6:wr.cell? ⟨wp.heap.size,6,none⟩=some (.string o.text):=(Bo.cell _).trans rfl;obtain⟨z,hz0⟩: ∃ z,doS S o who=z:=⟨_,rfl⟩;rw[hz0];have hz:=Zhd hz0;have HLb:Hid (0≤Zbl S∧Zbl S≤1000000000):=⟨hok.last.1,Int.le_trans hok.last.2 ht⟩;clear hz0 hE hR hok hP;go_enter func11,ntmps11;by_cases k15:o.kind=15
 · have hk15:(o.kind==15)=true:=by rw[k15];rfl
   have HT:=Zhd (Zazm C S o.n wr HPr.out HOK.out.clock hnn HOK.out.len5 HLb.out);rw[show Zne S o.n=z by rw[←hz.out];unfold doS;rw[Yam k15]]at HT
   clear k15;go_upto_region 2 with fail
   refine wp_region_lit ?_;refine wpList_load_mid rfl 32 _ rfl w.heap.size 0 (by rfl) C.toList _ Bp.range underlying32 rfl (by rw[Yau,hcs];exact Zam) ?_
   rw[show C.toList.toArray=C from rfl];try simp only[Act.put,Yaa,Yac,Yad]
   go_wp2_with fail;go_at_call 21;refine HT.out.mono ?_;rintro e w5 ⟨⟨v5,rfl,hv5⟩,hb5⟩;obtain⟨C2,rfl,hC2⟩:=hv5.cells;have hc2:=hC2.size;have hB5:=Zaa HBs.out hb5;have B5q:=Bq.below hb5;have B5r:=Br.below hb5;rename_i hKx;refine hKx _ _ ?_;clear hKx;try simp only[Act.put,Yaa,Yac,Yad]
   refine Zzg (C:=C2) (R:= #[.int .i64 z.2.1, .int .i64 z.2.2]) hc2 hC2.one B5q rfl B5r rfl rfl rfl hne (by rfl) (by rfl) (by rfl) (by rfl) (by rfl) (by rfl) ?_
   intro W' hf1 hf2 hbw hq' hr';have hb':=hbw w.heap.size hge1 hge2 hB5;have hpw:=(hC2.off B5q (by decide) rfl hf1).off (B5r.others hne _) (by decide) rfl hf2
   try simp only[Act.put,Yaa,Yac,Yad]
   go_wp2_with fail;refine bodyPost_ret (Zdj results11 (by rfl) (by rfl) hq' hpw.size hr' rfl) rfl ?_
   unfold Zef;exact⟨⟨_,rfl,hpw.plR⟩,hb'⟩
 have hk15:(o.kind==15)=false:=by rw[Yak];exact k15
 go_upto_region 3 with fail
 go_cut [20] (fun v wx=> ∃ b:Bool,v= .bool b∧Hid (b=decide (o.kind<1∨15<o.kind∨who<0∨3≤who))∧wr=wx)
 case first=>
  by_cases c1:o.kind<1
  · go_wp2_with fail;go_meet;exact⟨_,rfl,Zhd (by first|exact(Yal (by omega)).symm|exact(Yai (by omega)).symm|simp[*]),rfl⟩
  · by_cases c2:15<o.kind
    · go_wp2_with fail;go_meet;exact⟨_,rfl,Zhd (by first|exact(Yal (by omega)).symm|exact(Yai (by omega)).symm|simp[*]),rfl⟩
    · by_cases c3:who<0
      · go_wp2_with fail;go_meet;exact⟨_,rfl,Zhd (by first|exact(Yal (by omega)).symm|exact(Yai (by omega)).symm|simp[*]),rfl⟩
      · by_cases c4:3≤who
        · go_wp2_with fail;go_meet;exact⟨_,rfl,Zhd (by first|exact(Yal (by omega)).symm|exact(Yai (by omega)).symm|simp[*]),rfl⟩
        · go_wp2_with fail;go_meet;exact⟨_,rfl,Zhd (by first|exact(Yal (by omega)).symm|exact(Yai (by omega)).symm|simp[*]),rfl⟩
 obtain⟨b,rfl,HBv,rfl⟩:=hcut;by_cases bad:o.kind<1∨15<o.kind∨who<0∨3≤who
 · obtain rfl:b=true:=by rw[HBv.out];exact Yal bad
   have HZ:Hid (z=(S,1,0)):=by
    show z=_;rw[←hz.out];unfold doS;rw[Yab k15,Yam bad]
   clear bad;go_upto_region 4 with fail
   have hpc: ∀ W,Below w.heap.size w W→PlC W C S:=fun W hb'=>HP.out W hb'
   refine Zbo (C:=C) (R:= #[.int .i64 1, .int .i64 0]) Bp (hpc _ HBs.out).size (hpc _ HBs.out).one Bq rfl Br rfl rfl rfl hne (by rfl) (by go_simp) (by rfl) (by rfl) (by rfl) (by rfl) ?_
   intro W' _ _ hbw hq' hr';have hb':=hbw w.heap.size hge1 hge2 HBs.out;have hpw:=hpc _ hb';try simp only[Act.put,Yaa,Yac,Yad]
   go_wp2_with fail;refine bodyPost_ret (Zdj results11 (by rfl) (by rfl) hq' hpw.size hr' rfl) rfl ?_
   unfold Zef;rw[HZ.out];exact⟨⟨_,rfl,hpw.plR⟩,hb'⟩
 obtain rfl:b=false:=by rw[HBv.out];exact Yai bad
 clear HBv;obtain⟨k,rfl⟩: ∃ k:Nat,who=(k:Int):=⟨who.toNat,by omega⟩
 have hk:k<3:=by omega
 have g2:1≤o.kind:=by omega
 have g3:o.kind≤15:=by omega
 have HK15:=Zhd k15;have hki:(k:Int)<3:=by omega
 have hk0:(0:Int)≤(k:Int):=by omega
 have hwk:IntKind.i64.wrap ((k:Int)+1)=(k:Int)+1:=by rw[IntKind.wrap_i64];omega
 clear bad;have px1:wr.cell? ⟨w.heap.size,2+k*3,none⟩=some (.bool (S.ses k).opn):=(Bp.cell _).trans (HPr.out.opn k hk);have px2:wr.cell? ⟨w.heap.size,11,none⟩=some (.int .i64 S.lock):=(Bp.cell _).trans HPr.out.lock;go_upto_region 5 with fail
 go_cut [41] (fun v wx=> ∃ b:Bool,v= .bool b∧Hid (b=decide (o.kind≠1∧(S.ses k).opn=false))∧wr=wx)
 case first=>
  by_cases c1:o.kind=1
  · have hc1:(o.kind==1)=true:=by rw[c1];rfl
    go_wp2_with fail;go_meet;exact⟨_,rfl,Zhd (by first|exact(Yal (by omega)).symm|exact(Yai (by omega)).symm|simp[*]),rfl⟩
  · have hc1:(o.kind==1)=false:=by rw[Yak];exact c1
    cases ho:(S.ses k).opn with
    | true=>
      rw[ho]at px1;go_wp2_with fail;go_meet;exact⟨_,rfl,Zhd (by first|exact(Yal (by omega)).symm|exact(Yai (by omega)).symm|simp[*]),rfl⟩
    | false=>
      rw[ho]at px1;go_wp2_with fail;go_meet;exact⟨_,rfl,Zhd (by first|exact(Yal (by omega)).symm|exact(Yai (by omega)).symm|simp[*]),rfl⟩
 obtain⟨b,rfl,HBv,rfl⟩:=hcut;by_cases c1:o.kind≠1∧(S.ses k).opn=false
 · obtain rfl:b=true:=by rw[HBv.out];exact Yal c1
   have HZ:Hid (z=(S,3,0)):=by
    show z=_;rw[←hz.out];exact do_3 HK15.out g2 g3 hk c1
   clear c1;go_upto_region 6 with fail
   have hpc: ∀ W,Below w.heap.size w W→PlC W C S:=fun W hb'=>HP.out W hb'
   refine Zbo (C:=C) (R:= #[.int .i64 3, .int .i64 0]) Bp (hpc _ HBs.out).size (hpc _ HBs.out).one Bq rfl Br rfl rfl rfl hne (by rfl) (by go_simp) (by rfl) (by rfl) (by rfl) (by rfl) ?_
   intro W' _ _ hbw hq' hr';have hb':=hbw w.heap.size hge1 hge2 HBs.out;have hpw:=hpc _ hb';try simp only[Act.put,Yaa,Yac,Yad]
   go_wp2_with fail;refine bodyPost_ret (Zdj results11 (by rfl) (by rfl) hq' hpw.size hr' rfl) rfl ?_
   unfold Zef;rw[HZ.out];exact⟨⟨_,rfl,hpw.plR⟩,hb'⟩
 obtain rfl:b=false:=by rw[HBv.out];exact Yai c1
 by_cases c4:o.kind≤4
 · have HT:=Zhd (Zaxa C S o.kind k (.slice Ap o.path.length cp) o.word o.bit o.n o.text wr HPr.out hk rfl);rw[show Zkx S o.kind k=z by rw[←hz.out];exact(do_4 HK15.out g2 g3 hk c1 c4).symm]at HT
   clear c1;go_upto_region 8 with fail
   refine wp_region_lit ?_;refine wpList_load_mid rfl 32 _ rfl w.heap.size 0 (by rfl) C.toList _ Bp.range underlying32 rfl (by rw[Yau,hcs];exact Zam) ?_
   rw[show C.toList.toArray=C from rfl];try simp only[Act.put,Yaa,Yac,Yad]
   go_wp2_with fail;go_at_call 22;refine HT.out.mono ?_;rintro e w5 ⟨⟨v5,rfl,hv5⟩,hb5⟩;obtain⟨C2,rfl,hC2⟩:=hv5.cells;have hc2:=hC2.size;have hB5:=Zaa HBs.out hb5;have B5q:=Bq.below hb5;have B5r:=Br.below hb5;rename_i hKx;refine hKx _ _ ?_;clear hKx;try simp only[Act.put,Yaa,Yac,Yad]
   refine Zzg (C:=C2) (R:= #[.int .i64 z.2.1, .int .i64 z.2.2]) hc2 hC2.one B5q rfl B5r rfl rfl rfl hne (by rfl) (by rfl) (by rfl) (by rfl) (by rfl) (by rfl) ?_
   intro W' hf1 hf2 hbw hq' hr';have hb':=hbw w.heap.size hge1 hge2 hB5;have hpw:=(hC2.off B5q (by decide) rfl hf1).off (B5r.others hne _) (by decide) rfl hf2
   try simp only[Act.put,Yaa,Yac,Yad]
   go_wp2_with fail;refine bodyPost_ret (Zdj results11 (by rfl) (by rfl) hq' hpw.size hr' rfl) rfl ?_
   unfold Zef;exact⟨⟨_,rfl,hpw.plR⟩,hb'⟩
 have hop:(S.ses k).opn=true:=by
  cases ho:(S.ses k).opn with
  |true=>rfl
  |false=>exact absurd ⟨by omega,ho⟩ c1
 have h4:4<o.kind:=by omega
 clear c1;by_cases c13:o.kind=13
 · have hk13:(o.kind==13)=true:=by rw[c13];rfl
   have HT:=Zhd (Zsr C S k wr HEr.out HPr.out hk (HOK.out.base k hk) (HOK.out.mine k hk) HOK.out.run)
   have HZ:Hid (z=(S,(Zba (S.ses k).base (S.ses k).mine S.run).2.1,(Zba (S.ses k).base (S.ses k).mine S.run).2.2)):=by
    show z=_;rw[←hz.out];exact do_5 HK15.out hk hop c13
   clear c13;obtain⟨ck,hck⟩: ∃ ck,Zba (S.ses k).base (S.ses k).mine S.run=ck:=⟨_,rfl⟩;rw[hck]at HT HZ;clear hck;obtain⟨T,er,cn⟩:=ck;go_upto_region 10 with fail
   refine wp_region_lit ?_;refine wpList_load_mid rfl 32 _ rfl w.heap.size 0 (by rfl) C.toList _ Bp.range underlying32 rfl (by rw[Yau,hcs];exact Zam) ?_
   rw[show C.toList.toArray=C from rfl];try simp only[Act.put,Yaa,Yac,Yad]
   go_wp2_with fail;go_at_call 23;refine HT.out.mono ?_;unfold Zeu;rintro e w5 ⟨⟨v5,rfl,hl5⟩,hb5⟩;obtain⟨At,ct,rfl,-⟩:=id hl5;have hb5w:=Zaa HBs.out hb5;have hlt5:wr.heap.size≤w5.heap.size:=hb5.size;obtain⟨w6,hw6⟩: ∃ x,w5.alloc (.cells #[.int .i64 er, .int .i64 cn] 39)=x:=⟨_,rfl⟩;have B6p:Bl w6 w.heap.size C 32:=by rw[←hw6];exact(Bp.below hb5).alloc _
   have B6o:Bl w6 wp.heap.size #[.int .i64 o.kind, .int .i64 (k:Int), .slice Ap o.path.length cp, .string o.word, .int .i64 o.bit, .int .i64 o.n, .string o.text] 36:=by rw[←hw6];exact(Bo.below hb5).alloc _
   have B6q:Bl w6 wo.heap.size #[.slice none 0 0, .slice none 0 0, .bool false, .slice none 0 0, .slice none 0 0, .bool false, .slice none 0 0, .slice none 0 0, .bool false, .slice none 0 0, .slice none 0 0, .int .i64 0, .int .i64 0, .int .i64 0, .slice none 0 0] 32:=by rw[←hw6];exact(Bq.below hb5).alloc _
   have B6r:Bl w6 wq.heap.size #[.int .i64 0, .int .i64 0] 39:=by rw[←hw6];exact(Br.below hb5).alloc _
   have B6s:Bl w6 w5.heap.size #[.int .i64 er, .int .i64 cn] 39:=by rw[←hw6];exact Bl.new _ _ _
   have HB6:Hid (Below w.heap.size w w6):=by show Below _ _ _;rw[←hw6];exact hb5w.alloc hb5w.size _
   have HL5:Hid (Lr w6 (.slice At T.length ct) T):=by show Lr _ _ _;rw[←hw6];exact hl5.below ((Yag _ _).alloc (Yaf _) _)
   have hrb0:w5.heap.size≠w.heap.size:=by omega
   have hrb1:w5.heap.size≠wo.heap.size:=by omega
   have hrb2:w5.heap.size≠wq.heap.size:=by omega
   clear HT hl5 hb5 Bp Bo Bq Br ox0 ox1 ox2 ox3 ox4 ox5 ox6 px1 px2;have ox1:w6.cell? ⟨wp.heap.size,1,none⟩=some (.int .i64 (k:Int)):=(B6o.cell _).trans rfl;have rx0:w6.cell? ⟨w5.heap.size,0,none⟩=some (.int .i64 er):=(B6s.cell _).trans rfl;have rx1:w6.cell? ⟨w5.heap.size,1,none⟩=some (.int .i64 cn):=(B6s.cell _).trans rfl;have hP6:=HP.out _ HB6.out;have hcs6:=hcs;clear B6o HL5 ox1 rx0 rx1;go_upto_region 11 with fail
   refine wp_region_noPanic ?_;refine wp_region_held_drew (S:=fun W=>Bl W w.heap.size C 32∧Bl W w5.heap.size #[.int .i64 er, .int .i64 cn] 39) (by kernel_rfl) ⟨B6p.drew,B6s.drew⟩ (fun hHeld=> ?_)
   refine wpAnyH_take (i:=0) (oi:={dst:=some 76,op:= .load 32 (.tmp 2),type:=32,pos:= "plane.go:232",after:= #[],guard:=none}) (v:= .agg C) rfl (by kernel_rfl) (by kernel_rfl) (by kernel_rfl) (fun _ _ _ h=>h) (yieldsIf_load_mid (by rfl) 32 _ rfl w.heap.size 0 rfl (C).toList _ (fun W h=>h.1.range) underlying32 rfl (by rw[Yau,hcs6];exact Zam)) hHeld ?_
   try simp only[Act.put,Yaa,Yac,Yad]
   refine wpAnyH_take (i:=1) (oi:={dst:=some 77,op:= .load 39 (.tmp 7),type:=39,pos:= "plane.go:232",after:= #[{on:=2,ground:= .gcOnly .lateStores}],guard:=none}) (v:= .agg #[.int .i64 er, .int .i64 cn]) rfl (by kernel_rfl) (by kernel_rfl) (by kernel_rfl) (fun _ _ _ h=>h) (yieldsIf_load_mid (by rfl) 39 _ rfl w5.heap.size 0 rfl (#[.int .i64 er, .int .i64 cn]:Array Value).toList _ (fun W h=>h.2.range) underlying39 rfl Zcq) hHeld ?_
   try simp only[Act.put,Yaa,Yac,Yad]
   refine wpAnyH_ready (rs:= [2]) (by kernel_rfl) (by simp) ?_
   refine AllReadyH.cons rfl (fun K hK=> ?_) AllReadyH.nil
   refine Zio (C:= #[.slice none 0 0, .slice none 0 0, .bool false, .slice none 0 0, .slice none 0 0, .bool false, .slice none 0 0, .slice none 0 0, .bool false, .slice none 0 0, .slice none 0 0, .int .i64 0, .int .i64 0, .int .i64 0, .slice none 0 0]) (D:=C) 32 rfl _ _ rfl wo.heap.size B6q.drew hcs6.symm (by rfl) (by rfl) (by rw[hcs6];exact Zam) hP6.one ?_
   intro w7 hw7;have B7p:=B6p.drew.others (o:=0) hn1.symm (C).toList;rw[hw7]at B7p;have B7q:=B6q.drew.sets (D:=C) hcs6;rw[hw7]at B7q;have B7r:=B6r.drew.others (o:=0) hne (C).toList;rw[hw7]at B7r;have B7s:=B6s.drew.others (o:=0) hrb1 (C).toList;rw[hw7]at B7s;have HB7:=Zhd (Zap hge1 (C).toList 0 HB6.out.drew);rw[hw7]at HB7;have hP7:PlC w7 C S:=by rw[←hw7];exact hP6.off B6q (by decide) rfl ((Off.below (Yag _ _).drew).setCells _ 0)
   refine hK.out _ _ ⟨B7p,B7s⟩ (fun _=> ?_)
   clear hK K hw7;try simp only[Act.put,Yaa,Yac,Yad]
   refine wpAnyH_ready (rs:= [3]) (by kernel_rfl) (by simp) ?_
   refine AllReadyH.cons rfl (fun K hK=> ?_) AllReadyH.nil
   refine Zio (C:= #[.int .i64 0, .int .i64 0]) (D:= #[.int .i64 er, .int .i64 cn]) 39 rfl _ _ rfl wq.heap.size B7r rfl (by rfl) (by rfl) Zcq (by rfl) ?_
   intro w8 hw8;have B8p:=B7p.others (o:=0) hn2.symm (#[.int .i64 er, .int .i64 cn]:Array Value).toList;rw[hw8]at B8p;have B8q:=B7q.others (o:=0) hne.symm (#[.int .i64 er, .int .i64 cn]:Array Value).toList;rw[hw8]at B8q;have B8r:=B7r.sets (D:= #[.int .i64 er, .int .i64 cn]) rfl;rw[hw8]at B8r;have B8s:=B7s.others (o:=0) hrb2 (#[.int .i64 er, .int .i64 cn]:Array Value).toList;rw[hw8]at B8s;have HB8:=Zhd (Zap hge2 (#[.int .i64 er, .int .i64 cn]:Array Value).toList 0 HB7.out);rw[hw8]at HB8;have hP8:PlC w8 C S:=by rw[←hw8];exact hP7.off B7r (by decide) rfl ((Off.refl _ _).setCells _ 0)
   refine hK.out _ _ ⟨B8p,B8s⟩ (fun _=> ?_)
   clear hK K hw8;try simp only[Act.put,Yaa,Yac,Yad]
   refine wpAnyH_done (by kernel_rfl) ?_ _
   refine NoPanic.normal ?_;go_wp2_with fail;refine bodyPost_ret (Zdj results11 (by rfl) (by rfl) B8q hcs6 B8r rfl) rfl ?_
   unfold Zef;rw[HZ.out];exact⟨⟨_,rfl,hP8.plR⟩,HB8.out⟩
 have hk13:(o.kind==13)=false:=by rw[Yak];exact c13
 go_upto_region 12 with fail
 go_cut [78] (fun v wx=> ∃ b:Bool,v= .bool b∧Hid (b=decide (S.lock≠0∧S.lock≠(k:Int)+1))∧wr=wx)
 case first=>
  by_cases l0:S.lock=0
  · have hl0:(S.lock==0)=true:=by rw[l0];rfl
    go_wp2_with fail;go_meet;exact⟨_,rfl,Zhd (by first|exact(Yal (by omega)).symm|exact(Yai (by omega)).symm|simp[*]),rfl⟩
  · have hl0:(S.lock==0)=false:=by rw[Yak];exact l0
    by_cases ow:S.lock=(k:Int)+1
    · have how:(S.lock==(k:Int)+1)=true:=by rw[beq_iff_eq];exact ow
      go_wp2_with fail;go_meet;exact⟨_,rfl,Zhd (by first|exact(Yal (by omega)).symm|exact(Yai (by omega)).symm|simp[*]),rfl⟩
    · have how:(S.lock==(k:Int)+1)=false:=by rw[Yak];exact ow
      go_wp2_with fail;go_meet;exact⟨_,rfl,Zhd (by first|exact(Yal (by omega)).symm|exact(Yai (by omega)).symm|simp[*]),rfl⟩
 obtain⟨b,rfl,HBv,rfl⟩:=hcut;by_cases lk:S.lock≠0∧S.lock≠(k:Int)+1
 · obtain rfl:b=true:=by rw[HBv.out];exact Yal lk
   have HZ:Hid (z=(S,9,0)):=by
    show z=_;rw[←hz.out];exact do_6 HK15.out g2 g3 hk hop h4 c13 lk
   clear lk;go_upto_region 13 with fail
   have hpc: ∀ W,Below w.heap.size w W→PlC W C S:=fun W hb'=>HP.out W hb'
   refine Zbo (C:=C) (R:= #[.int .i64 9, .int .i64 0]) Bp (hpc _ HBs.out).size (hpc _ HBs.out).one Bq rfl Br rfl rfl rfl hne (by rfl) (by go_simp) (by rfl) (by rfl) (by rfl) (by rfl) ?_
   intro W' _ _ hbw hq' hr';have hb':=hbw w.heap.size hge1 hge2 HBs.out;have hpw:=hpc _ hb';try simp only[Act.put,Yaa,Yac,Yad]
   go_wp2_with fail;refine bodyPost_ret (Zdj results11 (by rfl) (by rfl) hq' hpw.size hr' rfl) rfl ?_
   unfold Zef;rw[HZ.out];exact⟨⟨_,rfl,hpw.plR⟩,hb'⟩
 obtain rfl:b=false:=by rw[HBv.out];exact Yai lk
 by_cases c14:o.kind=14
 · have hk14:(o.kind==14)=true:=by rw[c14];rfl
   have HT:=Zhd (Zajo C S o.kind k (.slice Ap o.path.length cp) o.word o.bit o.n o.text wr HPr.out hk rfl HEr.out (HOK.out.base k hk) (HOK.out.mine k hk) HOK.out.run HOK.out.clock HOK.out.len5 HLb.out);rw[show Zez S k o.n=z by rw[←hz.out];exact(do_7 HK15.out hk hop c14 lk).symm]at HT
   clear lk c14;go_upto_region 15 with fail
   refine wp_region_lit ?_;refine wpList_load_mid rfl 32 _ rfl w.heap.size 0 (by rfl) C.toList _ Bp.range underlying32 rfl (by rw[Yau,hcs];exact Zam) ?_
   rw[show C.toList.toArray=C from rfl];try simp only[Act.put,Yaa,Yac,Yad]
   go_wp2_with fail;go_at_call 24;refine HT.out.mono ?_;rintro e w5 ⟨⟨v5,rfl,hv5⟩,hb5⟩;obtain⟨C2,rfl,hC2⟩:=hv5.cells;have hc2:=hC2.size;have hB5:=Zaa HBs.out hb5;have B5q:=Bq.below hb5;have B5r:=Br.below hb5;rename_i hKx;refine hKx _ _ ?_;clear hKx;try simp only[Act.put,Yaa,Yac,Yad]
   refine Zzg (C:=C2) (R:= #[.int .i64 z.2.1, .int .i64 z.2.2]) hc2 hC2.one B5q rfl B5r rfl rfl rfl hne (by rfl) (by rfl) (by rfl) (by rfl) (by rfl) (by rfl) ?_
   intro W' hf1 hf2 hbw hq' hr';have hb':=hbw w.heap.size hge1 hge2 hB5;have hpw:=(hC2.off B5q (by decide) rfl hf1).off (B5r.others hne _) (by decide) rfl hf2
   try simp only[Act.put,Yaa,Yac,Yad]
   go_wp2_with fail;refine bodyPost_ret (Zdj results11 (by rfl) (by rfl) hq' hpw.size hr' rfl) rfl ?_
   unfold Zef;exact⟨⟨_,rfl,hpw.plR⟩,hb'⟩
 have hk14:(o.kind==14)=false:=by rw[Yak];exact c14
 have HZ8:Hid (z=if(Zed S o k).2.1=0 then(S.setSes k ⟨true,(S.ses k).base,(Zed S o k).1⟩,0,(Zed S o k).2.2)else(S,(Zed S o k).2.1,(Zed S o k).2.2)):=by
  show z=_;rw[←hz.out];exact do_8 HK15.out g2 g3 hk hop h4 c13 c14 lk
 have HT:=Zhd (Zxl C S o k Ap cp wr HPr.out hk HRr.out hcp hc2 hlP htx HEr.out (HOK.out.mine k hk) (Yat HOK.out.len5 (by omega)))
 obtain⟨ck,hck⟩: ∃ ck,Zed S o k=ck:=⟨_,rfl⟩;rw[hck]at HT HZ8;clear hck lk c13 c14;obtain⟨T,er,cn⟩:=ck;go_upto_region 16 with fail
 refine wp_region_lit ?_;refine wpList_load_mid rfl 32 _ rfl w.heap.size 0 (by rfl) C.toList _ Bp.range underlying32 rfl (by rw[Yau,hcs];exact Zam) ?_
 rw[show C.toList.toArray=C from rfl];try simp only[Act.put,Yaa,Yac,Yad]
 go_wp2_with fail;go_at_call 25;refine HT.out.mono ?_;unfold Zeu;rintro e w5 ⟨⟨v5,rfl,hl5⟩,hb5⟩;obtain⟨At,ct,rfl,-⟩:=id hl5;have hb5w:=Zaa HBs.out hb5;have hlt5:wr.heap.size≤w5.heap.size:=hb5.size;obtain⟨w6,hw6⟩: ∃ x,w5.alloc (.cells #[.int .i64 er, .int .i64 cn] 39)=x:=⟨_,rfl⟩;have B5p:Bl w6 w.heap.size C 32:=by rw[←hw6];exact(Bp.below hb5).alloc _
 have B5o:Bl w6 wp.heap.size #[.int .i64 o.kind, .int .i64 (k:Int), .slice Ap o.path.length cp, .string o.word, .int .i64 o.bit, .int .i64 o.n, .string o.text] 36:=by rw[←hw6];exact(Bo.below hb5).alloc _
 have B5q:Bl w6 wo.heap.size #[.slice none 0 0, .slice none 0 0, .bool false, .slice none 0 0, .slice none 0 0, .bool false, .slice none 0 0, .slice none 0 0, .bool false, .slice none 0 0, .slice none 0 0, .int .i64 0, .int .i64 0, .int .i64 0, .slice none 0 0] 32:=by rw[←hw6];exact(Bq.below hb5).alloc _
 have B5r:Bl w6 wq.heap.size #[.int .i64 0, .int .i64 0] 39:=by rw[←hw6];exact(Br.below hb5).alloc _
 have B5s:Bl w6 w5.heap.size #[.int .i64 er, .int .i64 cn] 39:=by rw[←hw6];exact Bl.new _ _ _
 have HB5:Hid (Below w.heap.size w w6):=by show Below _ _ _;rw[←hw6];exact hb5w.alloc hb5w.size _
 have HL5:Hid (Lr w6 (.slice At T.length ct) T):=by show Lr _ _ _;rw[←hw6];exact hl5.below ((Yag _ _).alloc (Yaf _) _)
 have hrb0:w5.heap.size≠w.heap.size:=by omega
 have hrb1:w5.heap.size≠wo.heap.size:=by omega
 have hrb2:w5.heap.size≠wq.heap.size:=by omega
 clear HT hl5 hb5 Bp Bo Bq Br ox0 ox1 ox2 ox3 ox4 ox5 ox6 px1 px2;have ox1:w6.cell? ⟨wp.heap.size,1,none⟩=some (.int .i64 (k:Int)):=(B5o.cell _).trans rfl;have rx0:w6.cell? ⟨w5.heap.size,0,none⟩=some (.int .i64 er):=(B5s.cell _).trans rfl;have rx1:w6.cell? ⟨w5.heap.size,1,none⟩=some (.int .i64 cn):=(B5s.cell _).trans rfl;have pf: ∀ j,w6.frozen? ⟨w.heap.size,j,none⟩=false:=B5p.froz;obtain⟨v2,ev2,hm2⟩:=HPr.out.mine k hk;obtain⟨A2,n2,c2,rfl⟩:=hm2.slice;have px3:w6.cell? ⟨w.heap.size,2+k*3+2,none⟩=some (.slice A2 n2 c2):=(B5p.cell _).trans ev2;clear hm2 ev2;go_upto_if 109 with fail
 go_cut [] (fun wx=> ∃ (C6:Array Value) (S6:Ps),Hid (z=(S6,er,cn))∧Hid (Bl wx w.heap.size C6 32)∧Hid (PlC wx C6 S6)∧Hid (Bl wx wo.heap.size #[.slice none 0 0, .slice none 0 0, .bool false, .slice none 0 0, .slice none 0 0, .bool false, .slice none 0 0, .slice none 0 0, .bool false, .slice none 0 0, .slice none 0 0, .int .i64 0, .int .i64 0, .int .i64 0, .slice none 0 0] 32)∧Hid (Bl wx wq.heap.size #[.int .i64 0, .int .i64 0] 39)∧Hid (Bl wx w5.heap.size #[.int .i64 er, .int .i64 cn] 39)∧Hid (Below w.heap.size w wx))
 case first=>
  by_cases he:er=0
  · have he1:(er==0)=true:=by rw[he];rfl
    have HZ9:Hid (z=(S.setSes k ⟨true,(S.ses k).base,T⟩,er,cn)):=by
     show _=_;rw[HZ8.out,Yam he,he]
    have hP5:=(HP.out _ HB5.out).setMine k hk _ T HL5.out hop;clear he;go_wp2_with fail;go_meet;exact⟨_,_,HZ9,B5p.set _ _,hP5.off B5p (by decide) (HP.out _ HB5.out).nostr ((Off.refl _ _).setCell _ _),B5q.other hn1 _,B5r.other hn2 _,B5s.other hrb0 _,HB5.out.setCell (p:=⟨_,_,none⟩) (Yaf _) _⟩
  · have he1:(er==0)=false:=by rw[Yak];exact he
    have HZ9:Hid (z=(S,er,cn)):=by
     show _=_;rw[HZ8.out,Yab he]
    have hP5:=HP.out _ HB5.out;clear he;go_wp2_with fail;go_meet;exact⟨_,_,HZ9,B5p,hP5,B5q,B5r,B5s,HB5.out⟩
 obtain⟨C6,S6,HZ,HB6p,HP6,HB6q,HB6r,HB6s,HB6⟩:=hcut;have B6p:=HB6p.out;have B6q:=HB6q.out;have B6r:=HB6r.out;have B6s:=HB6s.out;have hP6:=HP6.out;have hcs6:=hP6.size;clear B5p B5o B5q B5r B5s HB5 HL5 ox1 rx0 rx1 px3 pf HB6p HB6q HB6r HB6s HP6 HZ8;go_upto_region 19 with fail
 refine wp_region_noPanic ?_;refine wp_region_held_drew (S:=fun W=>Bl W w.heap.size C6 32∧Bl W w5.heap.size #[.int .i64 er, .int .i64 cn] 39) (by kernel_rfl) ⟨B6p.drew,B6s.drew⟩ (fun hHeld=> ?_)
 refine wpAnyH_take (i:=0) (oi:={dst:=some 116,op:= .load 32 (.tmp 2),type:=32,pos:= "plane.go:242",after:= #[],guard:=none}) (v:= .agg C6) rfl (by kernel_rfl) (by kernel_rfl) (by kernel_rfl) (fun _ _ _ h=>h) (yieldsIf_load_mid (by rfl) 32 _ rfl w.heap.size 0 rfl (C6).toList _ (fun W h=>h.1.range) underlying32 rfl (by rw[Yau,hcs6];exact Zam)) hHeld ?_
 try simp only[Act.put,Yaa,Yac,Yad]
 refine wpAnyH_take (i:=1) (oi:={dst:=some 117,op:= .load 39 (.tmp 9),type:=39,pos:= "plane.go:242",after:= #[{on:=2,ground:= .gcOnly .lateStores}],guard:=none}) (v:= .agg #[.int .i64 er, .int .i64 cn]) rfl (by kernel_rfl) (by kernel_rfl) (by kernel_rfl) (fun _ _ _ h=>h) (yieldsIf_load_mid (by rfl) 39 _ rfl w5.heap.size 0 rfl (#[.int .i64 er, .int .i64 cn]:Array Value).toList _ (fun W h=>h.2.range) underlying39 rfl Zcq) hHeld ?_
 try simp only[Act.put,Yaa,Yac,Yad]
 refine wpAnyH_ready (rs:= [2]) (by kernel_rfl) (by simp) ?_
 refine AllReadyH.cons rfl (fun K hK=> ?_) AllReadyH.nil
 refine Zio (C:= #[.slice none 0 0, .slice none 0 0, .bool false, .slice none 0 0, .slice none 0 0, .bool false, .slice none 0 0, .slice none 0 0, .bool false, .slice none 0 0, .slice none 0 0, .int .i64 0, .int .i64 0, .int .i64 0, .slice none 0 0]) (D:=C6) 32 rfl _ _ rfl wo.heap.size B6q.drew hcs6.symm (by rfl) (by rfl) (by rw[hcs6];exact Zam) hP6.one ?_
 intro w7 hw7;have B7p:=B6p.drew.others (o:=0) hn1.symm (C6).toList;rw[hw7]at B7p;have B7q:=B6q.drew.sets (D:=C6) hcs6;rw[hw7]at B7q;have B7r:=B6r.drew.others (o:=0) hne (C6).toList;rw[hw7]at B7r;have B7s:=B6s.drew.others (o:=0) hrb1 (C6).toList;rw[hw7]at B7s;have HB7:=Zhd (Zap hge1 (C6).toList 0 HB6.out.drew);rw[hw7]at HB7;have hP7:PlC w7 C6 S6:=by rw[←hw7];exact hP6.off B6q (by decide) rfl ((Off.below (Yag _ _).drew).setCells _ 0)
 refine hK.out _ _ ⟨B7p,B7s⟩ (fun _=> ?_)
 clear hK K hw7;try simp only[Act.put,Yaa,Yac,Yad]
 refine wpAnyH_ready (rs:= [3]) (by kernel_rfl) (by simp) ?_
 refine AllReadyH.cons rfl (fun K hK=> ?_) AllReadyH.nil
 refine Zio (C:= #[.int .i64 0, .int .i64 0]) (D:= #[.int .i64 er, .int .i64 cn]) 39 rfl _ _ rfl wq.heap.size B7r rfl (by rfl) (by rfl) Zcq (by rfl) ?_
 intro w8 hw8;have B8p:=B7p.others (o:=0) hn2.symm (#[.int .i64 er, .int .i64 cn]:Array Value).toList;rw[hw8]at B8p;have B8q:=B7q.others (o:=0) hne.symm (#[.int .i64 er, .int .i64 cn]:Array Value).toList;rw[hw8]at B8q;have B8r:=B7r.sets (D:= #[.int .i64 er, .int .i64 cn]) rfl;rw[hw8]at B8r;have B8s:=B7s.others (o:=0) hrb2 (#[.int .i64 er, .int .i64 cn]:Array Value).toList;rw[hw8]at B8s;have HB8:=Zhd (Zap hge2 (#[.int .i64 er, .int .i64 cn]:Array Value).toList 0 HB7.out);rw[hw8]at HB8;have hP8:PlC w8 C6 S6:=by rw[←hw8];exact hP7.off B7r (by decide) rfl ((Off.refl _ _).setCells _ 0)
 refine hK.out _ _ ⟨B8p,B8s⟩ (fun _=> ?_)
 clear hK K hw8;try simp only[Act.put,Yaa,Yac,Yad]
 refine wpAnyH_done (by kernel_rfl) ?_ _
 refine NoPanic.normal ?_;go_wp2_with fail;refine bodyPost_ret (Zdj results11 (by rfl) (by rfl) B8q hcs6 B8r rfl) rfl ?_
 unfold Zef;rw[HZ.out];exact⟨⟨_,rfl,hP8.plR⟩,HB8.out⟩
def zcc:Array Value:= #[.slice none 0 0, .slice none 0 0, .bool false, .slice none 0 0, .slice none 0 0, .bool false, .slice none 0 0, .slice none 0 0, .bool false, .slice none 0 0, .slice none 0 0, .int .i64 0, .int .i64 0, .int .i64 0, .slice none 0 0]
theorem Zaar (f:Operand→Value) (d:Option Nat) (t:TypeId) (p:String) (e:Array Edge) (g) (W:World):(execOp f {dst:=d,op:= .alloc 32,type:=t,pos:=p,after:=e,guard:=g}).run prog W= .ok (.value (.pointer (some ⟨W.heap.size,0,none⟩))) (W.alloc (.cells zcc 32)):=by
 go_simp;rfl
theorem Zaas (f:Operand→Value) (d:Option Nat) (t:TypeId) (p:String) (e:Array Edge) (g) (W:World):(execOp f {dst:=d,op:= .alloc 39,type:=t,pos:=p,after:=e,guard:=g}).run prog W= .ok (.value (.pointer (some ⟨W.heap.size,0,none⟩))) (W.alloc (.cells #[.int .i64 0, .int .i64 0] 39)):=by
 go_simp
theorem Zdh {ops:Array Oper} {o:Oper} {rest:List Oper} {a:Act} {W W':World} {v:Value} {Q:Exit→Act→World→Prop} (hg:o.guard=none) (hx:(execOp a.eval o).run prog W= .ok (.value v) W') (h:wpList prog ops Q rest (a.put o.dst v) W'):wpList prog ops Q (o::rest) a W:=by
 refine wpList_plain hg fun K hK=> ?_
 unfold Oper.wp;rw[hx];exact hK _ _ h
theorem Zmp {ops:Array Oper} {sv d1:Nat} {t1 t2:TypeId} {p1 p2:String} {f1 f2:Array Edge} {Q:Exit→Act→World→Prop} {a:Act} {W:World} {C:Array Value} (hc:C.size=15) (h1:C.toList.all (·.oneCell')=true)
 (e1:(a.put (some d1) (.pointer (some ⟨W.heap.size,0,none⟩))).eval (.tmp d1)= .pointer (some ⟨W.heap.size,0,none⟩))
 (e2:(a.put (some d1) (.pointer (some ⟨W.heap.size,0,none⟩))).eval (.tmp sv)= .agg C)
 (h: ∀ W',Below W.heap.size W W'→Bl W' W.heap.size C 32→Q .normal ((a.put (some d1) (.pointer (some ⟨W.heap.size,0,none⟩))).put none undef) W'):
 wpList prog ops Q [{dst:=some d1,op:= .alloc 32,type:=t1,pos:=p1,after:=f1,guard:=none},{dst:=none,op:= .store 32 (.tmp d1) (.tmp sv),type:=t2,pos:=p2,after:=f2,guard:=none}] a W:=by
 refine Zdh rfl (Zaar _ _ _ _ _ _ _) ?_;have hq:Bl (W.alloc (.cells zcc 32)) W.heap.size zcc 32:=Bl.new _ _ _;have hz:zcc.size=15:=rfl;refine wpList_store_mid rfl 32 _ _ rfl W.heap.size 0 C e1 e2 (hq.there (by omega)) (by rw[hc];exact Zam) (Ybo.2 fun v hv=>Ybt.1 h1 v (by simpa using hv)) ?_
 refine wpList_nil ?_;exact h _ (Zap (Yaf _) _ _ ((Yag _ W).alloc (Yaf _) _)) (hq.sets (D:=C) (by omega))
theorem Zpa {ops:Array Oper} {sp sl sq:Nat} {t1 t2:TypeId} {p1 p2:String} {f1 f2:Array Edge} {Q:Exit→Act→World→Prop} {a:Act} {W:World} {p q:Nat} {C Z:Array Value} (hp:Bl W p C 32) (hc:C.size=15) (h1:C.toList.all (·.oneCell')=true) (hq:Bl W q Z 32) (hz:Z.size=15)
 (e0:a.eval (.tmp sp)= .pointer (some ⟨p,0,none⟩)) (e1:(a.put (some sl) (.agg C)).eval (.tmp sq)= .pointer (some ⟨q,0,none⟩)) (e2:(a.put (some sl) (.agg C)).eval (.tmp sl)= .agg C)
 (h: ∀ W',Off q W W'→(∀ B,B≤q→ ∀ {w0},Below B w0 W→Below B w0 W')→Bl W' q C 32→Q .normal ((a.put (some sl) (.agg C)).put none undef) W'):
 wpList prog ops Q [{dst:=some sl,op:= .load 32 (.tmp sp),type:=t1,pos:=p1,after:=f1,guard:=none},{dst:=none,op:= .store 32 (.tmp sq) (.tmp sl),type:=t2,pos:=p2,after:=f2,guard:=none}] a W:=by
 refine wpList_load_mid rfl 32 _ rfl p 0 e0 C.toList _ hp.range underlying32 rfl (by rw[Yau,hc];exact Zam) ?_
 rw[show C.toList.toArray=C from rfl];refine wpList_store_mid rfl 32 _ _ rfl q 0 C e1 e2 (hq.there (by omega)) (by rw[hc];exact Zam) (Ybo.2 fun v hv=>Ybt.1 h1 v (by simpa using hv)) ?_
 refine wpList_nil ?_;exact h _ ((Off.refl _ _).setCells _ 0) (fun B b1 w0 hb=>Zap b1 _ _ hb) (hq.sets (D:=C) (by omega))
theorem Zbbj {C:Array Value} (h:C.size=15): ∃ a0 a1 a2 a3 a4 a5 a6 a7 a8 a9 aa ab ac ad ae,C= #[a0,a1,a2,a3,a4,a5,a6,a7,a8,a9,aa,ab,ac,ad,ae]:=by
 obtain⟨l⟩:=C
 match l,h with
 | [a0,a1,a2,a3,a4,a5,a6,a7,a8,a9,aa,ab,ac,ad,ae],_=>exact⟨a0,a1,a2,a3,a4,a5,a6,a7,a8,a9,aa,ab,ac,ad,ae,rfl⟩
theorem Zfl {ops:Array Oper} {sv s1 s2 d4 d5:Nat} {t1 t2 t3 t4 t5 t6:TypeId} {p1 p2 p3 p4 p5 p6:String} {f1 f2 f3 f4 f5 f6:Array Edge} {Q:Exit→Act→World→Prop} {a:Act} {W:World} {C R:Array Value}
 (hc:C.size=15) (h1:C.toList.all (·.oneCell')=true) (hR:R.size=2) (hR1:R.toList.all (·.oneCell')=true)
 (a0:(execOp a.eval {dst:=some s1,op:= .extract (.tmp sv) 0,type:=t1,pos:=p1,after:=f1,guard:=none}).run prog W= .ok (.value (.agg C)) W)
 (a9:(execOp (a.put (some s1) (.agg C)).eval {dst:=some s2,op:= .extract (.tmp sv) 1,type:=t2,pos:=p2,after:=f2,guard:=none}).run prog W= .ok (.value (.agg R)) W)
 (e1:((((a.put (some s1) (.agg C)).put (some s2) (.agg R)).put (some d4) (.pointer (some ⟨W.heap.size,0,none⟩))).put (some d5) (.pointer (some ⟨W.heap.size+1,0,none⟩))).eval (.tmp d4)= .pointer (some ⟨W.heap.size,0,none⟩))
 (e2:((((a.put (some s1) (.agg C)).put (some s2) (.agg R)).put (some d4) (.pointer (some ⟨W.heap.size,0,none⟩))).put (some d5) (.pointer (some ⟨W.heap.size+1,0,none⟩))).eval (.tmp s1)= .agg C)
 (e3:(((((a.put (some s1) (.agg C)).put (some s2) (.agg R)).put (some d4) (.pointer (some ⟨W.heap.size,0,none⟩))).put (some d5) (.pointer (some ⟨W.heap.size+1,0,none⟩))).put none undef).eval (.tmp d5)= .pointer (some ⟨W.heap.size+1,0,none⟩))
 (e4:(((((a.put (some s1) (.agg C)).put (some s2) (.agg R)).put (some d4) (.pointer (some ⟨W.heap.size,0,none⟩))).put (some d5) (.pointer (some ⟨W.heap.size+1,0,none⟩))).put none undef).eval (.tmp s2)= .agg R)
 (h: ∀ W',Below W.heap.size W W'→Bl W' W.heap.size C 32→Bl W' (W.heap.size+1) R 39→Q .normal ((((((a.put (some s1) (.agg C)).put (some s2) (.agg R)).put (some d4) (.pointer (some ⟨W.heap.size,0,none⟩))).put (some d5) (.pointer (some ⟨W.heap.size+1,0,none⟩))).put none undef).put none undef) W'):
 wpList prog ops Q [{dst:=some s1,op:= .extract (.tmp sv) 0,type:=t1,pos:=p1,after:=f1,guard:=none},{dst:=some s2,op:= .extract (.tmp sv) 1,type:=t2,pos:=p2,after:=f2,guard:=none},{dst:=some d4,op:= .alloc 32,type:=t3,pos:=p3,after:=f3,guard:=none},{dst:=some d5,op:= .alloc 39,type:=t4,pos:=p4,after:=f4,guard:=none},{dst:=none,op:= .store 32 (.tmp d4) (.tmp s1),type:=t5,pos:=p5,after:=f5,guard:=none},{dst:=none,op:= .store 39 (.tmp d5) (.tmp s2),type:=t6,pos:=p6,after:=f6,guard:=none}] a W:=by
 refine Zdh rfl a0 ?_;refine Zdh rfl a9 ?_;refine Zdh rfl (Zaar _ _ _ _ _ _ _) ?_;refine Zdh rfl (Zaas _ _ _ _ _ _ _) ?_;have hs:(W.alloc (.cells zcc 32)).heap.size=W.heap.size+1:=by simp
 rw[hs];have hq:Bl ((W.alloc (.cells zcc 32)).alloc (.cells #[.int .i64 0, .int .i64 0] 39)) W.heap.size zcc 32:=(Bl.new _ _ _).alloc _;have hr:Bl ((W.alloc (.cells zcc 32)).alloc (.cells #[.int .i64 0, .int .i64 0] 39)) (W.heap.size+1) #[.int .i64 0, .int .i64 0] 39:=hs▸Bl.new _ _ _;have hz:zcc.size=15:=rfl;refine wpList_store_mid rfl 32 _ _ rfl W.heap.size 0 C e1 e2 (hq.there (by omega)) (by rw[hc];exact Zam) (Ybo.2 fun v hv=>Ybt.1 h1 v (by simpa using hv)) ?_
 have hr1:=hr.others (o:=0) (show W.heap.size+1≠W.heap.size by omega) C.toList
 have hq1:=hq.sets (D:=C) (by omega)
 refine wpList_store_mid rfl 39 _ _ rfl (W.heap.size+1) 0 R e3 e4 (hr1.there (by show R.size≤2;omega)) (by rw[hR];exact Zcq) (Ybo.2 fun v hv=>Ybt.1 hR1 v (by simpa using hv)) ?_
 refine wpList_nil ?_;refine h _ (Zap (by omega) _ _ (Zap (Yaf _) _ _ (((Yag _ W).alloc (Yaf _) _).alloc (by simp) _))) (hq1.others (by omega) _) (hr1.sets (by show R.size=2;omega))
theorem Zagm {ops:Array Oper} {sv s1 s2 q d5 sq:Nat} {t1 t2 t4 t5 t6:TypeId} {p1 p2 p4 p5 p6:String} {f1 f2 f4 f5 f6:Array Edge} {Q:Exit→Act→World→Prop} {a:Act} {W:World} {C Z R:Array Value}
 (hc:C.size=15) (h1:C.toList.all (·.oneCell')=true) (hR:R.size=2) (hR1:R.toList.all (·.oneCell')=true) (hq:Bl W q Z 32) (hz:Z.size=15)
 (a0:(execOp a.eval {dst:=some s1,op:= .extract (.tmp sv) 0,type:=t1,pos:=p1,after:=f1,guard:=none}).run prog W= .ok (.value (.agg C)) W)
 (a9:(execOp (a.put (some s1) (.agg C)).eval {dst:=some s2,op:= .extract (.tmp sv) 1,type:=t2,pos:=p2,after:=f2,guard:=none}).run prog W= .ok (.value (.agg R)) W)
 (e1:(((a.put (some s1) (.agg C)).put (some s2) (.agg R)).put (some d5) (.pointer (some ⟨W.heap.size,0,none⟩))).eval (.tmp sq)= .pointer (some ⟨q,0,none⟩))
 (e2:(((a.put (some s1) (.agg C)).put (some s2) (.agg R)).put (some d5) (.pointer (some ⟨W.heap.size,0,none⟩))).eval (.tmp s1)= .agg C)
 (e3:((((a.put (some s1) (.agg C)).put (some s2) (.agg R)).put (some d5) (.pointer (some ⟨W.heap.size,0,none⟩))).put none undef).eval (.tmp d5)= .pointer (some ⟨W.heap.size,0,none⟩))
 (e4:((((a.put (some s1) (.agg C)).put (some s2) (.agg R)).put (some d5) (.pointer (some ⟨W.heap.size,0,none⟩))).put none undef).eval (.tmp s2)= .agg R)
 (h: ∀ W',Off q W W'→(∀ B,B≤q→B≤W.heap.size→ ∀ {w0},Below B w0 W→Below B w0 W')→Bl W' q C 32→Bl W' W.heap.size R 39→Q .normal (((((a.put (some s1) (.agg C)).put (some s2) (.agg R)).put (some d5) (.pointer (some ⟨W.heap.size,0,none⟩))).put none undef).put none undef) W'):
 wpList prog ops Q [{dst:=some s1,op:= .extract (.tmp sv) 0,type:=t1,pos:=p1,after:=f1,guard:=none},{dst:=some s2,op:= .extract (.tmp sv) 1,type:=t2,pos:=p2,after:=f2,guard:=none},{dst:=some d5,op:= .alloc 39,type:=t4,pos:=p4,after:=f4,guard:=none},{dst:=none,op:= .store 32 (.tmp sq) (.tmp s1),type:=t5,pos:=p5,after:=f5,guard:=none},{dst:=none,op:= .store 39 (.tmp d5) (.tmp s2),type:=t6,pos:=p6,after:=f6,guard:=none}] a W:=by
 refine Zdh rfl a0 ?_;refine Zdh rfl a9 ?_;refine Zdh rfl (Zaas _ _ _ _ _ _ _) ?_;have hlt:=hq.lt;have hq0:Bl (W.alloc (.cells #[.int .i64 0, .int .i64 0] 39)) q Z 32:=hq.alloc _;have hr:Bl (W.alloc (.cells #[.int .i64 0, .int .i64 0] 39)) W.heap.size #[.int .i64 0, .int .i64 0] 39:=Bl.new _ _ _;refine wpList_store_mid rfl 32 _ _ rfl q 0 C e1 e2 (hq0.there (by omega)) (by rw[hc];exact Zam) (Ybo.2 fun v hv=>Ybt.1 h1 v (by simpa using hv)) ?_
 have hr1:=hr.others (o:=0) (show W.heap.size≠q by omega) C.toList
 have hq1:=hq0.sets (D:=C) (by omega)
 refine wpList_store_mid rfl 39 _ _ rfl W.heap.size 0 R e3 e4 (hr1.there (by show R.size≤2;omega)) (by rw[hR];exact Zcq) (Ybo.2 fun v hv=>Ybt.1 hR1 v (by simpa using hv)) ?_
 refine wpList_nil ?_;have o1:Off q W ((W.alloc (.cells #[.int .i64 0, .int .i64 0] 39)).setCells q 0 C.toList):=Off.setCells C.toList 0 (Off.below ((Yag _ W).alloc (Yaf _) _));have o2:=(Off.refl W.heap.size ((W.alloc (.cells #[.int .i64 0, .int .i64 0] 39)).setCells q 0 C.toList)).setCells R.toList 0;have o3:W.heap.size≤((W.alloc (.cells #[.int .i64 0, .int .i64 0] 39)).setCells q 0 C.toList).heap.size:=o1.1;exact h _ ⟨Yat o1.1 o2.1,fun b hb hl=>(o2.2 b (by omega) (Ycc hl o3)).trans (o1.2 b hb hl)⟩ (fun B b1 b2 w0 hb=>Zap b2 _ _ (Zap b1 _ _ (hb.alloc b2 _))) (hq1.others (by omega) _) (hr1.sets (by show R.size=2;omega))
end Go.Proofs.Zq
