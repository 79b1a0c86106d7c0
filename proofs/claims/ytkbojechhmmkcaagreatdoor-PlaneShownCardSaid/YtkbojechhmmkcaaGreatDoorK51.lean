import Derived.Test.YtkbojechhmmkcaaGreatDoorK34
import Derived.Test.YtkbojechhmmkcaaGreatDoorK50
set_option linter.unusedVariables false
set_option linter.unusedSimpArgs false
set_option maxHeartbeats 16000000
set_option maxRecDepth 100000
namespace Edt
open Go Go.Lib Tre Sch Lns Prs Go.Proofs.Zq
section
variable {L:List Line} (hr:Zab L=true)
include hr
theorem Zxy {i:Nat} (hi:i<L.length):Zas L (pa L i)=some i:=by
 have h1:=(Zcz hr).2 (Zbp.2 ⟨i,hi,rfl⟩);cases hf:Zas L (pa L i)with
 |none=>rw[hf]at h1;cases h1
 | some k=>
   obtain⟨hk,e⟩:=Zdn hr hf;rw[Zwj hr hk hi e]
theorem Zaba: ∀ (f i:Nat),Zns L L f i= []
 |0,_=>rfl
 | f+1,i=>by
   unfold Zns;by_cases hi:i<L.length
   · rw[Yam hi,Zxy hr hi];exact Zaba f (i+1)
   · rw[Yab hi]
omit hr in
theorem Ztd {β:Type} {f:Nat→List β}: ∀ n,(∀ i,i<n→f i= [])→(List.range n).flatMap f= []
 |0,_=>rfl
 | n+1,h=>by
   rw[Ydg,Ycf,Ztd n (fun i hi=>h i (by omega)),Ybl,h n (by omega)];rfl
theorem Zanw:Zajt L L= []:=by
 unfold Zajt Zro Zqw Zpc;rw[Zaba hr,Ztd _ (fun i hi=>by unfold Zatp;rw[Zxy hr hi]),Ztd _ (fun i hi=>by unfold Zayk;rw[Zxy hr hi];exact Yam rfl)];rfl
end
theorem Zayh (S:Ps) {o:Opp} {k:Nat} (hk:k<3) (ho:o.kind=1):((doS S o k).1.ses k).opn=true:=by
 unfold doS;rw[Yab (by omega),Yab (by omega),Yab (by omega),Yam (by omega),Ybr]
 unfold Zkx;rw[Yam ho];split
 · rename_i g;exact g
 · rw[Zod S k k _ hk hk,Yam rfl]
def opL (t:ByteArray):Opp:=⟨11,[],⟨#[]⟩,0,0,t⟩
theorem Zapq {S:Ps} {k:Nat} (hk:k<3) (hr:Zab S.run=true) (ho:(S.ses k).opn=true):doS S (opL ⟨(Ziq S.run).toArray⟩) k=if S.lock≠0∧S.lock≠(k:Int)+1 then(S,9,0)else(S.setSes k ⟨true,(S.ses k).base,S.run⟩,0,0):=by
 have hc:Zed S (opL ⟨(Ziq S.run).toArray⟩) k=(S.run,0,0):=by
  have e:Zed S (opL ⟨(Ziq S.run).toArray⟩) k=((Zir ⟨(Ziq S.run).toArray⟩).1,(Zir ⟨(Ziq S.run).toArray⟩).2.2,(Zir ⟨(Ziq S.run).toArray⟩).2.1):=rfl;rw[e,Zasx hr]
 split
 · rename_i hl;exact do_6 (o:=opL _) (show(11:Int)≠15 by decide) (show(1:Int)≤11 by decide) (show(11:Int)≤15 by decide) hk ho (show(4:Int)<11 by decide) (show(11:Int)≠13 by decide) hl
 · rename_i hl;rw[do_8 (o:=opL _) (show(11:Int)≠15 by decide) (show(1:Int)≤11 by decide) (show(11:Int)≤15 by decide) hk ho (show(4:Int)<11 by decide) (show(11:Int)≠13 by decide) (show(11:Int)≠14 by decide) hl,hc,Yam rfl]
theorem Zajp {S:Ps} {k:Nat} (hk:k<3) (hr:Zab S.run=true):Zadm (S.setSes k ⟨true,(S.ses k).base,S.run⟩) (k:Int)= []:=by
 have h1:=Zod S k k ⟨true,(S.ses k).base,S.run⟩ hk hk;rw[Yam rfl]at h1;rw[Zagg hk (by rw[h1]),h1,(Zbv S k _).1]
 exact Zanw hr
end Edt
namespace Go.Proofs.Zq
open Tryz
open Go Go.RowKit Go.Sort Tre Lx Prs Lns Edt Sch
theorem Zasc (A:Option Addr) (cap:Nat) (L:List Line) (w:World) (hR:Rd w 3 A L.length (lines L)) (hcap:L.length≤cap) (hc:cap≤maxLen) (hr:Zab L=true):
 Calls prog 13 #[.slice A L.length cap] w fun e w'=>e= .returned (.string ⟨(Ziq L).toArray⟩)∧Below w.heap.size w w':=by
 have HT:=Zhd (Zarm A cap L w hR hcap hc hr);clear hR;go_enter func13,ntmps13;go_wp2_with fail;refine HT.out.mono ?_;rintro e w1 ⟨rfl,hb1⟩;go_wp2_with fail;go_ret;exact⟨rfl,hb1⟩
theorem pshown_any (A:Option Addr) (c:Nat) (L:List OpM) (x:Int) (w:World) (hE:Env w) (hO:Ops w A L) (hc:L.length≤c) (hm:c≤maxLen) (hnil:A=none→c=0) (hx:0≤x∧x≤255):
 Calls prog 4 #[.slice A L.length c, .int .u8 x] w fun e w'=>e= .returned (.bool true)∧Below w.heap.size w w':=by
 have HF:=Zawk A c L 30 w hO hc hm (by decide)
 have HEo:=Zhd (fun(W:World) (hb:Below w.heap.size w W)=>hE.below hb)
 have HOo:=Zhd (fun(W:World) (hb:Below w.heap.size w W)=>hO.below hb)
 have HAW:=Zhd (fun(W:World) (hb:Below w.heap.size w W)=>Zsk W (hE.below hb))
 by_cases hf:fewO L 30<0
 · rw[Zawl hf]at HF;clear hf hO hE hx;go_enter func4,ntmps4;go_wp2_with fail;refine HF.mono ?_;rintro e w1 ⟨rfl,hb1⟩;go_wp2_with fail;refine(HAW.out _ hb1).mono ?_;rintro e w3 ⟨rfl,hb3⟩;have HB:=Zhd (Zaa hb1 hb3);clear hb3 hb1;go_wp2_with fail;go_ret;exact⟨rfl,HB.out⟩
 obtain⟨hf1,hf2⟩:=Zbcd hf;rw[hf1]at HF;obtain⟨n,hn⟩: ∃ n,min L.length 30=n:=⟨_,rfl⟩;rw[hn]at HF hf2;have hnL:n≤L.length:=by omega
 have hn30:n≤30:=by omega
 have hnc:(n:Int)≤(c:Int):=by omega
 have hn0:(0:Int)≤(n:Int):=by omega
 have HX:=Zhd hf2;have hge1:(decide ((n:Int)<0))=false:=Yai (by omega)
 have HNIL:=Zhd hnil;have hcI:(c:Int)≤9223372036854775807:=by unfold maxLen at hm;omega
 obtain⟨k,hk3,hkx⟩: ∃ k:Nat,k<3∧x.tmod 3=(k:Int):=⟨(x%3).toNat,by omega,by rw[Int.tmod_eq_emod_of_nonneg hx.1];omega⟩
 clear hf hf1 hf2 hO hE hn hnil;go_enter func4,ntmps4;go_wp2_with fail;refine HF.mono ?_;rintro e w2 ⟨rfl,hb2⟩;have HB2:=Zhd hb2;clear hb2 HF;have HO2:=Zhd (HOo.out w2 HB2.out);obtain⟨i0,hii,hz0,hz1,hz2⟩:=info_parts Zbck;have hown0:=Zbdf w2 w2.heap.size 36 7 (Yaf _);have hb0:Below w2.heap.size w2 (w2.alloc (.cells #[] 36)):=(Yag _ _).alloc (Yaf _) _;have HR:=Zhd ((Zaqj HO2.out hnL).below hb0);go_upto_region 5 with fail
 refine wp_region_lit ?_;go_wp2_with (at_builtin;first|(refine Zavl rfl _ _ 22 rfl w2 (w2.alloc (.cells #[] 36)) 36 i0 _ 7 88 underlying22 hii hz0 hz1 hz2 rfl (by decide) (by decide) hown0 hb0 rfl A n c (opcs (L.take n)) rfl HR.out HNIL.out (Zahu _) (by omega) ?_;intro v1 w3 hown1 hb3)|(go_must (refine Zavk rfl _ _ 22 rfl w2 w3 36 i0 _ 7 88 underlying22 hii hz0 hz1 hz2 rfl (by decide) (by decide) hown1 hb3 rfl 1 1 (opcs [opM 1 k 0]) rfl rfl (Zahu _) (by omega) ?_);intro v2 w4 hown2 hb4))
 have hown3:w4.ownsRow w2.heap.size 36 7 v2 (n+ [opM 1 k 0].length) (opcs (L.take n)++opcs [opM 1 k 0]):=by simpa using hown2
 obtain⟨A2,c2,rfl,g1,g2,hP2⟩:=HO2.out.app hnL hb4 hown3 (fun x hx=>by rw[Ybu.1 hx];exact Zbgw _ _ _ _ (by decide))
 have hlen:(L.take n++ [opM 1 k 0]).length≤31:=by rw[Yae,Yah,Ybz];omega
 have HB4:=Zhd (Zaa HB2.out hb4)
 have HBH:=Zqd A2 c2 (L.take n++ [opM 1 k 0]) w4 (HEo.out _ HB4.out) hP2 g1 g2 (by omega) (fun x hx=>by
  rcases Ybn.1 hx with hx|hx
  · exact HX.out x hx
  · rw[Ybu.1 hx];exact⟨Yas _,Yas _⟩)
 have hok:PsOk 40 (behS Zeo (L.take n++ [opM 1 k 0])):=(Zsl (L.take n++ [opM 1 k 0]) Zom).mono (by omega)
 have hop:((behS Zeo (L.take n++ [opM 1 k 0])).ses k).opn=true:=by rw[Zamv];exact Zayh _ hk3 rfl
 generalize behS Zeo (L.take n++ [opM 1 k 0])=S at *;clear hown0 hown1 hown2 hown3 hb0 hb3 hb4 HR hP2 hlen HO2;go_at_call 10;refine HBH.mono ?_;rintro e w5 ⟨⟨C,rfl,hC⟩,hb5⟩;have hcs:=hC.size;have hns:=hC.nostr;rename_i hKx;refine hKx _ _ ?_;clear hKx HBH;try simp only[Act.put,Yaa,Yac,Yad]
 refine Zmp (C:=C) hcs hC.one (by rfl) (by rfl) ?_
 intro w6 hb6 Bp;have hC6:=hC.below hb6;have HB6:=Zhd (Zaa HB4.out (Zaa hb5 hb6));have hgw:w.heap.size≤w5.heap.size:=Yat HB4.out.size hb5.size;clear hb5 hb6 hC HB4 HB2;try simp only[Act.put,Yaa,Yac,Yad]
 obtain⟨v0,e0,l0⟩:=hC6.run;obtain⟨A0,c0,rfl,hl1,hl2,hl3,-⟩:=l0;have p0:w6.cell? ⟨w5.heap.size,0,none⟩=some (.slice A0 S.run.length c0):=(Bp.cell _).trans e0;have HS:=Zhd (Zasc A0 c0 S.run w6 hl3 hl1 hl2 hok.run)
 have hts:(Ziq S.run).length≤1000000:=by
  have h1:=Zuw hok.run S.run.length (Yaf _);have h2:=(Zac hok.run).1;have h3:Ziq S.run=Zjo S.run S.run.length:=rfl;rw[h3];omega
 have hz:=Zapq hk3 hok.run hop;have hck:=Zajp (S:=S) hk3 hok.run;have hst:=(Zlf hok (opL ⟨(Ziq S.run).toArray⟩) k).1;have HDf:=Zhd (fun(W:World) (hb:Below w6.heap.size w6 W)=>Zkn C S (opL ⟨(Ziq S.run).toArray⟩) k none 0 W (hC6.below hb) (HEo.out _ (Zaa HB6.out hb)) Rd.nil (Yaf _) (Yas _) (Yas _) (by show(Ziq S.run).toArray.size≤1000000;rw[Yds];exact hts) (by show -9223372036854775808≤(0:Int)∧(0:Int)≤9223372036854775807;omega) 40 hok (by decide))
 have hlk:=hok.lock;obtain⟨T,hT⟩: ∃ T:ByteArray,(⟨(Ziq S.run).toArray⟩:ByteArray)=T:=⟨_,rfl⟩;rw[hT]at HS hz hst HDf;clear hT hts hl1 hl2 hl3 hop hx;go_upto_region 7 with(go_at_call 13;refine HS.out.mono ?_;rintro e w7 ⟨rfl,hb7⟩)
 have Bp7:=Bp.below hb7;have hC7:=hC6.below hb7;have HB7:=Zhd (Zaa HB6.out hb7);have HD:=Zhd (HDf.out w7 hb7);clear hb7 Bp hC6 HB6 HS HDf p0 e0;by_cases hl:S.lock≠0∧S.lock≠(k:Int)+1
 · rw[Yam hl]at hz;rw[hz]at HD;go_upto_region 7 with fail
   refine wp_region_lit ?_;refine wpList_load_mid rfl 32 _ rfl w5.heap.size 0 (by rfl) C.toList _ Bp7.range underlying32 rfl (by rw[Yau,hcs];exact Zam) ?_
   rw[show C.toList.toArray=C from rfl];try simp only[Act.put,Yaa,Yac,Yad]
   go_wp2_with fail;go_at_call 11;refine HD.out.mono ?_;rintro e w8 ⟨⟨v8,rfl,hv⟩,hbc⟩;obtain⟨C2,rfl,hC2⟩:=hv.cells;have hc2:=hC2.size;rename_i hKx;refine hKx _ _ ?_;clear hKx HD;try simp only[Act.put,Yaa,Yac,Yad]
   refine Zdh (v:= .tuple #[.agg C2, .agg #[.int .i64 9, .int .i64 0]]) rfl (by rfl) ?_
   try simp only[Act.put,Yaa,Yac,Yad]
   refine Zfl (C:=C2) (R:= #[.int .i64 9, .int .i64 0]) hc2 hC2.one rfl rfl (by rfl) (by rfl) (by rfl) (by rfl) (by rfl) (by rfl) ?_
   intro w9 hb9 Bq Br;have hb:=Zaa hbc hb9;have Bp9:=Bp7.below hb;have HB9:=Zhd (Zaa HB7.out hb);have p11:w9.cell? ⟨w5.heap.size,11,none⟩=some (.int .i64 S.lock):=(Bp9.cell _).trans hC7.lock;have r0:w9.cell? ⟨w8.heap.size+1,0,none⟩=some (.int .i64 9):=(Br.cell _).trans rfl;have g1:(S.lock !=0)=true:=by rw[bne_iff_ne];exact hl.1
   have g2:(S.lock !=(k:Int)+1)=true:=by rw[bne_iff_ne];exact hl.2
   clear hbc hb9 hb Bp7 hC7 HB7 hC2 Bq Br Bp9 hz hst hck hl;try simp only[Act.put,Yaa,Yac,Yad]
   go_wp2_with fail;refine(HAW.out _ HB9.out).mono ?_;rintro e wz ⟨rfl,hbz⟩;have HB:=Zhd (Zaa HB9.out hbz);clear hbz;go_wp2_with fail;go_ret;exact⟨rfl,HB.out⟩
 · rw[Yab hl]at hz;rw[hz]at HD hst;go_upto_region 7 with fail
   refine wp_region_lit ?_;refine wpList_load_mid rfl 32 _ rfl w5.heap.size 0 (by rfl) C.toList _ Bp7.range underlying32 rfl (by rw[Yau,hcs];exact Zam) ?_
   rw[show C.toList.toArray=C from rfl];try simp only[Act.put,Yaa,Yac,Yad]
   go_wp2_with fail;go_at_call 11;refine HD.out.mono ?_;rintro e w8 ⟨⟨v8,rfl,hv⟩,hbc⟩;obtain⟨C2,rfl,hC2⟩:=hv.cells;have hc2:=hC2.size;rename_i hKx;refine hKx _ _ ?_;clear hKx HD;try simp only[Act.put,Yaa,Yac,Yad]
   refine Zdh (v:= .tuple #[.agg C2, .agg #[.int .i64 0, .int .i64 0]]) rfl (by rfl) ?_
   try simp only[Act.put,Yaa,Yac,Yad]
   refine Zfl (C:=C2) (R:= #[.int .i64 0, .int .i64 0]) hc2 hC2.one rfl rfl (by rfl) (by rfl) (by rfl) (by rfl) (by rfl) (by rfl) ?_
   intro w9 hb9 Bq Br;have hb:=Zaa hbc hb9;have Bp9:=Bp7.below hb;have HB9:=Zhd (Zaa HB7.out hb);have p11:w9.cell? ⟨w5.heap.size,11,none⟩=some (.int .i64 S.lock):=(Bp9.cell _).trans hC7.lock;have r0:w9.cell? ⟨w8.heap.size+1,0,none⟩=some (.int .i64 0):=(Br.cell _).trans rfl;have hC9:=hC2.below hb9;have HCO:=Zhd (fun(W:World) (hb:Below w9.heap.size w9 W)=>Zsu _ _ k W (hC9.below hb) hst.run hst.mine)
   rw[hck]at HCO;clear hbc hb9 hb Bp7 hC7 HB7 hC2 Br Bp9 hz hst hck hC9;obtain⟨a0,a1,a2,a3,a4,a5,a6,a7,a8,a9,aa,ab,ac,ad,ae,rfl⟩:=Zbbj hc2;have q0:w9.cell? ⟨w8.heap.size,0,none⟩=some a0:=(Bq.cell _).trans rfl;have q1:w9.cell? ⟨w8.heap.size,1,none⟩=some a1:=(Bq.cell _).trans rfl;have q2:w9.cell? ⟨w8.heap.size,2,none⟩=some a2:=(Bq.cell _).trans rfl;have q3:w9.cell? ⟨w8.heap.size,3,none⟩=some a3:=(Bq.cell _).trans rfl;have q4:w9.cell? ⟨w8.heap.size,4,none⟩=some a4:=(Bq.cell _).trans rfl;have q5:w9.cell? ⟨w8.heap.size,5,none⟩=some a5:=(Bq.cell _).trans rfl;have q6:w9.cell? ⟨w8.heap.size,6,none⟩=some a6:=(Bq.cell _).trans rfl;have q7:w9.cell? ⟨w8.heap.size,7,none⟩=some a7:=(Bq.cell _).trans rfl;have q8:w9.cell? ⟨w8.heap.size,8,none⟩=some a8:=(Bq.cell _).trans rfl;have q9:w9.cell? ⟨w8.heap.size,9,none⟩=some a9:=(Bq.cell _).trans rfl;have qa:w9.cell? ⟨w8.heap.size,10,none⟩=some aa:=(Bq.cell _).trans rfl;have qb:w9.cell? ⟨w8.heap.size,11,none⟩=some ab:=(Bq.cell _).trans rfl;have qc:w9.cell? ⟨w8.heap.size,12,none⟩=some ac:=(Bq.cell _).trans rfl;have qd:w9.cell? ⟨w8.heap.size,13,none⟩=some ad:=(Bq.cell _).trans rfl;have qe:w9.cell? ⟨w8.heap.size,14,none⟩=some ae:=(Bq.cell _).trans rfl;clear Bq;try simp only[Act.put,Yaa,Yac,Yad]
   have hl':(S.lock !=0)=false∨((S.lock !=0)=true∧(S.lock !=(k:Int)+1)=false):=by
    by_cases h:S.lock=0
    · exact .inl (by rw[h];rfl)
    · exact .inr ⟨by rw[bne_iff_ne];exact h,by rw[bne_eq_false_iff_eq];exact Decidable.byContradiction fun e=>hl ⟨h,e⟩⟩
   clear hl;rcases hl' with g1|⟨g1,g2⟩
   all_goals
    go_wp2_with fail;refine(HCO.out _ (Yag _ _)).mono ?_;rintro e wb ⟨⟨v,Q,rfl,hQ,hmq⟩,hbb⟩;have hq0:Q.length=0:=by rw[←Yay (f:=CV.chg),hmq];rfl
    obtain⟨Aq,cq,rfl,-⟩:=Zcr hQ.1;rw[hq0];have HBb:=Zhd (Zaa HB9.out hbb);clear hQ hmq hbb HCO;go_wp2_with fail;refine(HAW.out _ HBb.out).mono ?_;rintro e wz ⟨rfl,hbz⟩;have HB:=Zhd (Zaa HBb.out hbz);clear hbz;go_wp2_with fail;go_ret;exact⟨rfl,HB.out⟩
end Go.Proofs.Zq
