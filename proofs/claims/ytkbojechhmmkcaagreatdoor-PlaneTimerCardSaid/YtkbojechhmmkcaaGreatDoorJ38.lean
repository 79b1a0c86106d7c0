import Derived.Test.YtkbojechhmmkcaaGreatDoorJ35
set_option linter.unusedVariables false
set_option linter.unusedSimpArgs false
set_option maxHeartbeats 16000000
set_option maxRecDepth 100000
namespace Go.Proofs.Zq
open Tryz
open Go Go.RowKit Go.Sort Tre Lx Prs Lns Edt Sch
theorem Zapz {ops:Array Oper} {sv s1 s2 sq sr:Nat} {t1 t2 t3 t4:TypeId} {p1 p2 p3 p4:String} {f1 f2 f3 f4:Array Edge} {Q:Exit→Act→World→Prop} {a:Act} {W:World} {q r:Nat} {C Z R Y:Array Value}
 (hc:C.size=15) (h1:C.toList.all (·.oneCell')=true) (hq:Bl W q Z 32) (hz:Z.size=15) (hr:Bl W r Y 39) (hy:Y.size=2) (hR:R.size=2) (hR1:R.toList.all (·.oneCell')=true) (hqr:r≠q)
 (a0:(execOp a.eval {dst:=some s1,op:= .extract (.tmp sv) 0,type:=t1,pos:=p1,after:=f1,guard:=none}).run prog W= .ok (.value (.agg C)) W)
 (a9:(execOp (a.put (some s1) (.agg C)).eval {dst:=some s2,op:= .extract (.tmp sv) 1,type:=t2,pos:=p2,after:=f2,guard:=none}).run prog W= .ok (.value (.agg R)) W)
 (a4:((a.put (some s1) (.agg C)).put (some s2) (.agg R)).eval (.tmp sq)= .pointer (some ⟨q,0,none⟩)) (a1:((a.put (some s1) (.agg C)).put (some s2) (.agg R)).eval (.tmp s1)= .agg C)
 (a5:(((a.put (some s1) (.agg C)).put (some s2) (.agg R)).put none undef).eval (.tmp sr)= .pointer (some ⟨r,0,none⟩)) (a6:(((a.put (some s1) (.agg C)).put (some s2) (.agg R)).put none undef).eval (.tmp s2)= .agg R)
 (h: ∀ W',Off q W (W.setCells q 0 C.toList)→Off r (W.setCells q 0 C.toList) W'→(∀ B,B≤q→B≤r→ ∀ {w0},Below B w0 W→Below B w0 W')→Bl W' q C 32→Bl W' r R 39→Q .normal ((((a.put (some s1) (.agg C)).put (some s2) (.agg R)).put none undef).put none undef) W'):
 wpList prog ops Q [{dst:=some s1,op:= .extract (.tmp sv) 0,type:=t1,pos:=p1,after:=f1,guard:=none},{dst:=some s2,op:= .extract (.tmp sv) 1,type:=t2,pos:=p2,after:=f2,guard:=none},{dst:=none,op:= .store 32 (.tmp sq) (.tmp s1),type:=t3,pos:=p3,after:=f3,guard:=none},{dst:=none,op:= .store 39 (.tmp sr) (.tmp s2),type:=t4,pos:=p4,after:=f4,guard:=none}] a W:=by
 refine wpList_plain rfl fun K hK=> ?_
 unfold Oper.wp;rw[a0];refine hK _ _ ?_;refine wpList_plain rfl fun K hK=> ?_
 unfold Oper.wp;rw[a9];refine hK _ _ ?_;refine wpList_store_mid rfl 32 _ _ rfl q 0 C a4 a1 (hq.there (by omega)) (by rw[hc];exact Zai) (Ybd.2 fun v hv=>Ybq.1 h1 v (by simpa using hv)) ?_
 have hr1:=hr.others (o:=0) hqr C.toList;have hq1:=hq.sets (D:=C) (by omega)
 refine wpList_store_mid rfl 39 _ _ rfl r 0 R a5 a6 (hr1.there (by omega)) (by rw[hR];exact Zbv) (Ybd.2 fun v hv=>Ybq.1 hR1 v (by simpa using hv)) ?_
 refine wpList_nil ?_;exact h _ ((Off.refl _ _).setCells _ 0) ((Off.refl _ _).setCells _ 0) (fun B b1 b2 w0 hb=>Zak b2 _ _ (Zak b1 _ _ hb)) (hq1.others (Ne.symm hqr) _) (hr1.sets (by omega))
theorem Zvf {ops:Array Oper} {sv s1 s2 sq sr:Nat} {t1 t2 t3 t4:TypeId} {p1 p2 p3 p4:String} {f1 f2 f3 f4:Array Edge} {Q:Exit→Act→World→Prop} {a:Act} {W:World} {q r:Nat} {C Z R Y:Array Value}
 (hc:C.size=15) (h1:C.toList.all (·.oneCell')=true) (hq:Bl W q Z 32) (hz:Z.size=15) (hr:Bl W r Y 39) (hy:Y.size=2) (hR:R.size=2) (hR1:R.toList.all (·.oneCell')=true) (hqr:r≠q)
 (hn1:Z.toList.all (fun u=>match u with| .string _=>false|_=>true)=true) (hn2:Y.toList.all (fun u=>match u with| .string _=>false|_=>true)=true)
 (a0:(execOp a.eval {dst:=some s1,op:= .extract (.tmp sv) 0,type:=t1,pos:=p1,after:=f1,guard:=none}).run prog W= .ok (.value (.agg C)) W)
 (a9:(execOp (a.put (some s1) (.agg C)).eval {dst:=some s2,op:= .extract (.tmp sv) 1,type:=t2,pos:=p2,after:=f2,guard:=none}).run prog W= .ok (.value (.agg R)) W)
 (a4:((a.put (some s1) (.agg C)).put (some s2) (.agg R)).eval (.tmp sq)= .pointer (some ⟨q,0,none⟩)) (a1:((a.put (some s1) (.agg C)).put (some s2) (.agg R)).eval (.tmp s1)= .agg C)
 (a5:(((a.put (some s1) (.agg C)).put (some s2) (.agg R)).put none undef).eval (.tmp sr)= .pointer (some ⟨r,0,none⟩)) (a6:(((a.put (some s1) (.agg C)).put (some s2) (.agg R)).put none undef).eval (.tmp s2)= .agg R)
 (h: ∀ W',(∀ v M,Lr W v M→Lr W' v M)→(∀ D S,PlC W D S→PlC W' D S)→(∀ b,b≠q→b≠r→b<W.heap.size→W'.heap[b]?=W.heap[b]?)→(∀ B,B≤q→B≤r→ ∀ {w0},Below B w0 W→Below B w0 W')→Bl W' q C 32→Bl W' r R 39→Q .normal ((((a.put (some s1) (.agg C)).put (some s2) (.agg R)).put none undef).put none undef) W'):
 wpList prog ops Q [{dst:=some s1,op:= .extract (.tmp sv) 0,type:=t1,pos:=p1,after:=f1,guard:=none},{dst:=some s2,op:= .extract (.tmp sv) 1,type:=t2,pos:=p2,after:=f2,guard:=none},{dst:=none,op:= .store 32 (.tmp sq) (.tmp s1),type:=t3,pos:=p3,after:=f3,guard:=none},{dst:=none,op:= .store 39 (.tmp sr) (.tmp s2),type:=t4,pos:=p4,after:=f4,guard:=none}] a W:=
 Zapz hc h1 hq hz hr hy hR hR1 hqr a0 a9 a4 a1 a5 a6 fun W' o1 o2 hb b1 b2=>
  h W' (fun v M hL=>(hL.off hq hn1 o1).off (hr.others (o:=0) hqr C.toList) hn2 o2) (fun D S hD=>(hD.off hq (by decide) hn1 o1).off (hr.others (o:=0) hqr C.toList) (by decide) hn2 o2) (fun b n1 n2 hl=>(o2.2 b n2 (Ybp hl o1.1)).trans (o1.2 b n1 hl)) hb b1 b2
theorem Zayn (a b:OpM) (ha:a.o.path= []∧a.o.text.size≤1000000) (hb:b.o.path= []∧b.o.text.size≤1000000) {L:List OpM} (hL: ∀ x∈L,x.o.path.length≤1000000∧x.o.text.size≤1000000): ∀ x∈L++ [a,b],x.o.path.length≤1000000∧x.o.text.size≤1000000:=fun x hx=>by
 rcases Ybl.1 hx with hx|hx
 · exact hL x hx
 · rcases Yax.1 hx with rfl|hx
   · exact⟨by rw[ha.1];exact Yao _,ha.2⟩
   · rw[Ybt]at hx;subst hx;exact⟨by rw[hb.1];exact Yao _,hb.2⟩
theorem Zaqc {S0:Ps} (h:PsOk 30 S0):(((doS (doS S0 (opM 15 0 70000).o 0).1 (opM 1 2 0).o 2).1).dead≠0→2147413647<((doS (doS S0 (opM 15 0 70000).o 0).1 (opM 1 2 0).o 2).1).clock)∧(((doS (doS S0 (opM 15 0 70000).o 0).1 (opM 1 2 0).o 2).1).ses 2).opn=true:=by
 obtain⟨e1,e2,e3⟩:=Zamg (doS S0 (opM 15 0 70000).o 0).1 (opM 1 2 0).o rfl;rw[e1,e2,Zly (show(opM 15 0 70000).o.kind=15 from rfl)];exact⟨Zatb h.dead,by rw[Zly (show(opM 15 0 70000).o.kind=15 from rfl)]at e3;exact e3⟩
def opT (kind n:Int):Opp:=⟨kind,[],⟨#[]⟩,0,n,⟨#[]⟩⟩
theorem timer_any (A:Option Addr) (c:Nat) (L:List OpM) (x y:Int) (cf:Bool) (w:World) (hE:Env w) (hO:Ops w A L) (hc:L.length≤c) (hm:c≤maxLen) (hnil:A=none→c=0) (hx:0≤x∧x≤65535) (hy:0≤y∧y≤65535):
 Calls prog 3 #[.slice A L.length c, .int .u16 x, .int .u16 y, .bool cf] w fun e w'=>e= .returned (.bool true)∧Below w.heap.size w w':=by
 have HF:=Zvk A c L 30 w hO hc hm (by decide)
 have HEo:=Zhd (fun(W:World) (hb:Below w.heap.size w W)=>hE.below hb)
 have HOo:=Zhd (fun(W:World) (hb:Below w.heap.size w W)=>hO.below hb)
 have HAW:=Zhd (fun(W:World) (hb:Below w.heap.size w W)=>Zxl W (hE.below hb))
 by_cases hf:fewO L 30<0
 · rw[Zvl hf]at HF;clear hf hO hE hx hy;go_enter func3,ntmps3;go_wp2_with fail;refine HF.mono ?_;rintro e w1 ⟨rfl,hb1⟩;go_wp2_with fail;refine(HAW.out _ hb1).mono ?_;rintro e w3 ⟨rfl,hb3⟩;have HB:=Zhd (Zaa hb1 hb3);clear hb3 hb1;go_wp2_with fail;go_ret;exact⟨rfl,HB.out⟩
 obtain⟨hf1,hf2⟩:=Zaar hf;rw[hf1]at HF;obtain⟨n,hn⟩: ∃ n,min L.length 30=n:=⟨_,rfl⟩;rw[hn]at HF hf2;have hnL:n≤L.length:=by omega
 have hn30:n≤30:=by omega
 have hnc:(n:Int)≤(c:Int):=by omega
 have hn0:(0:Int)≤(n:Int):=by omega
 have HX:=Zhd hf2;have hge1:(decide ((n:Int)<0))=false:=Yah (by omega)
 have HNIL:=Zhd hnil;have hcI:(c:Int)≤9223372036854775807:=by unfold maxLen at hm;omega
 clear hf hf1 hf2 hO hE hn hnil;go_enter func3,ntmps3;go_wp2_with fail;refine HF.mono ?_;rintro e w2 ⟨rfl,hb2⟩;have HB2:=Zhd hb2;clear hb2 HF;have HO2:=Zhd (HOo.out w2 HB2.out);obtain⟨i0,hii,hz0,hz1,hz2⟩:=info_parts Zakz;have hown0:=Zamj w2 w2.heap.size 36 7 (Yag _);have hb0:Below w2.heap.size w2 (w2.alloc (.cells #[] 36)):=(Yae _ _).alloc (Yag _) _;have HR:=Zhd ((Zyz HO2.out hnL).below hb0);go_upto_region 4 with fail
 refine wp_region_lit ?_;go_wp2_with (at_builtin;first|(refine Zacx rfl _ _ 22 rfl w2 (w2.alloc (.cells #[] 36)) 36 i0 _ 7 88 underlying22 hii hz0 hz1 hz2 rfl (by decide) (by decide) hown0 hb0 rfl A n c (opcs (L.take n)) rfl HR.out HNIL.out (Zpx _) (by omega) ?_;intro v1 w3 hown1 hb3)|(go_must (refine Zacw rfl _ _ 22 rfl w2 w3 36 i0 _ 7 88 underlying22 hii hz0 hz1 hz2 rfl (by decide) (by decide) hown1 hb3 rfl 2 2 (opcs [opM 15 0 70000,opM 1 2 0]) rfl rfl (Zpx _) (by omega) ?_);intro v2 w4 hown2 hb4))
 have hown3:w4.ownsRow w2.heap.size 36 7 v2 (n+ [opM 15 0 70000,opM 1 2 0].length) (opcs (L.take n)++opcs [opM 15 0 70000,opM 1 2 0]):=by simpa using hown2
 obtain⟨A2,c2,rfl,g1,g2,hP2⟩:=HO2.out.app hnL hb4 hown3 (fun x hx=>by
  rcases Yax.1 hx with rfl|hx
  · exact Zamf _ _ _ _ (by decide)
  · rw[Ybt.1 hx];exact Zamf _ _ _ _ (by decide))
 have hlen:(L.take n++ [opM 15 0 70000,opM 1 2 0]).length≤32:=by rw[Yak,Yaf];show _+2≤_;omega
 have HB4:=Zhd (Zaa HB2.out hb4);have HBH:=Ztm A2 c2 (L.take n++ [opM 15 0 70000,opM 1 2 0]) w4 (HEo.out _ HB4.out) hP2 g1 g2 (by omega) (Zayn _ _ ⟨rfl,Yao _⟩ ⟨rfl,Yao _⟩ HX.out)
 have hok:PsOk 40 (behS Zej (L.take n++ [opM 15 0 70000,opM 1 2 0])):=(Zadb (L.take n++ [opM 15 0 70000,opM 1 2 0]) Zpq).mono (by omega)
 have hfar:=Zaqc ((Zajb (L:=L) hnL).mono (u:=30) (by omega))
 rw[show(doS (doS (behS Zej (L.take n)) (opM 15 0 70000).o 0).1 (opM 1 2 0).o 2).1=behS Zej (L.take n++ [opM 15 0 70000,opM 1 2 0]) by rw[Zaac];rfl]at hfar
 generalize behS Zej (L.take n++ [opM 15 0 70000,opM 1 2 0])=S at *;obtain⟨hd1,hop⟩:=hfar;clear hown0 hown1 hown2 hown3 hb0 hb3 hb4 HR hP2 hlen HO2;go_at_call 10;refine HBH.mono ?_;rintro e w5 ⟨⟨C,rfl,hC⟩,hb5⟩;have hcs:=hC.size;have hns:=hC.nostr;rename_i hKx;refine hKx _ _ ?_;clear hKx HBH;try simp only[Act.put,Yaa,Yab,Yac]
 refine Zpv (C:=C) hcs hC.one (by rfl) (by rfl) ?_
 intro w6 hb6 Bp;have hC6:=hC.below hb6;have HB6:=Zhd (Zaa HB4.out (Zaa hb5 hb6));have hgw:w.heap.size≤w5.heap.size:=Yas HB4.out.size hb5.size;clear hb5 hb6 hC HB4 HB2;try simp only[Act.put,Yaa,Yab,Yac]
 by_cases hd0:S.dead≠0
 · have p13:w6.cell? ⟨w5.heap.size,13,none⟩=some (.int .i64 S.dead):=(Bp.cell _).trans hC6.dead;have p12:w6.cell? ⟨w5.heap.size,12,none⟩=some (.int .i64 S.clock):=(Bp.cell _).trans hC6.clock;have q1:(S.dead !=0)=true:=by rw[bne_iff_ne];exact hd0
   have q2:(2147413647:Int)<S.clock:=hd1 hd0;clear hd0 hd1 hC6 Bp hok hop hcs hns;go_wp2_with fail;refine(HAW.out _ HB6.out).mono ?_;rintro e w9 ⟨rfl,hb9⟩;have HB:=Zhd (Zaa HB6.out hb9);clear hb9;go_wp2_with fail;go_ret;exact⟨rfl,HB.out⟩
 obtain⟨v0,e0,l0⟩:=hC6.run;obtain⟨A0,n0,c0,rfl⟩:=l0.slice
 have p13:w6.cell? ⟨w5.heap.size,13,none⟩=some (.int .i64 0):=by
  have:=(Bp.cell 13).trans hC6.dead
  rwa [Decidable.not_not.1 hd0]at this
 have p0:w6.cell? ⟨w5.heap.size,0,none⟩=some (.slice A0 n0 c0):=(Bp.cell _).trans e0;obtain⟨k,hk⟩: ∃ k,1+x%1000=k:=⟨_,rfl⟩;have hk0:1≤k:=by omega
 have hk1:k≤1000:=by omega
 have hkw:IntKind.i64.wrap (1+x%1000)=k:=by rw[hk,IntKind.wrap_i64];omega
 have HD:=Zhd (Zgu C S (opT 14 k) 2 none 0 w6 hC6 (HEo.out _ HB6.out) Rd.nil (Yag _) (Yao _) (Yao _) (Yao _) (by show -9223372036854775808≤k∧k≤9223372036854775807;omega) 40 hok (by decide))
 have hst:=(Zhf hok (opT 14 k) 2).1;have hcw:=fun he=>Zxo hok hop (o:=opT 14 k) rfl ⟨hk0,hk1⟩ (Decidable.not_not.1 hd0) he
 have hclk:=hok.clock;generalize doS S (opT 14 k) 2=z at *;obtain⟨S2,ze,zn⟩:=z;clear hop hok hd0 hd1;go_upto_region 8 with fail
 refine wp_region_lit ?_;refine wpList_load_mid rfl 32 _ rfl w5.heap.size 0 (by rfl) C.toList _ Bp.range underlying32 rfl (by rw[Yav,hcs];exact Zai) ?_
 rw[show C.toList.toArray=C from rfl];try simp only[Act.put,Yaa,Yab,Yac]
 go_wp2_with fail;go_at_call 11;refine HD.out.mono ?_;rintro e w7 ⟨⟨v7,rfl,hv⟩,hbc⟩;obtain⟨C2,rfl,hC2⟩:=hv.cells;have hc2:=hC2.size;rename_i hKx;refine hKx _ _ ?_;clear hKx HD;try simp only[Act.put,Yaa,Yab,Yac]
 refine Zcj (v:= .tuple #[.agg C2, .agg #[.int .i64 ze, .int .i64 zn]]) rfl (by rfl) ?_
 try simp only[Act.put,Yaa,Yab,Yac]
 refine Zgv (C:=C2) (R:= #[.int .i64 ze, .int .i64 zn]) hc2 hC2.one rfl rfl (by rfl) (by rfl) (by rfl) (by rfl) (by rfl) (by rfl) ?_
 intro w8 hb8 Bq Br;have hb:=Zaa hbc hb8;have Bp8:=Bp.below hb;have hP8:=hC6.below hb;have hC8:=hC2.below hb8;have HB8:=Zhd (Zaa HB6.out hb);have hpq:w5.heap.size<w7.heap.size:=by have:=Bp.lt;have:=hbc.size;omega
 have p12:w8.cell? ⟨w5.heap.size,12,none⟩=some (.int .i64 S.clock):=(Bp8.cell _).trans hP8.clock;have r0:w8.cell? ⟨w7.heap.size+1,0,none⟩=some (.int .i64 ze):=(Br.cell _).trans rfl;clear hbc hb8 hb Bp hC6 hC2 HB6 p13 p0 l0 hkw;try simp only[Act.put,Yaa,Yab,Yac]
 by_cases hze:ze≠0
 · have q1:(ze !=0)=true:=by rw[bne_iff_ne];exact hze
   clear hze hcw hst Bp8 hP8 hC8 Bq Br;go_wp2_with fail;refine(HAW.out _ HB8.out).mono ?_;rintro e wz ⟨rfl,hbz⟩;have HB:=Zhd (Zaa HB8.out hbz);clear hbz;go_wp2_with fail;go_ret;exact⟨rfl,HB.out⟩
 obtain rfl:ze=0:=Decidable.not_not.1 hze;by_cases hck:(2147478647:Int)<S.clock
 · clear hze hcw hst Bp8 hP8 hC8 Bq Br;go_wp2_with fail;refine(HAW.out _ HB8.out).mono ?_;rintro e wz ⟨rfl,hbz⟩;have HB:=Zhd (Zaa HB8.out hbz);clear hbz;go_wp2_with fail;go_ret;exact⟨rfl,HB.out⟩
 obtain⟨T,hw,hzn⟩:=hcw rfl;have hzn':zn=Zav S2:=hzn;subst hzn';obtain⟨a,ha⟩: ∃ a,y%k=a:=⟨_,rfl⟩;have ha0:0≤a:=by rw[←ha];exact Int.emod_nonneg _ (by omega)
 have ha1:a<k:=by rw[←ha];exact Int.emod_lt_of_pos _ (by omega)
 have hyk:y.tmod k=a:=by rw[Int.tmod_eq_emod_of_nonneg hy.1];exact ha
 have hkne:k≠0:=by omega
 have hkb:(k==0)=false:=Yai.2 hkne;have hla:=hst.last;have e2:doS S2 (opT 15 a) 0=({S2 with clock:=S2.clock+a},0,0):=(Zly rfl).trans (Zaow hw ⟨ha0,ha1⟩ hk1 ⟨hclk.1,by omega⟩)
 have HD:=Zgu C2 S2 (opT 15 a) 0 none 0 w8 hC8 (HEo.out _ HB8.out) Rd.nil (Yag _) (Yao _) (Yao _) (Yao _) (by show -9223372036854775808≤a∧a≤9223372036854775807;omega) _ hst (by decide)
 have hst2:=(Zhf hst (opT 15 a) 0).1;rw[e2]at HD hst2;have HDh:=Zhd HD;have HW:Hid (Waits S k S2 T):=hw;have hdead':S2.dead=S.clock+k:=hw.dead;have hclk2:=hw.clock;have hns2:=hC8.nostr;clear HD e2 hw hcw hze hC8 hst;go_upto_region 12 with fail
 refine wp_region_lit ?_;refine wpList_load_mid rfl 32 _ rfl w7.heap.size 0 (by rfl) C2.toList _ Bq.range underlying32 rfl (by rw[Yav,hc2];exact Zai) ?_
 rw[show C2.toList.toArray=C2 from rfl];try simp only[Act.put,Yaa,Yab,Yac]
 go_wp2_with fail;go_at_call 11;refine HDh.out.mono ?_;rintro e w9 ⟨⟨v9,rfl,hv⟩,hbc⟩;obtain⟨C3,rfl,hC3⟩:=hv.cells;have hc3:=hC3.size;rename_i hKx;refine hKx _ _ ?_;clear hKx HDh;try simp only[Act.put,Yaa,Yab,Yac]
 refine Zcj (v:= .tuple #[.agg C3, .agg #[.int .i64 0, .int .i64 0]]) rfl (by rfl) ?_
 try simp only[Act.put,Yaa,Yab,Yac]
 refine Zve (C:=C3) (R:= #[.int .i64 0, .int .i64 0]) (Z:=C2) (q:=w7.heap.size) hc3 hC3.one rfl rfl (Bq.below hbc) hc2 (by rfl) (by rfl) (by rfl) (by rfl) (by rfl) (by rfl) ?_
 intro wa hoff hbel Bqa Bsa;have hrs:w7.heap.size+1<w9.heap.size:=Ybp Br.lt hbc.size;have Bpa:Bl wa w5.heap.size C 32:=(hoff.2 _ (Nat.ne_of_lt hpq) (Bp8.below hbc).lt).trans (Bp8.below hbc);have Bra:Bl wa (w7.heap.size+1) #[.int .i64 0, .int .i64 (Zav S2)] 39:=(hoff.2 _ (by omega) (Br.below hbc).lt).trans (Br.below hbc)
 have hPa:=(hP8.below hbc).off (Bq.below hbc) (by decide) hns2 hoff
 have hCa:=hC3.off (Bq.below hbc) (by decide) hns2 hoff
 have HBa:=Zhd (hbel _ (by omega) (by omega) (Zaa HB8.out hbc))
 clear hoff hbel hbc hC3 hP8 Bp8 Bq Br HB8 p12 r0 hns2;try simp only[Act.put,Yaa,Yab,Yac]
 have p12:wa.cell? ⟨w5.heap.size,12,none⟩=some (.int .i64 S.clock):=(Bpa.cell _).trans hPa.clock;have q13:wa.cell? ⟨w7.heap.size,13,none⟩=some (.int .i64 (S.clock+k)):=(Bqa.cell _).trans (hCa.dead.trans (congrArg (fun d=>some (Value.int .i64 d)) hdead'))
 have s1:wa.cell? ⟨w9.heap.size,1,none⟩=some (.int .i64 0):=(Bsa.cell _).trans rfl;have hwk:IntKind.i64.wrap (S.clock+k)=S.clock+k:=by rw[IntKind.wrap_i64];omega
 have g1:(S.clock+k !=S.clock+k)=false:=bne_self_eq_false _;obtain⟨v3,e3,l3⟩:=hCa.run;obtain⟨A3,n3,c3,rfl⟩:=l3.slice;have q0:wa.cell? ⟨w7.heap.size,0,none⟩=some (.slice A3 n3 c3):=(Bqa.cell _).trans e3;have HL3:=Zhd l3;clear l3 e3;have hka:IntKind.i64.wrap (k-a)=k-a:=by rw[IntKind.wrap_i64];omega
 have hwl:IntKind.i64.wrap (Zav S2+1)=Zav S2+1:=by rw[IntKind.wrap_i64];omega
 have hns3:=hCa.nostr;have HPa:=Zhd hPa;cases cf with
 | true=>
   have HD:=Zgu C3 {S2 with clock:=S2.clock+a} (opT 14 0) 2 none 0 wa hCa (HEo.out _ HBa.out) Rd.nil (Yag _) (Yao _) (Yao _) (Yao _) (by show -9223372036854775808≤(0:Int)∧(0:Int)≤9223372036854775807;omega) _ hst2 (by decide)
   obtain⟨f1,f2,f3,f4⟩:=Zzu HW.out ⟨ha0,ha1⟩ hk1 ⟨hclk.1,by omega⟩ (o:=opT 14 0) rfl rfl
   have hst3:=(Zhf hst2 (opT 14 0) 2).1;generalize doS {S2 with clock:=S2.clock+a} (opT 14 0) 2=z at *
   obtain⟨S4,e4,n4⟩:=z;obtain⟨rfl,rfl⟩:e4=0∧n4=Zav S2+1:=by injection f4 with g1 g2;exact⟨g1,g2⟩
   have f1':S4.run=S2.run:=Eq.trans f1 HW.out.run.symm;have f2':S4.dead=0:=f2;have f3':S4.clock=S.clock+a:=f3;have HDh:=Zhd HD;clear HD f1 f2 f3 f4 hCa;go_upto_region 17 with fail
   refine wp_region_lit ?_;refine wpList_load_mid rfl 32 _ rfl w7.heap.size 0 (by rfl) C3.toList _ Bqa.range underlying32 rfl (by rw[Yav,hc3];exact Zai) ?_
   rw[show C3.toList.toArray=C3 from rfl];try simp only[Act.put,Yaa,Yab,Yac]
   go_wp2_with fail;go_at_call 11;refine HDh.out.mono ?_;rintro e wb ⟨⟨vb,rfl,hv⟩,hbc⟩;obtain⟨C4,rfl,hC4⟩:=hv.cells;have hc4:=hC4.size;rename_i hKx;refine hKx _ _ ?_;clear hKx HDh;try simp only[Act.put,Yaa,Yab,Yac]
   refine Zcj (v:= .tuple #[.agg C4, .agg #[.int .i64 0, .int .i64 (Zav S2+1)]]) rfl (by rfl) ?_
   try simp only[Act.put,Yaa,Yab,Yac]
   refine Zvf (C:=C4) (R:= #[.int .i64 0, .int .i64 (Zav S2+1)]) hc4 hC4.one (Bqa.below hbc) hc3 (Bsa.below hbc) rfl rfl rfl (by omega) hns3 rfl (by rfl) (by rfl) (by rfl) (by rfl) (by rfl) (by rfl) ?_
   intro wd hlr hpl hoff hbel Bqd Bsd;have Bpd:Bl wd w5.heap.size C 32:=(hoff _ (by omega) (by omega) (Bpa.below hbc).lt).trans (Bpa.below hbc)
   have Brd:Bl wd (w7.heap.size+1) #[.int .i64 0, .int .i64 (Zav S2)] 39:=(hoff _ (by omega) (by omega) (Bra.below hbc).lt).trans (Bra.below hbc)
   have hPd:=Zhd (hpl _ _ (HPa.out.below hbc));have hCd:=hpl _ _ hC4;have HBd:=Zhd (hbel _ (by omega) (by omega) (Zaa HBa.out hbc))
   have HLd:=Zhd (hlr _ _ (HL3.out.below hbc));clear hlr hpl hoff hbel hbc hC4 HPa HBa HL3 Bpa Bqa Bra Bsa p12 q13 s1 q0 hns3 hst2;try simp only[Act.put,Yaa,Yab,Yac]
   have r1:wd.cell? ⟨w7.heap.size+1,1,none⟩=some (.int .i64 (Zav S2)):=(Brd.cell _).trans rfl;have s0:wd.cell? ⟨w9.heap.size,0,none⟩=some (.int .i64 0):=(Bsd.cell _).trans rfl;have s1:wd.cell? ⟨w9.heap.size,1,none⟩=some (.int .i64 (Zav S2+1)):=(Bsd.cell _).trans rfl;have g3:(Zav S2+1 !=Zav S2+1)=false:=bne_self_eq_false _;have hns4:=hCd.nostr;have e5:doS S4 (opT 15 (k-a)) 0=({S4 with clock:=S4.clock+(k-a)},0,0):=(Zly rfl).trans (Zsb f2' (by show 0≤k-a;omega) (by show S4.clock+(k-a)≤_;omega))
   have HD:=Zgu C4 S4 (opT 15 (k-a)) 0 none 0 wd hCd (HEo.out _ HBd.out) Rd.nil (Yag _) (Yao _) (Yao _) (Yao _) (by show -9223372036854775808≤k-a∧k-a≤9223372036854775807;omega) _ hst3 (by decide)
   have hst5:=(Zhf hst3 (opT 15 (k-a)) 0).1;rw[e5]at HD hst5;obtain⟨S5,hS5⟩: ∃ S5,S5={S4 with clock:=S4.clock+(k-a)}:=⟨_,rfl⟩
   rw[←hS5]at HD hst5;have f1:S5.run=S2.run:=by rw[hS5];exact f1'
   have f2:S5.dead=0:=by rw[hS5];exact f2'
   have f3:S5.clock=S.clock+k:=by rw[hS5];show S4.clock+(k-a)=_;omega
   have HDh:=Zhd HD;clear HD e5 hS5 f1' f2' f3' hCd hst3;go_upto_region 20 with fail
   refine wp_region_lit ?_;refine wpList_load_mid rfl 32 _ rfl w7.heap.size 0 (by rfl) C4.toList _ Bqd.range underlying32 rfl (by rw[Yav,hc4];exact Zai) ?_
   rw[show C4.toList.toArray=C4 from rfl];try simp only[Act.put,Yaa,Yab,Yac]
   go_wp2_with fail;go_at_call 11;refine HDh.out.mono ?_;rintro e we ⟨⟨ve,rfl,hv⟩,hbc⟩;obtain⟨C5,rfl,hC5⟩:=hv.cells;have hc5:=hC5.size;rename_i hKx;refine hKx _ _ ?_;clear hKx HDh;try simp only[Act.put,Yaa,Yab,Yac]
   refine Zcj (v:= .tuple #[.agg C5, .agg #[.int .i64 0, .int .i64 0]]) rfl (by rfl) ?_
   try simp only[Act.put,Yaa,Yab,Yac]
   refine Zvf (C:=C5) (R:= #[.int .i64 0, .int .i64 0]) hc5 hC5.one (Bqd.below hbc) hc4 (Bsd.below hbc) rfl rfl rfl (by omega) hns4 rfl (by rfl) (by rfl) (by rfl) (by rfl) (by rfl) (by rfl) ?_
   intro wf hlr hpl hoff hbel Bqf Bsf;have Bpf:Bl wf w5.heap.size C 32:=(hoff _ (by omega) (by omega) (Bpd.below hbc).lt).trans (Bpd.below hbc)
   have Brf:Bl wf (w7.heap.size+1) #[.int .i64 0, .int .i64 (Zav S2)] 39:=(hoff _ (by omega) (by omega) (Brd.below hbc).lt).trans (Brd.below hbc)
   have hPf:=hpl _ _ (hPd.out.below hbc);have hCf:=hpl _ _ hC5;have HBf:=Zhd (hbel _ (by omega) (by omega) (Zaa HBd.out hbc))
   have HLf:=Zhd (hlr _ _ (HLd.out.below hbc));clear hlr hpl hoff hbel hbc hC5 hPd HBd HLd Bpd Bqd Brd Bsd r1 s0 s1 g3;try simp only[Act.put,Yaa,Yab,Yac]
   have e6:doS S5 (opT 15 3000) 0=({S5 with clock:=S5.clock+3000},0,0):=(Zly rfl).trans (Zsb f2 (by decide) (by show S5.clock+3000≤_;omega))
   have HD:=Zgu C5 S5 (opT 15 3000) 0 none 0 wf hCf (HEo.out _ HBf.out) Rd.nil (Yag _) (Yao _) (Yao _) (Yao _) (by show -9223372036854775808≤(3000:Int)∧(3000:Int)≤9223372036854775807;omega) _ hst5 (by decide)
   rw[e6]at HD;have HDh:=Zhd HD;clear HD e6 hst5;go_upto_region 21 with fail
   refine wp_region_lit ?_;refine wpList_load_mid rfl 32 _ rfl w7.heap.size 0 (by rfl) C5.toList _ Bqf.range underlying32 rfl (by rw[Yav,hc5];exact Zai) ?_
   rw[show C5.toList.toArray=C5 from rfl];try simp only[Act.put,Yaa,Yab,Yac]
   go_wp2_with fail;go_at_call 11;refine HDh.out.mono ?_;rintro e wg ⟨⟨vg,rfl,hv⟩,hbc⟩;obtain⟨C6,rfl,hC6⟩:=hv.cells;have hc6:=hC6.size;rename_i hKx;refine hKx _ _ ?_;clear hKx HDh;try simp only[Act.put,Yaa,Yab,Yac]
   refine Zcj (v:= .tuple #[.agg C6, .agg #[.int .i64 0, .int .i64 0]]) rfl (by rfl) ?_
   try simp only[Act.put,Yaa,Yab,Yac]
   refine Zgv (C:=C6) (R:= #[.int .i64 0, .int .i64 0]) hc6 hC6.one rfl rfl (by rfl) (by rfl) (by rfl) (by rfl) (by rfl) (by rfl) ?_
   intro wh hbh Be Bt;have hb:=Zaa hbc hbh;have Bqh:=Bqf.below hb;have Bsh:=Bsf.below hb;have Brh:=Brf.below hb;have hCh:=hCf.below hb;have hPh:=hPf.below hb;have HLh:=HLf.out.below hb;have hCe:=hC6.below hbh;have HBh:=Zhd (Zaa HBf.out hb);clear hbc hbh hb Bpf Bqf Bsf Brf hCf hPf HLf hC6 HBf;try simp only[Act.put,Yaa,Yab,Yac]
   obtain⟨v5,e5,l5⟩:=hCh.run;obtain⟨A5,n5,c5,rfl⟩:=l5.slice;obtain⟨v6,e6,l6⟩:=hCe.run;obtain⟨A6,n6,c6,rfl⟩:=l6.slice;have l6':Lr wh (.slice A6 n6 c6) S5.run:=l6;have HS1:=Zhd (Zih (.slice A6 n6 c6) (.slice A5 n5 c5) S5.run wh l6' l5);have HK:Hid (∀ W,Below wh.heap.size wh W→W.cell? ⟨w9.heap.size,1,none⟩=some (.int .i64 0)∧W.cell? ⟨w7.heap.size+1,1,none⟩=some (.int .i64 (Zav S2))∧W.cell? ⟨w7.heap.size,0,none⟩=some (.slice A5 n5 c5)∧W.cell? ⟨w7.heap.size,13,none⟩=some (.int .i64 0)):=fun W hb=>⟨((Bsh.below hb).cell _).trans rfl,((Brh.below hb).cell _).trans rfl,((Bqh.below hb).cell _).trans e5,((Bqh.below hb).cell _).trans (hCh.dead.trans (by rw[f2]))⟩
   have t1:wh.cell? ⟨wg.heap.size+1,1,none⟩=some (.int .i64 0):=(Bt.cell _).trans rfl;have t0:wh.cell? ⟨wg.heap.size,0,none⟩=some (.slice A6 n6 c6):=(Be.cell _).trans e6;obtain⟨s1,r1,q0,q13⟩:=HK.out wh (Yae _ _);have HS2:=Zhd (fun(W:World) (hb:Below wh.heap.size wh W)=>Zih (.slice A5 n5 c5) (.slice A3 n3 c3) S2.run W ((f1▸l5).below hb) (HLh.below hb))
   clear l5 l6 l6' e5 e6 hCh hPh hCe HLh Bqh Bsh Brh Be Bt f1 f2 f3;go_wp2_with fail;refine HS1.out.mono ?_;rintro e wi ⟨rfl,hbi⟩;clear t1 t0 s1 r1 q0 q13;obtain⟨s1,r1,q0,q13⟩:=HK.out wi hbi;have HBi:=Zhd (Zaa HBh.out hbi);have HS3:=Zhd (HS2.out wi hbi);have HKi:=Zhd (fun(W:World) (hb:Below wi.heap.size wi W)=>HK.out W (Zaa hbi hb))
   clear hbi HS1 HS2 HBh HK;go_wp2_with fail;refine HS3.out.mono ?_;rintro e wj ⟨rfl,hbj⟩;clear s1 r1 q0 q13;obtain⟨s1,r1,q0,q13⟩:=HKi.out wj hbj;have HBj:=Zhd (Zaa HBi.out hbj);clear hbj HS3 HBi HKi;go_wp2_with fail;refine(HAW.out _ HBj.out).mono ?_;rintro e wz ⟨rfl,hbz⟩;have HB:=Zhd (Zaa HBj.out hbz);clear hbz;go_wp2_with fail;go_ret;exact⟨rfl,HB.out⟩
 | false=>
   have HD:=Zgu C3 {S2 with clock:=S2.clock+a} (opT 15 (k-a)) 0 none 0 wa hCa (HEo.out _ HBa.out) Rd.nil (Yag _) (Yao _) (Yao _) (Yao _) (by show -9223372036854775808≤k-a∧k-a≤9223372036854775807;omega) _ hst2 (by decide)
   obtain⟨f1,f2,f3,f4⟩:=Zaou HW.out ⟨ha0,ha1⟩ hk1 ⟨hclk.1,by omega⟩
   have hst5:=(Zhf hst2 (opT 15 (k-a)) 0).1;rw[show doS {S2 with clock:=S2.clock+a} (opT 15 (k-a)) 0=Zey {S2 with clock:=S2.clock+a} (k-a)from Zly rfl]at HD hst5
   generalize Zey {S2 with clock:=S2.clock+a} (k-a)=z at *
   obtain⟨S5,e5,n5⟩:=z;obtain⟨rfl,rfl⟩:e5=0∧n5=Zav S2+1:=by injection f4 with g1 g2;exact⟨g1,g2⟩
   have f1':S5.run=S.run:=f1;have f2':S5.dead=0:=f2;have f3':S5.clock=S.clock+k:=f3;have HDh:=Zhd HD;clear HD f1 f2 f3 f4 hCa hst2;have f1:=f1';have f2:=f2';have f3:=f3';clear f1' f2' f3';go_upto_region 20 with fail
   refine wp_region_lit ?_;refine wpList_load_mid rfl 32 _ rfl w7.heap.size 0 (by rfl) C3.toList _ Bqa.range underlying32 rfl (by rw[Yav,hc3];exact Zai) ?_
   rw[show C3.toList.toArray=C3 from rfl];try simp only[Act.put,Yaa,Yab,Yac]
   go_wp2_with fail;go_at_call 11;refine HDh.out.mono ?_;rintro e we ⟨⟨ve,rfl,hv⟩,hbc⟩;obtain⟨C5,rfl,hC5⟩:=hv.cells;have hc5:=hC5.size;rename_i hKx;refine hKx _ _ ?_;clear hKx HDh;try simp only[Act.put,Yaa,Yab,Yac]
   refine Zcj (v:= .tuple #[.agg C5, .agg #[.int .i64 0, .int .i64 (Zav S2+1)]]) rfl (by rfl) ?_
   try simp only[Act.put,Yaa,Yab,Yac]
   refine Zvf (C:=C5) (R:= #[.int .i64 0, .int .i64 (Zav S2+1)]) hc5 hC5.one (Bqa.below hbc) hc3 (Bsa.below hbc) rfl rfl rfl (by omega) hns3 rfl (by rfl) (by rfl) (by rfl) (by rfl) (by rfl) (by rfl) ?_
   intro wf hlr hpl hoff hbel Bqf Bsf;have Bpf:Bl wf w5.heap.size C 32:=(hoff _ (by omega) (by omega) (Bpa.below hbc).lt).trans (Bpa.below hbc)
   have Brf:Bl wf (w7.heap.size+1) #[.int .i64 0, .int .i64 (Zav S2)] 39:=(hoff _ (by omega) (by omega) (Bra.below hbc).lt).trans (Bra.below hbc)
   have hPf:=hpl _ _ (HPa.out.below hbc);have hCf:=hpl _ _ hC5;have HBf:=Zhd (hbel _ (by omega) (by omega) (Zaa HBa.out hbc))
   have HLf:=Zhd (hlr _ _ (HL3.out.below hbc));clear hlr hpl hoff hbel hbc hC5 HPa HBa HL3 Bpa Bqa Bra Bsa p12 q13 s1 q0;try simp only[Act.put,Yaa,Yab,Yac]
   have e6:doS S5 (opT 15 3000) 0=({S5 with clock:=S5.clock+3000},0,0):=(Zly rfl).trans (Zsb f2 (by decide) (by show S5.clock+3000≤_;omega))
   have HD:=Zgu C5 S5 (opT 15 3000) 0 none 0 wf hCf (HEo.out _ HBf.out) Rd.nil (Yag _) (Yao _) (Yao _) (Yao _) (by show -9223372036854775808≤(3000:Int)∧(3000:Int)≤9223372036854775807;omega) _ hst5 (by decide)
   rw[e6]at HD;have HDh:=Zhd HD;clear HD e6 hst5;go_upto_region 21 with fail
   refine wp_region_lit ?_;refine wpList_load_mid rfl 32 _ rfl w7.heap.size 0 (by rfl) C5.toList _ Bqf.range underlying32 rfl (by rw[Yav,hc5];exact Zai) ?_
   rw[show C5.toList.toArray=C5 from rfl];try simp only[Act.put,Yaa,Yab,Yac]
   go_wp2_with fail;go_at_call 11;refine HDh.out.mono ?_;rintro e wg ⟨⟨vg,rfl,hv⟩,hbc⟩;obtain⟨C6,rfl,hC6⟩:=hv.cells;have hc6:=hC6.size;rename_i hKx;refine hKx _ _ ?_;clear hKx HDh;try simp only[Act.put,Yaa,Yab,Yac]
   refine Zcj (v:= .tuple #[.agg C6, .agg #[.int .i64 0, .int .i64 0]]) rfl (by rfl) ?_
   try simp only[Act.put,Yaa,Yab,Yac]
   refine Zgv (C:=C6) (R:= #[.int .i64 0, .int .i64 0]) hc6 hC6.one rfl rfl (by rfl) (by rfl) (by rfl) (by rfl) (by rfl) (by rfl) ?_
   intro wh hbh Be Bt;have hb:=Zaa hbc hbh;have Bqh:=Bqf.below hb;have Bsh:=Bsf.below hb;have Brh:=Brf.below hb;have hCh:=hCf.below hb;have hPh:=hPf.below hb;have HLh:=HLf.out.below hb;have hCe:=hC6.below hbh;have HBh:=Zhd (Zaa HBf.out hb);clear hbc hbh hb Bpf Bqf Bsf Brf hCf hPf HLf hC6 HBf;try simp only[Act.put,Yaa,Yab,Yac]
   obtain⟨v5,e5,l5⟩:=hCh.run;obtain⟨A5,n5,c5,rfl⟩:=l5.slice;obtain⟨v6,e6,l6⟩:=hCe.run;obtain⟨A6,n6,c6,rfl⟩:=l6.slice;have l6':Lr wh (.slice A6 n6 c6) S5.run:=l6;have HS1:=Zhd (Zih (.slice A6 n6 c6) (.slice A5 n5 c5) S5.run wh l6' l5);have HK:Hid (∀ W,Below wh.heap.size wh W→W.cell? ⟨w9.heap.size,1,none⟩=some (.int .i64 (Zav S2+1))∧W.cell? ⟨w7.heap.size+1,1,none⟩=some (.int .i64 (Zav S2))∧W.cell? ⟨w7.heap.size,0,none⟩=some (.slice A5 n5 c5)∧W.cell? ⟨w7.heap.size,13,none⟩=some (.int .i64 0)):=fun W hb=>⟨((Bsh.below hb).cell _).trans rfl,((Brh.below hb).cell _).trans rfl,((Bqh.below hb).cell _).trans e5,((Bqh.below hb).cell _).trans (hCh.dead.trans (by rw[f2]))⟩
   have t1:wh.cell? ⟨wg.heap.size+1,1,none⟩=some (.int .i64 0):=(Bt.cell _).trans rfl;have t0:wh.cell? ⟨wg.heap.size,0,none⟩=some (.slice A6 n6 c6):=(Be.cell _).trans e6;obtain⟨s1,r1,q0,q13⟩:=HK.out wh (Yae _ _);obtain⟨v1,e1,l1⟩:=hPh.run;obtain rfl:v1= .slice A0 n0 c0:=by rw[e0]at e1;injection e1 with e1;exact e1.symm
   have HS2:=Zhd (fun(W:World) (hb:Below wh.heap.size wh W)=>Zih (.slice A5 n5 c5) (.slice A0 n0 c0) S.run W ((f1▸l5).below hb) (l1.below hb))
   clear l1 e1;clear l5 l6 l6' e5 e6 hCh hPh hCe HLh Bqh Bsh Brh Be Bt f1 f2 f3;go_wp2_with fail;refine HS1.out.mono ?_;rintro e wi ⟨rfl,hbi⟩;clear t1 t0 s1 r1 q0 q13;obtain⟨s1,r1,q0,q13⟩:=HK.out wi hbi;have HBi:=Zhd (Zaa HBh.out hbi);have HS3:=Zhd (HS2.out wi hbi);have HKi:=Zhd (fun(W:World) (hb:Below wi.heap.size wi W)=>HK.out W (Zaa hbi hb))
   clear hbi HS1 HS2 HBh HK;go_wp2_with fail;refine HS3.out.mono ?_;rintro e wj ⟨rfl,hbj⟩;clear s1 r1 q0 q13;obtain⟨s1,r1,q0,q13⟩:=HKi.out wj hbj;have HBj:=Zhd (Zaa HBi.out hbj);clear hbj HS3 HBi HKi;go_wp2_with fail;refine(HAW.out _ HBj.out).mono ?_;rintro e wz ⟨rfl,hbz⟩;have HB:=Zhd (Zaa HBj.out hbz);clear hbz;go_wp2_with fail;go_ret;exact⟨rfl,HB.out⟩
end Go.Proofs.Zq
