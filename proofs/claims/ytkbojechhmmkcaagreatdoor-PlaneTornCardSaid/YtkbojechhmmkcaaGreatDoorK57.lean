import Derived.Test.YtkbojechhmmkcaaGreatDoorK44
import Derived.Test.YtkbojechhmmkcaaGreatDoorK56
set_option linter.unusedVariables false
set_option linter.unusedSimpArgs false
set_option maxHeartbeats 16000000
set_option maxRecDepth 100000
namespace Go.Proofs.Zq
open Tryz
open Go Go.RowKit Go.Sort Tre Lx Prs Lns Edt Sch
attribute [local irreducible] doS
def opsT (a:ByteArray) (b1 b2 b3:Nat):List OpM:= [⟨opQ 1 [],0,none,0⟩,⟨opQ 5 [tPol,a,tAct,tPer],0,some ⟨b1,0,none⟩,4⟩,⟨opQ 14 [],0,none,0⟩,⟨opQ 1 [],1,none,0⟩,⟨opQ 6 [tPol,a],0,some ⟨b2,0,none⟩,2⟩,⟨opQ 5 [tPol,a,tFro,tNet],1,some ⟨b3,0,none⟩,4⟩,⟨opQ 14 [],0,none,0⟩]
theorem Zbdd {W:World} {a:ByteArray} {b1 b2 b3:Nat} (h1:Rd W 1 (some ⟨b1,0,none⟩) 4 (sv [tPol,a,tAct,tPer])) (h2:Rd W 1 (some ⟨b2,0,none⟩) 2 (sv [tPol,a])) (h3:Rd W 1 (some ⟨b3,0,none⟩) 4 (sv [tPol,a,tFro,tNet])): ∀ x∈opsT a b1 b2 b3,x.Ok W∧x.o.path.length≤1000000∧x.o.text.size≤1000000:=by
 intro x hx;simp only[opsT,Yav,Ybq,or_false]at hx;rcases hx with rfl|rfl|rfl|rfl|rfl|rfl|rfl
 · exact⟨okQ Rd.nil (Yaf _) (by decide),by decide,by decide⟩
 · exact⟨okQ h1 (Yaf _) (by decide),(show(4:Nat)≤1000000 by decide),(show(0:Nat)≤1000000 by decide)⟩
 · exact⟨okQ Rd.nil (Yaf _) (by decide),by decide,by decide⟩
 · exact⟨okQ Rd.nil (Yaf _) (by decide),by decide,by decide⟩
 · exact⟨okQ h2 (Yaf _) (by decide),(show(2:Nat)≤1000000 by decide),(show(0:Nat)≤1000000 by decide)⟩
 · exact⟨okQ h3 (Yaf _) (by decide),(show(4:Nat)≤1000000 by decide),(show(0:Nat)≤1000000 by decide)⟩
 · exact⟨okQ Rd.nil (Yaf _) (by decide),by decide,by decide⟩
def opsU:List OpM:= [⟨opQ 2 [],1,none,0⟩,⟨opQ 1 [],1,none,0⟩]
theorem Zaqk (W:World): ∀ x∈opsU,x.Ok W∧x.o.path.length≤1000000∧x.o.text.size≤1000000:=by
 intro x hx;simp only[opsU,Yav,Ybq,or_false]at hx;rcases hx with rfl|rfl<;>exact⟨okQ Rd.nil (Yaf _) (by decide),by decide,by decide⟩
theorem torn_any (x:Int) (w:World) (hE:Env w) (hx:0≤x∧x≤65535):
 Calls prog 6 #[.int .u16 x] w fun e w'=>e= .returned (.bool true)∧Below w.heap.size w w':=by
 have HEo:=Zhd (fun(W:World) (hb:Below w.heap.size w W)=>hE.below hb)
 have HAW:=Zhd (fun(W:World) (hb:Below w.heap.size w W)=>Zsk W (hE.below hb))
 obtain⟨k,hk⟩: ∃ k,1+x%1000=k:=⟨_,rfl⟩;have hk0:1≤k:=by omega
 have hk1:k≤1000:=by omega
 have hkw:IntKind.i64.wrap (1+x%1000)=k:=by rw[hk,IntKind.wrap_i64];omega
 have HDG:=Zhd (Zvv k w (by omega) (by omega) (by omega))
 obtain⟨i,hi⟩: ∃ i:Nat,k=((1+i:Nat):Int):=⟨(k-1).toNat,by omega⟩
 have hin:i<1000:=by omega
 have hdg:(⟨(Lib.decDigits k.toNat).toArray⟩:ByteArray)=tDig i:=by rw[hi,Ybr];rfl
 rw[hdg]at HDG;have ht:=Zazt i hin;unfold tOk at ht;generalize tDig i=a at *;clear hE hdg hi hin;go_enter func6,ntmps6;go_wp2_with fail;refine HDG.out.mono ?_;rintro e w1 ⟨rfl,hb1⟩;obtain⟨wb1,hw1⟩: ∃ x,w1.alloc (.cells #[.string ⟨#[112,111,108,105,99,121]⟩, .string a, .string ⟨#[97,99,116,105,111,110]⟩, .string ⟨#[112,101,114,109,105,116]⟩] 9)=x:=⟨_,rfl⟩;obtain⟨wb2,hw2⟩: ∃ x,wb1.alloc (.cells #[.string ⟨#[112,111,108,105,99,121]⟩, .string a] 9)=x:=⟨_,rfl⟩;obtain⟨wb3,hw3⟩: ∃ x,wb2.alloc (.cells #[.string ⟨#[112,111,108,105,99,121]⟩, .string a, .string ⟨#[102,114,111,109]⟩, .string ⟨#[49,48,46,48,46,48,46,48,47,56]⟩] 9)=x:=⟨_,rfl⟩;obtain⟨wb4,hw4⟩: ∃ x,wb3.alloc (.cells #[.int .i64 1, .int .i64 0, .slice none 0 0, .string ⟨#[]⟩, .int .i64 0, .int .i64 0, .string ⟨#[]⟩, .int .i64 5, .int .i64 0, .slice (some ⟨w1.heap.size,0,none⟩) 4 4, .string ⟨#[]⟩, .int .i64 0, .int .i64 0, .string ⟨#[]⟩, .int .i64 14, .int .i64 0, .slice none 0 0, .string ⟨#[]⟩, .int .i64 0, .int .i64 0, .string ⟨#[]⟩, .int .i64 1, .int .i64 1, .slice none 0 0, .string ⟨#[]⟩, .int .i64 0, .int .i64 0, .string ⟨#[]⟩, .int .i64 6, .int .i64 0, .slice (some ⟨wb1.heap.size,0,none⟩) 2 2, .string ⟨#[]⟩, .int .i64 0, .int .i64 0, .string ⟨#[]⟩, .int .i64 5, .int .i64 1, .slice (some ⟨wb2.heap.size,0,none⟩) 4 4, .string ⟨#[]⟩, .int .i64 0, .int .i64 0, .string ⟨#[]⟩, .int .i64 14, .int .i64 0, .slice none 0 0, .string ⟨#[]⟩, .int .i64 0, .int .i64 0, .string ⟨#[]⟩] 36)=x:=⟨_,rfl⟩;have B1:Bl wb1 w1.heap.size (sv [tPol,a,tAct,tPer]).toArray 9:=by rw[←hw1];exact Bl.new _ _ _
 have B2:Bl wb2 wb1.heap.size (sv [tPol,a]).toArray 9:=by rw[←hw2];exact Bl.new _ _ _
 have B3:Bl wb3 wb2.heap.size (sv [tPol,a,tFro,tNet]).toArray 9:=by rw[←hw3];exact Bl.new _ _ _
 have B4:Bl wb4 wb3.heap.size (opcs (opsT a w1.heap.size wb1.heap.size wb2.heap.size)).toArray 36:=by rw[←hw4];exact Bl.new _ _ _
 have c1:Below w1.heap.size w1 wb1:=by rw[←hw1];exact(Yag _ _).alloc (Yaf _) _
 have c2:Below wb1.heap.size wb1 wb2:=by rw[←hw2];exact(Yag _ _).alloc (Yaf _) _
 have c3:Below wb2.heap.size wb2 wb3:=by rw[←hw3];exact(Yag _ _).alloc (Yaf _) _
 have c4:Below wb3.heap.size wb3 wb4:=by rw[←hw4];exact(Yag _ _).alloc (Yaf _) _
 have c34:=Zaa c3 c4;have R1:=Zafb (B1.below (Zaa c2 c34));have R2:=Zafb (B2.below c34);have R3:=Zafb (B3.below c4);have hOk:=Zbdd R1 R2 R3;have hOps:=Zaql B4 (fun x hx=>(hOk x hx).1)
 have HB4:=Zhd (Zaa hb1 (Zaa c1 (Zaa c2 c34)));have HBH:=Zqd _ 7 (opsT a w1.heap.size wb1.heap.size wb2.heap.size) wb4 (HEo.out _ HB4.out) hOps (Yaf _) (by decide) (show(7:Nat)≤1000 by decide) (fun x hx=>(hOk x hx).2)
 have hok:=Zsl (opsT a w1.heap.size wb1.heap.size wb2.heap.size) Zom;rw[show behS Zeo (opsT a w1.heap.size wb1.heap.size wb2.heap.size)=tS a from rfl]at HBH hok;have hok7:PsOk 7 (tS a):=hok;clear hb1 B1 B2 B3 B4 c1 c2 c3 c4 c34 R1 R2 R3 hOk hOps hok HDG;go_upto_region 2 with fail
 refine wp_region_lit ?_;go_wp2_with fail;go_at_call 10;refine HBH.mono ?_;rintro e w5 ⟨⟨C,rfl,hC⟩,hb5⟩;have hcs:=hC.size;rename_i hKx;refine hKx _ _ ?_;clear hKx HBH hw1 hw2 hw3 hw4;try simp only[Act.put,Yaa,Yac,Yad]
 refine Zmp (C:=C) hcs hC.one (by rfl) (by rfl) ?_
 intro w6 hb6 Bp;have hC6:=hC.below hb6;have HB6:=Zhd (Zaa HB4.out (Zaa hb5 hb6));clear hb5 hb6 hC HB4;try simp only[Act.put,Yaa,Yac,Yad]
 generalize hSs:tS a=S at *
 obtain⟨S2,hz1,hz2⟩: ∃ S2,doS S (opQ 14 []) 1=(S2,8,1)∧(let y:=doS S2 (opQ 13 []) 1;decide (Zbl S=2)&&decide (S.run.length=1)&&decide ((8,1)=((8,1):Int×Int))&&decide (y.2=(8,1))&&decide (S2.run.length=1)&&decide ((doS (doS (doS y.1 (opQ 2 []) 1).1 (opQ 1 []) 1).1 (opQ 14 []) 1).2=(0,0)))=true:=by
  simp only[hSs,Yaq,Yao]at ht;generalize doS S (opQ 14 []) 1=z at *;obtain⟨S2,z2⟩:=z;simp only at ht⊢;obtain⟨⟨⟨⟨⟨h1,h2⟩,h3⟩,h4⟩,h5⟩,h6⟩:=ht;subst h3;exact⟨S2,rfl,by simp[h1,h2,h4,h5,h6]⟩
 simp only[Yaq,Yao]at hz2;obtain⟨⟨⟨⟨⟨g1,g2⟩,-⟩,g4⟩,g5⟩,g6⟩:=hz2
 obtain⟨S3,hy1,hy2⟩: ∃ S3,doS S2 (opQ 13 []) 1=(S3,8,1)∧(doS (doS (doS S3 (opQ 2 []) 1).1 (opQ 1 []) 1).1 (opQ 14 []) 1).2=(0,0):=by
  generalize doS S2 (opQ 13 []) 1=y at *;obtain⟨S3,y2⟩:=y;simp only at g4 g6⊢;subst g4;exact⟨S3,rfl,g6⟩
 clear ht hSs g4 g6;have ok2:=(Zlf hok7 (opQ 14 []) 1).1;have HD:=Zkn C S (opQ 14 []) 1 none 0 w6 hC6 (HEo.out _ HB6.out) Rd.nil (Yaf _) (Yas _) (Yas _) (Yas _) (by decide) 7 hok7 (by decide)
 rw[hz1]at HD ok2;have ok3:=(Zlf ok2 (opQ 13 []) 1).1;have HD2:=Zhd (fun(D:Array Value) (W:World) (hD:PlC W D S2) (hb:Below w.heap.size w W)=>Zkn D S2 (opQ 13 []) 1 none 0 W hD (HEo.out _ hb) Rd.nil (Yaf _) (Yas _) (Yas _) (Yas _) (by decide) (7+1) ok2 (by decide))
 rw[hy1]at HD2 ok3;have HD3:=Zhd (fun(D:Array Value) (W:World) (A:Option Addr) (hD:PlC W D S3) (hO:Ops W A opsU) (hb:Below w.heap.size w W)=>Zaah D S3 (7+1+1) A 2 opsU W hD ok3 (by decide) (HEo.out _ hb) hO (Yaf _) (by decide) (by decide) (fun x hx=>(Zaqk W x hx).2))
 have ok4:=Zsl opsU ok3;obtain⟨S4,hS4⟩: ∃ S4,behS S3 opsU=S4:=⟨_,rfl⟩;rw[show(doS (doS S3 (opQ 2 []) 1).1 (opQ 1 []) 1).1=S4 from hS4]at hy2;rw[hS4]at HD3 ok4
 obtain⟨S5,hu⟩: ∃ S5,doS S4 (opQ 14 []) 1=(S5,0,0):=by
  generalize doS S4 (opQ 14 []) 1=u at *;obtain⟨S5,u2⟩:=u;simp only at hy2;subst hy2;exact⟨S5,rfl⟩
 have HD4:=Zhd (fun(D:Array Value) (W:World) (hD:PlC W D S4) (hb:Below w.heap.size w W)=>Zkn D S4 (opQ 14 []) 1 none 0 W hD (HEo.out _ hb) Rd.nil (Yaf _) (Yas _) (Yas _) (Yas _) (by decide) _ ok4 (by decide))
 rw[hu]at HD4;have HDh:=Zhd HD;clear HD hz1 hy1 hy2 hS4 hu ok2 ok3 ok4;go_upto_region 3 with fail
 refine wp_region_lit ?_;refine wpList_load_mid rfl 32 _ rfl w5.heap.size 0 (by rfl) C.toList _ Bp.range underlying32 rfl (by rw[Yau,hcs];exact Zam) ?_
 rw[show C.toList.toArray=C from rfl];try simp only[Act.put,Yaa,Yac,Yad]
 go_wp2_with fail;go_at_call 11;refine HDh.out.mono ?_;rintro e w7 ⟨⟨v7,rfl,hv⟩,hbc⟩;obtain⟨C2,rfl,hC2⟩:=hv.cells;have hc2:=hC2.size;rename_i hKx;refine hKx _ _ ?_;clear hKx HDh;try simp only[Act.put,Yaa,Yac,Yad]
 refine Zdh (v:= .tuple #[.agg C2, .agg #[.int .i64 8, .int .i64 1]]) rfl (by rfl) ?_
 try simp only[Act.put,Yaa,Yac,Yad]
 refine Zfl (C:=C2) (R:= #[.int .i64 8, .int .i64 1]) hc2 hC2.one rfl rfl (by rfl) (by rfl) (by rfl) (by rfl) (by rfl) (by rfl) ?_
 intro w8 hb8 Bq Br;have hb:=Zaa hbc hb8;have Bp8:=Bp.below hb;have hP8:=hC6.below hb;have hC8:=hC2.below hb8;have HB8:=Zhd (Zaa HB6.out hb);have HDy:=Zhd (HD2.out C2 w8 hC8 HB8.out);clear hbc hb8 hb Bp hC6 hC2 HB6 HD2;try simp only[Act.put,Yaa,Yac,Yad]
 go_upto_region 4 with fail
 refine wp_region_lit ?_;refine wpList_load_mid rfl 32 _ rfl w7.heap.size 0 (by rfl) C2.toList _ Bq.range underlying32 rfl (by rw[Yau,hc2];exact Zam) ?_
 rw[show C2.toList.toArray=C2 from rfl];try simp only[Act.put,Yaa,Yac,Yad]
 go_wp2_with fail;go_at_call 11;refine HDy.out.mono ?_;rintro e w9 ⟨⟨v9,rfl,hv⟩,hbc⟩;obtain⟨C3,rfl,hC3⟩:=hv.cells;have hc3:=hC3.size;rename_i hKx;refine hKx _ _ ?_;clear hKx HDy;try simp only[Act.put,Yaa,Yac,Yad]
 refine Zdh (v:= .tuple #[.agg C3, .agg #[.int .i64 8, .int .i64 1]]) rfl (by rfl) ?_
 try simp only[Act.put,Yaa,Yac,Yad]
 refine Zfl (C:=C3) (R:= #[.int .i64 8, .int .i64 1]) hc3 hC3.one rfl rfl (by rfl) (by rfl) (by rfl) (by rfl) (by rfl) (by rfl) ?_
 intro wa hba Bc Bs;have hb:=Zaa hbc hba;have Bpa:=Bp8.below hb;have Bqa:=Bq.below hb;have Bra:=Br.below hb;have hPa:=hP8.below hb;have hQa:=hC8.below hb;have hCa:=hC3.below hba;have HBa:=Zhd (Zaa HB8.out hb);clear hbc hba hb Bp8 Bq Br hP8 hC8 hC3 HB8;try simp only[Act.put,Yaa,Yac,Yad]
 obtain⟨wo,hwo⟩: ∃ x,wa.alloc (.cells #[.int .i64 2, .int .i64 1, .slice none 0 0, .string ⟨#[]⟩, .int .i64 0, .int .i64 0, .string ⟨#[]⟩, .int .i64 1, .int .i64 1, .slice none 0 0, .string ⟨#[]⟩, .int .i64 0, .int .i64 0, .string ⟨#[]⟩] 36)=x:=⟨_,rfl⟩;have Bo:Bl wo wa.heap.size (opcs opsU).toArray 36:=by rw[←hwo];exact Bl.new _ _ _
 have hbo:Below wa.heap.size wa wo:=by rw[←hwo];exact(Yag _ _).alloc (Yaf _) _
 have HBo:=Zhd (Zaa HBa.out hbo);have HDb:=Zhd (HD3.out C3 wo _ (hCa.below hbo) (Zaql Bo (fun x hx=>(Zaqk wo x hx).1)) HBo.out)
 have Bco:=Bc.below hbo;have Bpo:=Bpa.below hbo;have Bqo:=Bqa.below hbo;have Bro:=Bra.below hbo;have Bso:=Bs.below hbo;have hPo:=hPa.below hbo;have hQo:=hQa.below hbo;clear hbo Bo hCa Bpa Bqa Bra Bs hPa hQa HD3;go_upto_region 5 with fail
 refine wp_region_lit ?_;refine wpList_load_mid rfl 32 _ rfl w9.heap.size 0 (by rfl) C3.toList _ Bc.range underlying32 rfl (by rw[Yau,hc3];exact Zam) ?_
 rw[show C3.toList.toArray=C3 from rfl];try simp only[Act.put,Yaa,Yac,Yad]
 go_wp2_with fail;go_at_call 17;refine HDb.out.mono ?_;rintro e wb ⟨⟨C4,rfl,hC4⟩,hbb⟩;have hc4:=hC4.size;rename_i hKx;refine hKx _ _ ?_;clear hKx HDb hwo Bc HBa;try simp only[Act.put,Yaa,Yac,Yad]
 refine Zmp (C:=C4) hc4 hC4.one (by rfl) (by rfl) ?_
 intro wc hbc Bd;have hb:=Zaa hbb hbc;have Bpc:=Bpo.below hb;have Bqc:=Bqo.below hb;have Brc:=Bro.below hb;have Bsc:=Bso.below hb;have hPc:=hPo.below hb;have hQc:=hQo.below hb;have hCc:=hC4.below hbc;have HBc:=Zhd (Zaa HBo.out hb);have HDu:=Zhd (HD4.out C4 wc hCc HBc.out);clear hbb hbc hb HBo Bco Bpo Bqo Bro Bso hPo hQo hC4 HD4 hCc;try simp only[Act.put,Yaa,Yac,Yad]
 go_upto_region 6 with fail
 refine wp_region_lit ?_;refine wpList_load_mid rfl 32 _ rfl wb.heap.size 0 (by rfl) C4.toList _ Bd.range underlying32 rfl (by rw[Yau,hc4];exact Zam) ?_
 rw[show C4.toList.toArray=C4 from rfl];try simp only[Act.put,Yaa,Yac,Yad]
 go_wp2_with fail;go_at_call 11;refine HDu.out.mono ?_;rintro e wd ⟨⟨vd,rfl,hv⟩,hbc⟩;obtain⟨C5,rfl,hC5⟩:=hv.cells;have hc5:=hC5.size;rename_i hKx;refine hKx _ _ ?_;clear hKx HDu;try simp only[Act.put,Yaa,Yac,Yad]
 refine Zdh (v:= .tuple #[.agg C5, .agg #[.int .i64 0, .int .i64 0]]) rfl (by rfl) ?_
 try simp only[Act.put,Yaa,Yac,Yad]
 refine Zfl (C:=C5) (R:= #[.int .i64 0, .int .i64 0]) hc5 hC5.one rfl rfl (by rfl) (by rfl) (by rfl) (by rfl) (by rfl) (by rfl) ?_
 intro wz hbz _ Bt;have hb:=Zaa hbc hbz;have Bpz:=Bpc.below hb;have Bqz:=Bqc.below hb;have Brz:=Brc.below hb;have Bsz:=Bsc.below hb;have hPz:=hPc.below hb;have hQz:=hQc.below hb;have HBz:=Zhd (Zaa HBc.out hb);clear hbc hbz hb Bpc Bqc Brc Bsc hPc hQc HBc hC5 Bd;try simp only[Act.put,Yaa,Yac,Yad]
 have HLA:=Zhd (Zos C S wz hPz hok7.len5);rw[g1]at HLA;obtain⟨vp,ep,lp⟩:=hPz.run;obtain⟨Ap,cp,rfl,-⟩:=lp;rw[g2]at ep;obtain⟨vq,eq,lq⟩:=hQz.run;obtain⟨Aq,cq,rfl,-⟩:=lq;rw[g5]at eq;have HK:=Zhd (fun(W:World) (hb:Below wz.heap.size wz W)=>(⟨((Bpz.below hb).cell _).trans ep,((Bqz.below hb).cell _).trans eq,((Brz.below hb).cell _).trans rfl,((Brz.below hb).cell _).trans rfl,((Bsz.below hb).cell _).trans rfl,((Bsz.below hb).cell _).trans rfl,((Bt.below hb).cell _).trans rfl,((Bt.below hb).cell _).trans rfl⟩:W.cell? ⟨w5.heap.size,0,none⟩=some (.slice Ap 1 cp)∧W.cell? ⟨w7.heap.size,0,none⟩=some (.slice Aq 1 cq)∧W.cell? ⟨w7.heap.size+1,0,none⟩=some (.int .i64 8)∧W.cell? ⟨w7.heap.size+1,1,none⟩=some (.int .i64 1)∧W.cell? ⟨w9.heap.size+1,0,none⟩=some (.int .i64 8)∧W.cell? ⟨w9.heap.size+1,1,none⟩=some (.int .i64 1)∧W.cell? ⟨wd.heap.size+1,0,none⟩=some (.int .i64 0)∧W.cell? ⟨wd.heap.size+1,1,none⟩=some (.int .i64 0)))
 obtain⟨a0,a1,a2,a3,a4,a5,a6,a7,a8,a9,aa,ab,ac,ad,ae,rfl⟩:=Zbbj hcs;obtain rfl:a0= .slice Ap 1 cp:=by injection ep
 have p0:wz.cell? ⟨w5.heap.size,0,none⟩=some (.slice Ap 1 cp):=(Bpz.cell _).trans rfl;have p1:wz.cell? ⟨w5.heap.size,1,none⟩=some a1:=(Bpz.cell _).trans rfl;have p2:wz.cell? ⟨w5.heap.size,2,none⟩=some a2:=(Bpz.cell _).trans rfl;have p3:wz.cell? ⟨w5.heap.size,3,none⟩=some a3:=(Bpz.cell _).trans rfl;have p4:wz.cell? ⟨w5.heap.size,4,none⟩=some a4:=(Bpz.cell _).trans rfl;have p5:wz.cell? ⟨w5.heap.size,5,none⟩=some a5:=(Bpz.cell _).trans rfl;have p6:wz.cell? ⟨w5.heap.size,6,none⟩=some a6:=(Bpz.cell _).trans rfl;have p7:wz.cell? ⟨w5.heap.size,7,none⟩=some a7:=(Bpz.cell _).trans rfl;have p8:wz.cell? ⟨w5.heap.size,8,none⟩=some a8:=(Bpz.cell _).trans rfl;have p9:wz.cell? ⟨w5.heap.size,9,none⟩=some a9:=(Bpz.cell _).trans rfl;have pa:wz.cell? ⟨w5.heap.size,10,none⟩=some aa:=(Bpz.cell _).trans rfl;have pb:wz.cell? ⟨w5.heap.size,11,none⟩=some ab:=(Bpz.cell _).trans rfl;have pc:wz.cell? ⟨w5.heap.size,12,none⟩=some ac:=(Bpz.cell _).trans rfl;have pd:wz.cell? ⟨w5.heap.size,13,none⟩=some ad:=(Bpz.cell _).trans rfl;have pe:wz.cell? ⟨w5.heap.size,14,none⟩=some ae:=(Bpz.cell _).trans rfl;clear Bpz Bqz Brz Bsz Bt hPz hQz ep eq;go_wp2_with fail;refine HLA.out.mono ?_;rintro e wy ⟨rfl,hby⟩;clear p0 p1 p2 p3 p4 p5 p6 p7 p8 p9 pa pb pc pd pe;obtain⟨u0,u1,u2,u3,u4,u5,u6,u7⟩:=HK.out wy hby;have HBy:=Zhd (Zaa HBz.out hby);clear HK HLA hby HBz;go_wp2_with fail;refine(HAW.out _ HBy.out).mono ?_;rintro e wx ⟨rfl,hbx⟩;have HB:=Zhd (Zaa HBy.out hbx);clear hbx;go_wp2_with fail;go_ret;exact⟨rfl,HB.out⟩
end Go.Proofs.Zq
