import Derived.Test.YtkbojechhmmkcaaGreatDoorK44
import Derived.Test.YtkbojechhmmkcaaGreatDoorK43
set_option linter.unusedVariables false
set_option linter.unusedSimpArgs false
set_option maxHeartbeats 16000000
set_option maxRecDepth 100000
namespace Go.Proofs.Zq
open Tryz
open Go Go.RowKit Go.Sort Tre Lx Prs Lns Edt Sch
attribute [local irreducible] doS
def opsP (a b:ByteArray) (b1 b2:Nat):List OpM:= [⟨opQ 1 [],0,none,0⟩,⟨opQ 1 [],1,none,0⟩,⟨opQ 5 (Zhv a),0,some ⟨b1,0,none⟩,4⟩,⟨opQ 5 (Zen b),1,some ⟨b2,0,none⟩,4⟩]
theorem Zbdc {W:World} {a b:ByteArray} {b1 b2:Nat} (h1:Rd W 1 (some ⟨b1,0,none⟩) 4 (sv (Zhv a))) (h2:Rd W 1 (some ⟨b2,0,none⟩) 4 (sv (Zen b))): ∀ x∈opsP a b b1 b2,x.Ok W∧x.o.path.length≤1000000∧x.o.text.size≤1000000:=by
 intro x hx;simp only[opsP,Yav,Ybq,or_false]at hx;rcases hx with rfl|rfl|rfl|rfl
 · exact⟨okQ Rd.nil (Yaf _) (by decide),by decide,by decide⟩
 · exact⟨okQ Rd.nil (Yaf _) (by decide),by decide,by decide⟩
 · exact⟨okQ h1 (Yaf _) (by decide),(show(4:Nat)≤1000000 by decide),(show(0:Nat)≤1000000 by decide)⟩
 · exact⟨okQ h2 (Yaf _) (by decide),(show(4:Nat)≤1000000 by decide),(show(0:Nat)≤1000000 by decide)⟩
theorem Zanx (x:Int) (hx:0≤x∧x≤65535): ∃ i:Nat,i<1000∧IntKind.i64.wrap (1+x%1000)=1+x%1000∧ ∀ w,Calls prog 15 #[.int .i64 (1+x%1000)] w fun e w'=>e= .returned (.string (tDig i))∧Below w.heap.size w w':=by
 obtain⟨k,hk⟩: ∃ k,1+x%1000=k:=⟨_,rfl⟩;have hk0:1≤k:=by omega
 have hk1:k≤1000:=by omega
 refine⟨(k-1).toNat,by omega,by rw[hk,IntKind.wrap_i64];omega,fun w=> ?_⟩
 rw[hk];have h:=Zvv k w (by omega) (by omega) (by omega)
 have hdg:(⟨(Lib.decDigits k.toNat).toArray⟩:ByteArray)=tDig (k-1).toNat:=by
  unfold tDig;rw[show 1+(k-1).toNat=k.toNat by omega]
 rwa [hdg]at h
theorem apart_any (x y:Int) (w:World) (hE:Env w) (hx:0≤x∧x≤65535) (hy:0≤y∧y≤65535):
 Calls prog 5 #[.int .u16 x, .int .u16 y] w fun e w'=>e= .returned (.bool true)∧Below w.heap.size w w':=by
 have HEo:=Zhd (fun(W:World) (hb:Below w.heap.size w W)=>hE.below hb)
 have HAW:=Zhd (fun(W:World) (hb:Below w.heap.size w W)=>Zsk W (hE.below hb))
 obtain⟨i,hin,hwi,HDG1⟩:=Zanx x hx;obtain⟨j,hjn,hwj,HDG2⟩:=Zanx y hy;have HDA:=Zhd HDG1;have HDB:=Zhd HDG2;obtain⟨S,T,hS,hT,hU⟩:=Zbfw (Zaae i hin) (Zaae j hjn);generalize tDig i=a at *;generalize tDig j=b at *;clear hE hin hjn HDG1 HDG2
 obtain⟨U,ze,zn,hz,hfin⟩: ∃ U ze zn,doS T (opQ 14 []) 1=(U,ze,zn)∧((a=b∧ze=7∧zn=1∧0≤Zcj U.run (Zhv a)∧Zcj U.run (Zen b)= -1)∨(a≠b∧ze=0∧zn=2∧U.run.length=7∧0≤Zcj U.run (Zhv a)∧0≤Zcj U.run (Zen b))):=by
  rcases hU with⟨h1,h2,h3,h4⟩|⟨h1,U,h2,-,h4,h5,h6⟩
  · exact⟨_,_,_,h2, .inl ⟨h1,rfl,rfl,h3,h4⟩⟩
  · exact⟨_,_,_,h2, .inr ⟨h1,rfl,rfl,h4,h5,h6⟩⟩
 clear hU;obtain⟨kx,hkx⟩: ∃ k,1+x%1000=k:=⟨_,rfl⟩;obtain⟨ky,hky⟩: ∃ k,1+y%1000=k:=⟨_,rfl⟩;have hx1:1≤kx∧kx≤1000:=by omega
 have hy1:1≤ky∧ky≤1000:=by omega
 rw[hkx]at HDA hwi;rw[hky]at HDB hwj;go_enter func5,ntmps5;go_upto_region 2 with(first|(go_at_call_of 15 (Value.int .i64 kx);refine(HDA.out _).mono ?_;rintro e w1 ⟨rfl,hb1⟩)|(go_at_call_of 15 (Value.int .i64 ky);refine(HDB.out _).mono ?_;rintro e w2 ⟨rfl,hb2⟩))
 have HB2:=Zhd (Zaa hb1 hb2);clear hb1 hb2 HDA HDB hwi hwj hkx hky hx1 hy1 hx hy;obtain⟨wb1,hw1⟩: ∃ x,w2.alloc (.cells #[.string ⟨#[112,111,108,105,99,121]⟩, .string a, .string ⟨#[97,99,116,105,111,110]⟩, .string ⟨#[112,101,114,109,105,116]⟩] 9)=x:=⟨_,rfl⟩;obtain⟨wb2,hw2⟩: ∃ x,wb1.alloc (.cells #[.string ⟨#[112,111,108,105,99,121]⟩, .string b, .string ⟨#[97,99,116,105,111,110]⟩, .string ⟨#[100,101,110,121]⟩] 9)=x:=⟨_,rfl⟩;obtain⟨wb4,hw4⟩: ∃ x,wb2.alloc (.cells #[.int .i64 1, .int .i64 0, .slice none 0 0, .string ⟨#[]⟩, .int .i64 0, .int .i64 0, .string ⟨#[]⟩, .int .i64 1, .int .i64 1, .slice none 0 0, .string ⟨#[]⟩, .int .i64 0, .int .i64 0, .string ⟨#[]⟩, .int .i64 5, .int .i64 0, .slice (some ⟨w2.heap.size,0,none⟩) 4 4, .string ⟨#[]⟩, .int .i64 0, .int .i64 0, .string ⟨#[]⟩, .int .i64 5, .int .i64 1, .slice (some ⟨wb1.heap.size,0,none⟩) 4 4, .string ⟨#[]⟩, .int .i64 0, .int .i64 0, .string ⟨#[]⟩] 36)=x:=⟨_,rfl⟩;have B1:Bl wb1 w2.heap.size (sv (Zhv a)).toArray 9:=by rw[←hw1];exact Bl.new _ _ _
 have B2:Bl wb2 wb1.heap.size (sv (Zen b)).toArray 9:=by rw[←hw2];exact Bl.new _ _ _
 have B4:Bl wb4 wb2.heap.size (opcs (opsP a b w2.heap.size wb1.heap.size)).toArray 36:=by rw[←hw4];exact Bl.new _ _ _
 have c1:Below w2.heap.size w2 wb1:=by rw[←hw1];exact(Yag _ _).alloc (Yaf _) _
 have c2:Below wb1.heap.size wb1 wb2:=by rw[←hw2];exact(Yag _ _).alloc (Yaf _) _
 have c4:Below wb2.heap.size wb2 wb4:=by rw[←hw4];exact(Yag _ _).alloc (Yaf _) _
 have R1:=Zafb (B1.below (Zaa c2 c4));have R2:=Zafb (B2.below c4);have hOk:=Zbdc R1 R2;have hOps:=Zaql B4 (fun x hx=>(hOk x hx).1)
 have HB4:=Zhd (Zaa HB2.out (Zaa c1 (Zaa c2 c4)));have HBH:=Zqd _ 4 (opsP a b w2.heap.size wb1.heap.size) wb4 (HEo.out _ HB4.out) hOps (Yaf _) (by decide) (show(4:Nat)≤1000 by decide) (fun x hx=>(hOk x hx).2)
 have hok:=Zsl (opsP a b w2.heap.size wb1.heap.size) Zom;rw[show behS Zeo (opsP a b w2.heap.size wb1.heap.size)=S from hS]at HBH hok;have hok4:PsOk 4 S:=hok;clear B1 B2 B4 c1 c2 c4 R1 R2 hOk hOps hok HB2 hS;refine wp_region_lit ?_;go_wp2_with fail;go_at_call 10;refine HBH.mono ?_;rintro e w5 ⟨⟨C,rfl,hC⟩,hb5⟩;have hcs:=hC.size;have hns:=hC.nostr;rename_i hKx;refine hKx _ _ ?_;clear hKx HBH hw1 hw2 hw4;try simp only[Act.put,Yaa,Yac,Yad]
 refine Zmp (C:=C) hcs hC.one (by rfl) (by rfl) ?_
 intro w6 hb6 Bp;have hC6:=hC.below hb6;have HB6:=Zhd (Zaa HB4.out (Zaa hb5 hb6));have hgw:w.heap.size≤w5.heap.size:=Yat HB4.out.size hb5.size;clear hb5 hb6 hC HB4;try simp only[Act.put,Yaa,Yac,Yad]
 have okT:=(Zlf hok4 (opQ 14 []) 0).1;have HD:=Zkn C S (opQ 14 []) 0 none 0 w6 hC6 (HEo.out _ HB6.out) Rd.nil (Yaf _) (Yas _) (Yas _) (Yas _) (by decide) 4 hok4 (by decide)
 rw[hT]at HD okT;have HDh:=Zhd HD;have okU:=(Zlf okT (opQ 14 []) 1).1;have HD2:=Zhd (fun(D:Array Value) (W:World) (hD:PlC W D T) (hb:Below w.heap.size w W)=>Zkn D T (opQ 14 []) 1 none 0 W hD (HEo.out _ hb) Rd.nil (Yaf _) (Yas _) (Yas _) (Yas _) (by decide) (4+1) okT (by decide))
 rw[hz]at HD2 okU;clear HD hT hz okT hok4;go_upto_region 3 with fail
 refine wp_region_lit ?_;refine wpList_load_mid rfl 32 _ rfl w5.heap.size 0 (by rfl) C.toList _ Bp.range underlying32 rfl (by rw[Yau,hcs];exact Zam) ?_
 rw[show C.toList.toArray=C from rfl];try simp only[Act.put,Yaa,Yac,Yad]
 go_wp2_with fail;go_at_call 11;refine HDh.out.mono ?_;rintro e w7 ⟨⟨v7,rfl,hv⟩,hbc⟩;obtain⟨C2,rfl,hC2⟩:=hv.cells;have hc2:=hC2.size;rename_i hKx;refine hKx _ _ ?_;clear hKx HDh;try simp only[Act.put,Yaa,Yac,Yad]
 refine Zdh (v:= .tuple #[.agg C2, .agg #[.int .i64 0, .int .i64 1]]) rfl (by rfl) ?_
 try simp only[Act.put,Yaa,Yac,Yad]
 refine Zagm (C:=C2) (R:= #[.int .i64 0, .int .i64 1]) (Z:=C) (q:=w5.heap.size) hc2 hC2.one rfl rfl (Bp.below hbc) hcs (by rfl) (by rfl) (by rfl) (by rfl) (by rfl) (by rfl) ?_
 intro w8 hoff hbel Bp8 Br8;have HB8:=Zhd (hbel _ hgw (Yat hgw (by have:=Bp.lt;have:=hbc.size;omega)) (Zaa HB6.out hbc))
 have hC8:=hC2.off (Bp.below hbc) (by decide) hns hoff
 have HDy:=Zhd (HD2.out C2 w8 hC8 HB8.out);clear hbc hoff hbel hC2 Bp HB6 hns hC6 HD2 hcs;try simp only[Act.put,Yaa,Yac,Yad]
 go_upto_region 4 with fail
 refine wp_region_lit ?_;refine wpList_load_mid rfl 32 _ rfl w5.heap.size 0 (by rfl) C2.toList _ Bp8.range underlying32 rfl (by rw[Yau,hc2];exact Zam) ?_
 rw[show C2.toList.toArray=C2 from rfl];try simp only[Act.put,Yaa,Yac,Yad]
 go_wp2_with fail;go_at_call 11;refine HDy.out.mono ?_;rintro e w9 ⟨⟨v9,rfl,hv⟩,hbc⟩;obtain⟨C3,rfl,hC3⟩:=hv.cells;have hc3:=hC3.size;rename_i hKx;refine hKx _ _ ?_;clear hKx HDy;try simp only[Act.put,Yaa,Yac,Yad]
 refine Zdh (v:= .tuple #[.agg C3, .agg #[.int .i64 ze, .int .i64 zn]]) rfl (by rfl) ?_
 try simp only[Act.put,Yaa,Yac,Yad]
 refine Zfl (C:=C3) (R:= #[.int .i64 ze, .int .i64 zn]) hc3 hC3.one rfl rfl (by rfl) (by rfl) (by rfl) (by rfl) (by rfl) (by rfl) ?_
 intro wa hba Bq Bs;have hb:=Zaa hbc hba;have Bra:=Br8.below hb;have hQa:=hC3.below hba;have HBa:=Zhd (Zaa HB8.out hb);clear hbc hba hb Bp8 Br8 hC8 hC3 HB8;try simp only[Act.put,Yaa,Yac,Yad]
 obtain⟨v0,e0,l0⟩:=hQa.run;obtain⟨A0,c0,rfl,hl1,hl2,hl3,-⟩:=l0;have h200:=(Zac okU.run).1;have HFa:=Zhd (fun(W:World) (hb:Below wa.heap.size wa W) (Ap:Option Addr) (P:List ByteArray) (hP:Rd W 1 Ap P.length (sv P)) (hp:P.length≤10)=>Zzd A0 c0 U.run Ap 4 P W (hl3.below hb) hl1 hl2 (by omega) hP (Yat hp (by decide)))
 have HK:=Zhd (fun(W:World) (hb:Below wa.heap.size wa W)=>(⟨((Bq.below hb).cell _).trans e0,((Bra.below hb).cell _).trans rfl,((Bs.below hb).cell _).trans rfl,((Bs.below hb).cell _).trans rfl⟩:W.cell? ⟨w9.heap.size,0,none⟩=some (.slice A0 U.run.length c0)∧W.cell? ⟨w7.heap.size,1,none⟩=some (.int .i64 1)∧W.cell? ⟨w9.heap.size+1,0,none⟩=some (.int .i64 ze)∧W.cell? ⟨w9.heap.size+1,1,none⟩=some (.int .i64 zn)))
 obtain⟨q0,-,-,-⟩:=HK.out wa (Yag _ _);clear Bq Bra Bs hQa hl1 hl2 hl3 e0 h200 okU;obtain⟨wc,hwc⟩: ∃ x,wa.alloc (.cells #[.string ⟨#[112,111,108,105,99,121]⟩, .string a, .string ⟨#[97,99,116,105,111,110]⟩, .string ⟨#[112,101,114,109,105,116]⟩] 9)=x:=⟨_,rfl⟩;have Bc:Bl wc wa.heap.size (sv (Zhv a)).toArray 9:=by rw[←hwc];exact Bl.new _ _ _
 have hbc:Below wa.heap.size wa wc:=by rw[←hwc];exact(Yag _ _).alloc (Yaf _) _
 have HF1:=Zhd (HFa.out wc hbc _ (Zhv a) (Zafb Bc) (show(4:Nat)≤10 by decide))
 obtain⟨fx,hfx⟩: ∃ f,Zcj U.run (Zhv a)=f:=⟨_,rfl⟩;obtain⟨fy,hfy⟩: ∃ f,Zcj U.run (Zen b)=f:=⟨_,rfl⟩;rw[hfx,hfy]at hfin;rw[hfx]at HF1;go_upto_region 6 with(go_at_call 16;refine HF1.out.mono ?_;rintro e wd ⟨rfl,hbd⟩)
 have hbd2:=Zaa hbc hbd;obtain⟨q0',-,-,-⟩:=HK.out wd hbd2;have HBd:=Zhd (Zaa HBa.out hbd2);clear q0 Bc HF1 hwc;obtain⟨wf,hwf⟩: ∃ x,wd.alloc (.cells #[.string ⟨#[112,111,108,105,99,121]⟩, .string b, .string ⟨#[97,99,116,105,111,110]⟩, .string ⟨#[100,101,110,121]⟩] 9)=x:=⟨_,rfl⟩;have Bf:Bl wf wd.heap.size (sv (Zen b)).toArray 9:=by rw[←hwf];exact Bl.new _ _ _
 have hbf:Below wd.heap.size wd wf:=by rw[←hwf];exact(Yag _ _).alloc (Yaf _) _
 have HF2:=Zhd (HFa.out wf (Zaa hbd2 hbf) _ (Zen b) (Zafb Bf) (show(4:Nat)≤10 by decide))
 rw[hfy]at HF2;clear hfx hfy hbc hbd;go_upto_region 7 with(go_at_call 16;refine HF2.out.mono ?_;rintro e wg ⟨rfl,hbg⟩)
 have hbe:=Zaa (Zaa hbd2 hbf) hbg;obtain⟨u0,u1,u2,u3⟩:=HK.out wg hbe;have HBg:=Zhd (Zaa HBa.out hbe);clear HK HFa HF2 hwf Bf hbf hbg hbd2 hbe HBa HBd q0';rcases hfin with⟨rfl,rfl,rfl,h1,rfl⟩|⟨hab,rfl,rfl,h3,h1,h2⟩
 · clear hc2 hc3;go_wp2_with fail;refine(HAW.out _ HBg.out).mono ?_;rintro e wx ⟨rfl,hbx⟩;have HB:=Zhd (Zaa HBg.out hbx);clear hbx;go_wp2_with fail;go_ret;exact⟨rfl,HB.out⟩
 · rw[h3]at u0
   have hne:(a.toList==b.toList)=false:=by
    rw[Yak];exact fun e=>hab (Zvt e)
   clear hab h3 hc2 hc3;go_wp2_with fail;refine(HAW.out _ HBg.out).mono ?_;rintro e wx ⟨rfl,hbx⟩;have HB:=Zhd (Zaa HBg.out hbx);clear hbx;go_wp2_with fail;go_ret;exact⟨rfl,HB.out⟩
end Go.Proofs.Zq
