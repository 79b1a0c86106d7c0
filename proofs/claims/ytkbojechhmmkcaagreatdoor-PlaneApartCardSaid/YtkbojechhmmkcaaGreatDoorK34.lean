import Derived.Test.YtkbojechhmmkcaaGreatDoorK32
import Derived.Test.YtkbojechhmmkcaaGreatDoorK33
set_option linter.unusedVariables false
set_option linter.unusedSimpArgs false
set_option maxHeartbeats 1000000
set_option maxRecDepth 100000
namespace Go.Proofs.Zq
open Tryz
open Go Go.RowKit Go.Sort Tre Lx Prs Lns Edt Sch
theorem Zbhs:(doS (awS 3) (opA 15 5 ⟨#[]⟩) 0).2.2=2:=aw_5
def Aw (w:World) (b1 b2 k:Nat) (W:World):Prop:= ∃ C,Bl W b1 C 32∧PlC W C (awS k)∧Bl W b2 (opcs opsA).toArray 36∧Below w.heap.size w W
theorem Zaqy (w:World):PlC w zcc Zeo where
 size:=rfl
 run:=⟨_,rfl,Zdr w⟩
 revs:=⟨none,0,0,rfl,Yaf _,Yas _,fun _=>rfl,[],rfl,rfl,Rd.nil,fun _ h=>(Ybq h).elim,fun _ h=>by cases h⟩
 opn:=of3 rfl rfl rfl
 base:=of3 ⟨_,rfl,Zdr w⟩ ⟨_,rfl,Zdr w⟩ ⟨_,rfl,Zdr w⟩
 mine:=of3 ⟨_,rfl,Zdr w⟩ ⟨_,rfl,Zdr w⟩ ⟨_,rfl,Zdr w⟩
 lock:=rfl
 clock:=rfl
 dead:=rfl
 back:=⟨_,rfl,Zdr w⟩
theorem Zbda: ∀ k (h:k<3),opsA[k].A=none∧opsA[k].o.path= []∧opsA[k].c=0∧opsA[k].o.text.size≤1000000
 |0,_=>⟨rfl,rfl,rfl,Yas _⟩
 |1,_=>⟨rfl,rfl,rfl,show 6≤1000000 by decide⟩
 |2,_=>⟨rfl,rfl,rfl,Yas _⟩
theorem Zsk (w:World) (hE:Env w):Calls prog 9 #[] w fun e w'=>e= .returned (.bool true)∧Below w.heap.size w w':=by
 have HN:=Zaqd w;go_enter func9,ntmps9;go_upto_region 1 with fail
 refine wp_region_lit ?_;go_wp2_with fail;go_at_call 20;refine HN.mono ?_;rintro e w1 ⟨rfl,hb1⟩;rename_i hKx;refine hKx _ _ ?_;clear hKx;try simp only[Act.put,Yaa,Yac,Yad]
 refine Zmp (C:=zcc) rfl rfl (by rfl) (by rfl) ?_
 intro w2 hb2 B1;have HB2:=Zhd (Zaa hb1 hb2);have hge:w.heap.size≤w1.heap.size:=hb1.size;clear hb1 hb2;try simp only[Act.put,Yaa,Yac,Yad]
 obtain⟨w3,hw3⟩: ∃ x,w2.alloc (.cells (opcs opsA).toArray 36)=x:=⟨_,rfl⟩;have hlit:(opcs opsA).toArray= #[.int .i64 1, .int .i64 0, .slice none 0 0, .string ⟨#[]⟩, .int .i64 0, .int .i64 0, .string ⟨#[]⟩, .int .i64 11, .int .i64 0, .slice none 0 0, .string ⟨#[]⟩, .int .i64 0, .int .i64 0, .string ⟨#[104,111,115,116,115,59]⟩, .int .i64 14, .int .i64 0, .slice none 0 0, .string ⟨#[]⟩, .int .i64 0, .int .i64 5, .string ⟨#[]⟩]:=rfl;have hs2:w1.heap.size<w2.heap.size:=B1.lt;have B3:Bl w3 w1.heap.size zcc 32:=by rw[←hw3];exact B1.alloc _
 have B3o:Bl w3 w2.heap.size (opcs opsA).toArray 36:=by rw[←hw3];exact Bl.new _ _ _
 have HB3:Hid (Below w.heap.size w w3):=by show Below _ _ _;rw[←hw3];exact HB2.out.alloc HB2.out.size _
 rw[hlit]at hw3;have HE:=Zhd (fun(W:World) (hb:Below w.heap.size w W)=>hE.below hb)
 have HL:Hid (Aw w w1.heap.size w2.heap.size 0 w3):=⟨zcc,B3,Zaqy _,B3o,HB3.out⟩;clear B1 B3 B3o HB2 HB3 hlit hE HN;go_wp2_with fail;go_loopw [18] (fun vk W=> ∃ k:Nat,k≤3∧vk= .int .i64 k∧Hid (Aw w w1.heap.size w2.heap.size k W)) (fun vk _=>3-(intOf vk).toNat)
 case atStart=>exact⟨0,by decide,rfl,HL⟩
 case round=>
  clear HL;obtain⟨k,hk,rfl,HA⟩:=hrel;by_cases hlt:k<3
  · obtain⟨C,Bp,hP,Bo,hb⟩:=HA.out;have hO:=Zayi Bo;obtain⟨b,o,hbo,hbl,hx⟩:=hO.at (k:=k) hlt;obtain⟨rfl,rfl⟩:w2.heap.size=b∧0=o:=by injection hbo with e;injection e with e1 e2;exact⟨e1,e2⟩
    have hxo:=hO.2 opsA[k] (Yaw _);have HST:=Zhd (Zagc k hlt);have HER:=Zhd (Zbbk k hlt);have hx0:=Zbda k hlt;generalize opsA[k]=x at *;obtain⟨xo,xw,xA,xc⟩:=x;obtain⟨rfl,hp,rfl,htx⟩:=hx0;have x0:wr.cell? ⟨w2.heap.size,k*7,none⟩=some (.int .i64 xo.kind):=by simpa[OpM.cells]using hx 0 (by decide)
    have x1:wr.cell? ⟨w2.heap.size,k*7+1,none⟩=some (.int .i64 xw):=by simpa[OpM.cells]using hx 1 (by decide)
    have x2:wr.cell? ⟨w2.heap.size,k*7+2,none⟩=some (.slice none xo.path.length 0):=by simpa[OpM.cells]using hx 2 (by decide)
    have x3:wr.cell? ⟨w2.heap.size,k*7+3,none⟩=some (.string xo.word):=by simpa[OpM.cells]using hx 3 (by decide)
    have x4:wr.cell? ⟨w2.heap.size,k*7+4,none⟩=some (.int .i64 xo.bit):=by simpa[OpM.cells]using hx 4 (by decide)
    have x5:wr.cell? ⟨w2.heap.size,k*7+5,none⟩=some (.int .i64 xo.n):=by simpa[OpM.cells]using hx 5 (by decide)
    have x6:wr.cell? ⟨w2.heap.size,k*7+6,none⟩=some (.string xo.text):=by simpa[OpM.cells]using hx 6 (by decide)
    have hkI:(k:Int)<3:=by omega
    have HD:Hid (∀ W,Below wr.heap.size wr W→Calls prog 11 #[.agg C, .agg #[.int .i64 xo.kind, .int .i64 xw, .slice none xo.path.length 0, .string xo.word, .int .i64 xo.bit, .int .i64 xo.n, .string xo.text]] W (Zef (doS (awS k) xo xw) W)):=fun W hb'=>
     Zkn C (awS k) xo xw none 0 W (hP.below hb') (HE.out _ (Zaa hb hb')) (hxo.1.below hb') hxo.2.1 hxo.2.2.1 (by rw[hp];decide) htx hxo.2.2.2 k (Zagb k (by omega)) (by omega)
    obtain⟨wx,hwx⟩: ∃ x,wr.alloc (.cells #[.int .i64 xo.kind, .int .i64 xw, .slice none xo.path.length 0, .string xo.word, .int .i64 xo.bit, .int .i64 xo.n, .string xo.text] 36)=x:=⟨_,rfl⟩;have hbx:Below wr.heap.size wr wx:=by rw[←hwx];exact(Yag _ _).alloc (Yaf _) _
    have Bx:Bl wx wr.heap.size #[.int .i64 xo.kind, .int .i64 xw, .slice none xo.path.length 0, .string xo.word, .int .i64 xo.bit, .int .i64 xo.n, .string xo.text] 36:=by rw[←hwx];exact Bl.new _ _ _
    have y0:wx.cell? ⟨wr.heap.size,0,none⟩=some (.int .i64 xo.kind):=(Bx.cell _).trans rfl;have y1:wx.cell? ⟨wr.heap.size,1,none⟩=some (.int .i64 xw):=(Bx.cell _).trans rfl;have y2:wx.cell? ⟨wr.heap.size,2,none⟩=some (.slice none xo.path.length 0):=(Bx.cell _).trans rfl;have y3:wx.cell? ⟨wr.heap.size,3,none⟩=some (.string xo.word):=(Bx.cell _).trans rfl;have y4:wx.cell? ⟨wr.heap.size,4,none⟩=some (.int .i64 xo.bit):=(Bx.cell _).trans rfl;have y5:wx.cell? ⟨wr.heap.size,5,none⟩=some (.int .i64 xo.n):=(Bx.cell _).trans rfl;have y6:wx.cell? ⟨wr.heap.size,6,none⟩=some (.string xo.text):=(Bx.cell _).trans rfl;have Bpx:=Bp.below hbx;have Box:=Bo.below hbx;have HBx:=Zhd (Zaa hb hbx);have HDx:=Zhd (HD.out wx hbx);have hcs:=hP.size;have hns:=hP.nostr;clear hb hbx Bp Bo hP hO hx HD hxo HA hp htx;go_upto_region 5 with fail
    clear x0 x1 x2 x3 x4 x5 x6;refine wp_region_lit ?_;refine wpList_load_mid rfl 32 _ rfl w1.heap.size 0 (by rfl) C.toList _ Bpx.range underlying32 rfl (by rw[Yau,hcs];exact Zam) ?_
    rw[show C.toList.toArray=C from rfl];try simp only[Act.put,Yaa,Yac,Yad]
    go_wp2_with fail;go_at_call 11;refine HDx.out.mono ?_;rintro e w5 ⟨⟨v5,rfl,hv5⟩,hb5⟩;rw[←HST.out]at hv5;rw[HER.out];obtain⟨C2,rfl,hC2⟩:=hv5.cells;have hc2:=hC2.size;rename_i hKx;refine hKx _ _ ?_;clear hKx;try simp only[Act.put,Yaa,Yac,Yad]
    refine Zdh (v:= .tuple #[.agg C2, .agg #[.int .i64 0, .int .i64 (doS (awS k) xo xw).2.2]]) rfl (by rfl) ?_
    try simp only[Act.put,Yaa,Yac,Yad]
    refine Zfl (C:=C2) (R:= #[.int .i64 0, .int .i64 (doS (awS k) xo xw).2.2]) hc2 hC2.one rfl rfl (by rfl) (by rfl) (by rfl) (by rfl) (by rfl) (by rfl) ?_
    intro W' hbw B4 B5;have x0:W'.cell? ⟨w5.heap.size+1,0,none⟩=some (.int .i64 0):=(B5.cell _).trans rfl;have hb6:=Zaa hb5 hbw;have Bp6:=Bpx.below hb6;have Bo6:=Box.below hb6;have hC6:=hC2.below hbw;have HB6:=Zhd (Zaa HBx.out hb6);have hn1:w1.heap.size≠w2.heap.size:=by omega
    clear hb5 hbw hb6 Bpx Box hC2 B5 HBx HDx y0 y1 y2 y3 y4 y5 y6;try simp only[Act.put,Yaa,Yac,Yad]
    go_upto_region 8 with fail
    refine wp_region_lit ?_;refine Zpa B4 hc2 hC6.one Bp6 hcs (by rfl) (by rfl) (by rfl) ?_
    intro W'' hoff hbel Bp7;have HA7:Hid (Aw w w1.heap.size w2.heap.size (k+1) W''):=⟨C2,Bp7,hC6.off Bp6 (by decide) hns hoff,(hoff.2 _ (Ne.symm hn1) Bo6.lt).trans Bo6,hbel _ hge HB6.out⟩
    try simp only[Act.put,Yaa,Yac,Yad]
    go_wp2_with fail;go_roundw
    case rel=>exact⟨k+1,by omega,by go_num,HA7⟩
    case measure=>simp[intOf];omega
  · obtain rfl:k=3:=by omega
    obtain⟨C,Bp,hP,-,hb⟩:=HA.out;obtain⟨v0,e0,hl0⟩:=hP.run;obtain⟨A0,n0,rfl,-⟩:=id hl0;have hr0:awS3.run.length=1:=aw_4;rw[show(awS 3).run.length=1 from aw_4]at e0;have x0:wr.cell? ⟨w1.heap.size,0,none⟩=some (.slice A0 1 n0):=(Bp.cell 0).trans e0;have hcs:=hP.size;have HD:=Zhd (Zkn C (awS 3) (opA 15 5 ⟨#[]⟩) 0 none 0 wr hP (HE.out _ hb) Rd.nil (Yaf _) (Yas _) (by decide) (by decide) (by decide) 3 (Zagb 3 (by decide)) (by decide))
    have HB:=Zhd hb;have hns:=hP.nostr;clear hb hl0 e0 hP HA;go_upto_region 11 with fail
    clear x0;refine wp_region_lit ?_;refine wpList_load_mid rfl 32 _ rfl w1.heap.size 0 (by rfl) C.toList _ Bp.range underlying32 rfl (by rw[Yau,hcs];exact Zam) ?_
    rw[show C.toList.toArray=C from rfl];try simp only[Act.put,Yaa,Yac,Yad]
    go_wp2_with fail;go_at_call 11;refine HD.out.mono ?_;rintro e w5 ⟨⟨v5,rfl,hv5⟩,hb5⟩;obtain⟨C2,rfl,hC2⟩:=hv5.cells;have hc2:=hC2.size;rw[show(doS (awS 3) (opA 15 5 ⟨#[]⟩) 0).1=awS4 from rfl]at hC2;rw[Zbhs];generalize (doS (awS 3) (opA 15 5 ⟨#[]⟩) 0).2.1=er;rename_i hKx;refine hKx _ _ ?_;clear hKx;try simp only[Act.put,Yaa,Yac,Yad]
    refine Zdh (v:= .tuple #[.agg C2, .agg #[.int .i64 er, .int .i64 2]]) rfl (by rfl) ?_
    try simp only[Act.put,Yaa,Yac,Yad]
    refine Zagm (C:=C2) (R:= #[.int .i64 er, .int .i64 2]) (Z:=C) (q:=w1.heap.size) hc2 hC2.one rfl rfl (Bp.below hb5) hcs (by rfl) (by rfl) (by rfl) (by rfl) (by rfl) (by rfl) ?_
    intro w6 hoff hbel Bp6 Br6;have hwge:w.heap.size≤w5.heap.size:=Yat HB.out.size hb5.size;have HB6:=Zhd (hbel _ hge hwge (Zaa HB.out hb5));have hC6:PlC w6 C2 awS4:=hC2.off (Bp.below hb5) (by decide) hns hoff
    clear hb5 hbel hC2 HB HD Bp;try simp only[Act.put,Yaa,Yac,Yad]
    have HD2:=Zhd (Zkn C2 awS4 (opA 11 0 ⟨#[97,32,98]⟩) 0 none 0 w6 hC6 (HE.out _ HB6.out) Rd.nil (Yaf _) (Yas _) (by decide) (by decide) (by decide) 4 Zsj (by decide))
    go_upto_region 12 with fail
    refine wp_region_lit ?_;refine wpList_load_mid rfl 32 _ rfl w1.heap.size 0 (by rfl) C2.toList _ Bp6.range underlying32 rfl (by rw[Yau,hc2];exact Zam) ?_
    rw[show C2.toList.toArray=C2 from rfl];try simp only[Act.put,Yaa,Yac,Yad]
    go_wp2_with fail;go_at_call 11;refine HD2.out.mono ?_;rintro e w7 ⟨⟨v7,rfl,hv7⟩,hb7⟩;obtain⟨C3,rfl,hC3⟩:=hv7.cells;have hc3:=hC3.size;rw[aw_8];rename_i hKx;refine hKx _ _ ?_;clear hKx;try simp only[Act.put,Yaa,Yac,Yad]
    refine Zdh (v:= .tuple #[.agg C3, .agg #[.int .i64 2, .int .i64 2]]) rfl (by rfl) ?_
    try simp only[Act.put,Yaa,Yac,Yad]
    refine Zfl (C:=C3) (R:= #[.int .i64 2, .int .i64 2]) hc3 hC3.one rfl rfl (by rfl) (by rfl) (by rfl) (by rfl) (by rfl) (by rfl) ?_
    intro w8 hb8 _ Br8;have hb68:=Zaa hb7 hb8;have Bp8:=Bp6.below hb68;have Bq8:=Br6.below hb68;have HB8:=Zhd (Zaa HB6.out hb68);have hC8:=hC6.below hb68;clear hb7 hb8 hb68 hC3 HD2 HB6 Bp6 Br6 hC6;try simp only[Act.put,Yaa,Yac,Yad]
    have HD3:=Zhd (Zkn C2 awS4 (opA 3 0 ⟨#[]⟩) 1 none 0 w8 hC8 (HE.out _ HB8.out) Rd.nil (Yaf _) (Yas _) (by decide) (by decide) (by decide) 4 Zsj (by decide))
    go_upto_region 13 with fail
    refine wp_region_lit ?_;refine wpList_load_mid rfl 32 _ rfl w1.heap.size 0 (by rfl) C2.toList _ Bp8.range underlying32 rfl (by rw[Yau,hc2];exact Zam) ?_
    rw[show C2.toList.toArray=C2 from rfl];try simp only[Act.put,Yaa,Yac,Yad]
    go_wp2_with fail;go_at_call 11;refine HD3.out.mono ?_;rintro e w9 ⟨⟨v9,rfl,hv9⟩,hb9⟩;obtain⟨C4,rfl,hC4⟩:=hv9.cells;have hc4:=hC4.size;rw[aw_9];generalize (doS awS4 (opA 3 0 ⟨#[]⟩) 1).2.2=en;rename_i hKx;refine hKx _ _ ?_;clear hKx;try simp only[Act.put,Yaa,Yac,Yad]
    refine Zdh (v:= .tuple #[.agg C4, .agg #[.int .i64 3, .int .i64 en]]) rfl (by rfl) ?_
    try simp only[Act.put,Yaa,Yac,Yad]
    refine Zfl (C:=C4) (R:= #[.int .i64 3, .int .i64 en]) hc4 hC4.one rfl rfl (by rfl) (by rfl) (by rfl) (by rfl) (by rfl) (by rfl) ?_
    intro wa hb9a _ Bs;have hb8a:=Zaa hb9 hb9a;have Bpa:=Bp8.below hb8a;have Bqa:=Bq8.below hb8a;have Bra:=Br8.below hb8a;have HBa:=Zhd (Zaa HB8.out hb8a);have hCa:=hC8.below hb8a;clear hb9 hb9a hb8a hC4 HD3 HB8 Bp8 Bq8 Br8 hC8;try simp only[Act.put,Yaa,Yac,Yad]
    obtain⟨va,ea,hla⟩:=hCa.run;obtain⟨A9,n9,rfl,-⟩:=id hla;rw[show awS4.run.length=0 from aw_6]at ea;have p0:wa.cell? ⟨w1.heap.size,0,none⟩=some (.slice A9 0 n9):=(Bpa.cell 0).trans ea;obtain⟨a0,a1,a2,a3,a4,a5,a6,a7,a8,a9,aa,ab,ac,ad,ae,rfl⟩:=Zbbj hc2;obtain rfl:a0= .slice A9 0 n9:=by injection ea
    have p1:wa.cell? ⟨w1.heap.size,1,none⟩=some a1:=(Bpa.cell _).trans rfl;have p2:wa.cell? ⟨w1.heap.size,2,none⟩=some a2:=(Bpa.cell _).trans rfl;have p3:wa.cell? ⟨w1.heap.size,3,none⟩=some a3:=(Bpa.cell _).trans rfl;have p4:wa.cell? ⟨w1.heap.size,4,none⟩=some a4:=(Bpa.cell _).trans rfl;have p5:wa.cell? ⟨w1.heap.size,5,none⟩=some a5:=(Bpa.cell _).trans rfl;have p6:wa.cell? ⟨w1.heap.size,6,none⟩=some a6:=(Bpa.cell _).trans rfl;have p7:wa.cell? ⟨w1.heap.size,7,none⟩=some a7:=(Bpa.cell _).trans rfl;have p8:wa.cell? ⟨w1.heap.size,8,none⟩=some a8:=(Bpa.cell _).trans rfl;have p9:wa.cell? ⟨w1.heap.size,9,none⟩=some a9:=(Bpa.cell _).trans rfl;have pa:wa.cell? ⟨w1.heap.size,10,none⟩=some aa:=(Bpa.cell _).trans rfl;have pb:wa.cell? ⟨w1.heap.size,11,none⟩=some ab:=(Bpa.cell _).trans rfl;have pc:wa.cell? ⟨w1.heap.size,12,none⟩=some ac:=(Bpa.cell _).trans rfl;have pd:wa.cell? ⟨w1.heap.size,13,none⟩=some ad:=(Bpa.cell _).trans rfl;have pe:wa.cell? ⟨w1.heap.size,14,none⟩=some ae:=(Bpa.cell _).trans rfl;have q1:wa.cell? ⟨w5.heap.size,1,none⟩=some (.int .i64 2):=(Bqa.cell _).trans rfl;have r0:wa.cell? ⟨w7.heap.size+1,0,none⟩=some (.int .i64 2):=(Bra.cell _).trans rfl;have r1:wa.cell? ⟨w7.heap.size+1,1,none⟩=some (.int .i64 2):=(Bra.cell _).trans rfl;have s0:wa.cell? ⟨w9.heap.size+1,0,none⟩=some (.int .i64 3):=(Bs.cell _).trans rfl;have HF:Hid (∀ W,Below wa.heap.size wa W→W.cell? ⟨w1.heap.size,0,none⟩=some (.slice A9 0 n9)∧W.cell? ⟨w1.heap.size,1,none⟩=some (a1)∧W.cell? ⟨w1.heap.size,2,none⟩=some (a2)∧W.cell? ⟨w1.heap.size,3,none⟩=some (a3)∧W.cell? ⟨w1.heap.size,4,none⟩=some (a4)∧W.cell? ⟨w1.heap.size,5,none⟩=some (a5)∧W.cell? ⟨w1.heap.size,6,none⟩=some (a6)∧W.cell? ⟨w1.heap.size,7,none⟩=some (a7)∧W.cell? ⟨w1.heap.size,8,none⟩=some (a8)∧W.cell? ⟨w1.heap.size,9,none⟩=some (a9)∧W.cell? ⟨w1.heap.size,10,none⟩=some (aa)∧W.cell? ⟨w1.heap.size,11,none⟩=some (ab)∧W.cell? ⟨w1.heap.size,12,none⟩=some (ac)∧W.cell? ⟨w1.heap.size,13,none⟩=some (ad)∧W.cell? ⟨w1.heap.size,14,none⟩=some (ae)∧W.cell? ⟨w7.heap.size+1,0,none⟩=some (.int .i64 2)∧W.cell? ⟨w7.heap.size+1,1,none⟩=some (.int .i64 2)∧W.cell? ⟨w9.heap.size+1,0,none⟩=some (.int .i64 3)):=fun W hb=>⟨((Bpa.below hb).cell _).trans rfl,((Bpa.below hb).cell _).trans rfl,((Bpa.below hb).cell _).trans rfl,((Bpa.below hb).cell _).trans rfl,((Bpa.below hb).cell _).trans rfl,((Bpa.below hb).cell _).trans rfl,((Bpa.below hb).cell _).trans rfl,((Bpa.below hb).cell _).trans rfl,((Bpa.below hb).cell _).trans rfl,((Bpa.below hb).cell _).trans rfl,((Bpa.below hb).cell _).trans rfl,((Bpa.below hb).cell _).trans rfl,((Bpa.below hb).cell _).trans rfl,((Bpa.below hb).cell _).trans rfl,((Bpa.below hb).cell _).trans rfl,((Bra.below hb).cell _).trans rfl,((Bra.below hb).cell _).trans rfl,((Bs.below hb).cell _).trans rfl⟩
    have HLA:Hid (∀ W,Below wa.heap.size wa W→_):=fun W hb=>Zos _ awS4 W (hCa.below hb) Zsj.len5
    rw[aw_7]at HLA;have HCO:=Zhd (fun(W:World) (hb:Below wa.heap.size wa W)=>Zsu _ awS4 0 W (hCa.below hb) Zsj.run Zsj.mine)
    clear hCa Bpa Bqa Bra Bs hla ea;go_wp2_with fail;refine(HLA.out _ (Yag _ _)).mono ?_;rintro e wb ⟨rfl,hbb⟩;clear p0 p1 p2 p3 p4 p5 p6 p7 p8 p9 pa pb pc pd pe r0 r1 s0 q1;obtain⟨p0,p1,p2,p3,p4,p5,p6,p7,p8,p9,pa,pb,pc,pd,pe,r0,r1,s0⟩:=HF.out wb hbb;go_wp2_with fail;refine(HCO.out _ hbb).mono ?_;rintro e wc ⟨⟨v,Q,rfl,hQ,hmq⟩,hbc⟩;have hq1:Q.length=1:=by rw[←aw_a,←hmq,Yay]
    obtain⟨Aq,cq,rfl,-⟩:=Zcr hQ.1;rw[hq1];have HBc:=Zhd (Zaa HBa.out (Zaa hbb hbc));clear p0 p1 p2 p3 p4 p5 p6 p7 p8 p9 pa pb pc pd pe r0 r1 s0 hQ hmq hbb hbc;go_wp2_with fail;go_ret;exact⟨rfl,HBc.out⟩
end Go.Proofs.Zq
namespace Edt
open Go Go.Lib Tre Sch Lns Prs Go.Proofs.Zq
structure Waits (S:Ps) (k:Int) (Q:Ps) (T:List Line):Prop where
 run:Q.run=T
 dead:Q.dead=S.clock+k
 clock:Q.clock=S.clock
 back:Q.back=S.run
 opn:Q.ses 2=⟨true,T,T⟩
 lock: ¬ (Q.lock≠0∧Q.lock≠3)
 chk:Zba T T T=(T,0,0)
section
variable {S Q:Ps} {T:List Line} {k a:Int} (hw:Waits S k Q T) (ha:0≤a∧a<k) (hk:k≤1000) (hc:0≤S.clock∧S.clock≤2147478647)
include hw ha hk hc
end
def behS (S:Ps) (L:List OpM):Ps:=L.foldl (fun S x=>(doS S x.o x.who).1) S
theorem Zamv (S:Ps) (L M:List OpM):behS S (L++M)=behS (behS S L) M:=by unfold behS;rw[List.foldl_append]
theorem Zagd {S:Ps} {L:List OpM} {k:Nat} (h:k<L.length):behS S (L.take (k+1))=(doS (behS S (L.take k)) L[k].o L[k].who).1:=by
 rw[Yax h,Zamv];rfl
theorem Zsl: ∀ (L:List OpM) {S:Ps} {t:Int},PsOk t S→PsOk (t+(L.length:Int)) (behS S L)
 | [],S,t,h=>by
   rw[show t+(([]:List OpM).length:Int)=t from Int.add_zero t];exact h
 | x::L,S,t,h=>by
   have h1:=Zsl L (Zlf h x.o x.who).1;rw[show t+((x::L).length:Int)=t+1+(L.length:Int) by rw[Ybd];omega]
   exact h1
theorem Zbbl {L:List OpM} {k:Nat} (h:k≤L.length):PsOk k (behS Zeo (L.take k)):=
 (Zsl (L.take k) Zom).mono (by rw[Yah];omega)
end Edt
namespace Go.Proofs.Zq
open Tryz
open Go Go.RowKit Go.Sort Tre Lx Prs Lns Edt Sch
theorem Zbhy {fn:Func} {t:Array Value} {W:World} {q:Nat} {D:Array Value} (hf:fn.results= #[.cell 2 32]) (h2:t.getD 2 undef= .pointer (some ⟨q,0,none⟩))
 (hq:Bl W q D 32) (hd:D.size=15):(results fn t).run prog W= .ok (.agg D) W:=by
 have e1:=lvPl hq hd;unfold results;rw[hf];simp only[List.mapM_toArray,List.mapM_cons,List.mapM_nil,h2,asAddr,Sem.run_bind,Sem.run_pure,Result.andThen_ok,e1,Sem.run_map];rfl
def Bh (w:World) (L:List OpM) (b:Nat) (k:Nat) (W:World):Prop:= ∃ C,Bl W b C 32∧PlC W C (behS Zeo (L.take k))∧Bl W w.heap.size zcc 32∧Below w.heap.size w W
theorem Zqd (A:Option Addr) (c:Nat) (L:List OpM) (w:World) (hE:Env w) (hO:Ops w A L) (hc:L.length≤c) (hm:c≤maxLen) (hn:L.length≤1000) (hX: ∀ x∈L,x.o.path.length≤1000000∧x.o.text.size≤1000000):
 Calls prog 10 #[.slice A L.length c] w fun e w'=>(∃ C,e= .returned (.agg C)∧PlC w' C (behS Zeo L))∧Below w.heap.size w w':=by
 have HEo:=Zhd (fun(W:World) (hb:Below w.heap.size w W)=>hE.below hb)
 have HOo:=Zhd (fun(W:World) (hb:Below w.heap.size w W)=>hO.below hb)
 have HX:=Zhd hX;have HN0:=Zhd hn;have hm':(c:Int)≤9223372036854775807:=by unfold maxLen at hm;omega
 have hcI:(L.length:Int)≤(c:Int):=by omega
 obtain⟨wq,hwq⟩: ∃ x,w.alloc (.cells #[.slice none 0 0, .slice none 0 0, .bool false, .slice none 0 0, .slice none 0 0, .bool false, .slice none 0 0, .slice none 0 0, .bool false, .slice none 0 0, .slice none 0 0, .int .i64 0, .int .i64 0, .int .i64 0, .slice none 0 0] 32)=x:=⟨_,rfl⟩;have Bq:Bl wq w.heap.size zcc 32:=by rw[←hwq];exact Bl.new _ _ _
 have hbq:Below w.heap.size w wq:=by rw[←hwq];exact(Yag _ _).alloc (Yaf _) _
 have HN:=Zaqd wq;clear hE hO hX hn hm;go_enter func10,ntmps10;go_upto_region 1 with fail
 clear hwq;refine wp_region_lit ?_;go_wp2_with fail;go_at_call 20;refine HN.mono ?_;rintro e w1 ⟨rfl,hb1⟩;rename_i hKx;refine hKx _ _ ?_;clear hKx;try simp only[Act.put,Yaa,Yac,Yad]
 refine Zmp (C:=zcc) rfl rfl (by rfl) (by rfl) ?_
 intro w2 hb2 B2;have hb12:=Zaa hb1 hb2;have HB2:=Zhd (Zaa hbq hb12);have Bq2:=Bq.below hb12;have hgq:w.heap.size<w1.heap.size:=Ycc Bq.lt hb1.size;have HL:Hid (Bh w L w1.heap.size 0 w2):=⟨zcc,B2,Zaqy _,Bq2,HB2.out⟩;clear hb1 hb2 hb12 Bq Bq2 B2 HB2 hbq HN;try simp only[Act.put,Yaa,Yac,Yad]
 go_wp2_with fail;go_loopw [11] (fun vk W=> ∃ k:Nat,k≤L.length∧vk= .int .i64 k∧Hid (Bh w L w1.heap.size k W)) (fun vk _=>L.length-(intOf vk).toNat)
 case atStart=>exact⟨0,Yas _,rfl,HL⟩
 case round=>
  clear HL;obtain⟨k,hk,rfl,HA⟩:=hrel;by_cases hlt:k<L.length
  · obtain⟨C,Bp,hP,Bq,hb⟩:=HA.out;have hO:=HOo.out _ hb;obtain⟨b,o,rfl,hbl,hx⟩:=hO.at (k:=k) hlt;have hxo:=hO.2 L[k] (Yaw _);have hko:=HX.out L[k] (Yaw _);have hbt:=Zagd (S:=Zeo) hlt;have hok:=Zbbl (L:=L) hk;have hnn:=HN0.out;generalize L[k]=x at *;obtain⟨xo,xw,xA,xc⟩:=x;have x0:wr.cell? ⟨b,o+k*7,none⟩=some (.int .i64 xo.kind):=(hx 0 (by decide)).trans rfl
    have x1:wr.cell? ⟨b,o+k*7+1,none⟩=some (.int .i64 xw):=(hx 1 (by decide)).trans rfl
    have x2:wr.cell? ⟨b,o+k*7+2,none⟩=some (.slice xA xo.path.length xc):=(hx 2 (by decide)).trans rfl
    have x3:wr.cell? ⟨b,o+k*7+3,none⟩=some (.string xo.word):=(hx 3 (by decide)).trans rfl
    have x4:wr.cell? ⟨b,o+k*7+4,none⟩=some (.int .i64 xo.bit):=(hx 4 (by decide)).trans rfl
    have x5:wr.cell? ⟨b,o+k*7+5,none⟩=some (.int .i64 xo.n):=(hx 5 (by decide)).trans rfl
    have x6:wr.cell? ⟨b,o+k*7+6,none⟩=some (.string xo.text):=(hx 6 (by decide)).trans rfl
    have hkI:(k:Int)<(L.length:Int):=by omega
    have hk0:(0:Int)≤(k:Int):=by omega
    obtain⟨kl1,kl2⟩:=hko
    have HD:Hid (∀ W,Below wr.heap.size wr W→Calls prog 11 #[.agg C, .agg #[.int .i64 xo.kind, .int .i64 xw, .slice xA xo.path.length xc, .string xo.word, .int .i64 xo.bit, .int .i64 xo.n, .string xo.text]] W (Zef (doS (behS Zeo (L.take k)) xo xw) W)):=fun W hb'=>
     Zkn C _ xo xw xA xc W (hP.below hb') (HEo.out _ (Zaa hb hb')) (hxo.1.below hb') hxo.2.1 hxo.2.2.1 kl1 kl2 hxo.2.2.2 k hok (by omega)
    have HBT:Hid (behS Zeo (L.take (k+1))=(doS (behS Zeo (L.take k)) xo xw).1):=hbt;generalize doS (behS Zeo (L.take k)) xo xw=z at *;obtain⟨S2,ze,zn⟩:=z;obtain⟨wx,hwx⟩: ∃ x,wr.alloc (.cells #[.int .i64 xo.kind, .int .i64 xw, .slice xA xo.path.length xc, .string xo.word, .int .i64 xo.bit, .int .i64 xo.n, .string xo.text] 36)=x:=⟨_,rfl⟩;have hbx:Below wr.heap.size wr wx:=by rw[←hwx];exact(Yag _ _).alloc (Yaf _) _
    have Bx:Bl wx wr.heap.size #[.int .i64 xo.kind, .int .i64 xw, .slice xA xo.path.length xc, .string xo.word, .int .i64 xo.bit, .int .i64 xo.n, .string xo.text] 36:=by rw[←hwx];exact Bl.new _ _ _
    have y0:wx.cell? ⟨wr.heap.size,0,none⟩=some (.int .i64 xo.kind):=(Bx.cell _).trans rfl;have y1:wx.cell? ⟨wr.heap.size,1,none⟩=some (.int .i64 xw):=(Bx.cell _).trans rfl;have y2:wx.cell? ⟨wr.heap.size,2,none⟩=some (.slice xA xo.path.length xc):=(Bx.cell _).trans rfl;have y3:wx.cell? ⟨wr.heap.size,3,none⟩=some (.string xo.word):=(Bx.cell _).trans rfl;have y4:wx.cell? ⟨wr.heap.size,4,none⟩=some (.int .i64 xo.bit):=(Bx.cell _).trans rfl;have y5:wx.cell? ⟨wr.heap.size,5,none⟩=some (.int .i64 xo.n):=(Bx.cell _).trans rfl;have y6:wx.cell? ⟨wr.heap.size,6,none⟩=some (.string xo.text):=(Bx.cell _).trans rfl;have Bpx:=Bp.below hbx;have Bqx:=Bq.below hbx;have HBx:=Zhd (Zaa hb hbx);have HDx:=Zhd (HD.out wx hbx);have hcs:=hP.size;have hns:=hP.nostr;clear hb hbx Bp Bq hP hO hx HD hxo HA kl1 kl2 hok hbt hnn;go_upto_region 5 with fail
    clear x0 x1 x2 x3 x4 x5 x6;refine wp_region_lit ?_;refine wpList_load_mid rfl 32 _ rfl w1.heap.size 0 (by rfl) C.toList _ Bpx.range underlying32 rfl (by rw[Yau,hcs];exact Zam) ?_
    rw[show C.toList.toArray=C from rfl];try simp only[Act.put,Yaa,Yac,Yad]
    go_wp2_with fail;go_at_call 11;refine HDx.out.mono ?_;rintro e w5 ⟨⟨v5,rfl,hv5⟩,hb5⟩;obtain⟨C2,rfl,hC2⟩:=hv5.cells;have hc2:=hC2.size;rename_i hKx;refine hKx _ _ ?_;clear hKx;try simp only[Act.put,Yaa,Yac,Yad]
    refine Zdh (v:= .tuple #[.agg C2, .agg #[.int .i64 ze, .int .i64 zn]]) rfl (by rfl) ?_
    try simp only[Act.put,Yaa,Yac,Yad]
    refine Zfl (C:=C2) (R:= #[.int .i64 ze, .int .i64 zn]) hc2 hC2.one rfl rfl (by rfl) (by rfl) (by rfl) (by rfl) (by rfl) (by rfl) ?_
    intro w6 hbw B7 B8;have hb6:=Zaa hb5 hbw;have B4:=Bpx.below hb6;have Bq6:=Bqx.below hb6;have hC6:=hC2.below hbw;have HB6:=Zhd (Zaa HBx.out hb6);clear hb5 hbw hb6 Bpx Bqx hC2 HBx HDx y0 y1 y2 y3 y4 y5 y6 Bx hwx;try simp only[Act.put,Yaa,Yac,Yad]
    go_upto_region 6 with fail
    refine wp_region_lit ?_;refine Zpa B7 hc2 hC6.one B4 hcs (by rfl) (by rfl) (by rfl) ?_
    intro W'' hoff hbel Bp7;have HA7:Hid (Bh w L w1.heap.size (k+1) W''):=⟨C2,Bp7,by rw[HBT.out];exact hC6.off B4 (by decide) hns hoff,(hoff.2 _ (Nat.ne_of_lt hgq) Bq6.lt).trans Bq6,hbel _ (Yem hgq) HB6.out⟩
    try simp only[Act.put,Yaa,Yac,Yad]
    go_wp2_with fail;go_roundw
    case rel=>exact⟨k+1,by omega,by go_num,HA7⟩
    case measure=>simp[intOf];omega
  · obtain rfl:k=L.length:=by omega
    obtain⟨C,Bp,hP,Bq,hb⟩:=HA.out;rw[Ybw]at hP;have hcs:=hP.size;have hz:zcc.size=15:=rfl;clear HA;go_upto_region 8 with fail
    refine wp_region_lit ?_;refine Zpa Bp hcs hP.one Bq hz (by rfl) (by rfl) (by rfl) ?_
    intro W' hoff hbel Br;have hP':=hP.off Bq (by decide) (by decide) hoff
    have HB:=Zhd (hbel _ (Yaf _) hb);try simp only[Act.put,Yaa,Yac,Yad]
    go_wp2_with fail;refine bodyPost_ret (Zbhy results10 (by rfl) Br hcs) rfl ?_
    exact⟨⟨C,rfl,hP'⟩,HB.out⟩
theorem Zavl {P:Program} {ops:Array Oper} {rest:List Oper} {o:Oper} {a:Act} {Q:Exit→Act→World→Prop} (hgd:o.guard=none) (s x:Operand) (t:TypeId)
 (ho:o.op= .call {callee:= .builtin .append,args:= #[s,x],argTypes:= #[t,t]})
 (w0 wr:World) (e:TypeId) (i:TypeInfo) (z:Value) (size bytes:Nat) (ht:P.underlying t=some (.slice e)) (hi:P.info? e=some i) (hz:i.zero=some z)
 (hsize:i.size=size) (hby:i.bytes=bytes) (hzs:z.cells.size=size) (hsz:0<size) (hb64:bytes≤128)
 {v:Value} {n:Nat} {xs:List Value} (hown:wr.ownsRow w0.heap.size e size v n xs) (hb:Below w0.heap.size w0 wr) (hs:a.eval s=v)
 (A:Option Addr) (m c:Nat) (news:List Value) (hx:a.eval x= .slice A m c) (hR:Rd wr size A m news) (hnil:A=none→c=0) (h1: ∀ u∈news,u.oneCell'=true)
 (hN:n+m≤1000000000)
 (h: ∀ v' w',w'.ownsRow w0.heap.size e size v' (n+m) (xs++news)→Below w0.heap.size w0 w'→wpList P ops Q rest (a.put o.dst v') w'):
 wpList P ops Q (o::rest) a wr:=by
 have hbytes:(n+m)*bytes≤140737488355328:=Yat (Ydj hN hb64) (by decide)
 rcases A with _|ad
 · have hm:m=0:=by
    rcases Ybj m with h0|h0
    · exact h0
    · obtain⟨ad,h,-⟩:=hR.2 h0;cases h
   subst hm;have hn:news= []:=Yap (by simpa using hR.1)
   subst hn;obtain rfl:=hnil rfl;exact wpList_append_own_none hgd s x t ho w0.heap.size e i size ht hi v n xs hs hown hx (h v wr (by simpa using hown) hb)
 · refine wpList_append_own _ hgd s x t ho w0.heap.size e i z size bytes ht hi hz hsize hby hzs hsz v n xs hs hown ad m c news hx hR.1 ?_ h1 (by unfold maxLen;omega) hbytes hb.size ?_
   · intro j u hu;obtain⟨ad',e',-,hc⟩:=hR.cell hu;injection e' with e'
     subst e';exact hc
   · intro v' w' hown' hg _;exact h v' w' hown' (hb.grown hg hb.size fun q hq=>(hown.lt q hq).1)
theorem Zavk {P:Program} {ops:Array Oper} {rest:List Oper} {o:Oper} {a:Act} {Q:Exit→Act→World→Prop} (hgd:o.guard=none) (s x:Operand) (t:TypeId)
 (ho:o.op= .call {callee:= .builtin .append,args:= #[s,x],argTypes:= #[t,t]})
 (w0 wr:World) (e:TypeId) (i:TypeInfo) (z:Value) (size bytes:Nat) (ht:P.underlying t=some (.slice e)) (hi:P.info? e=some i) (hz:i.zero=some z)
 (hsize:i.size=size) (hby:i.bytes=bytes) (hzs:z.cells.size=size) (hsz:0<size) (hb64:bytes≤128)
 {v:Value} {n:Nat} {xs:List Value} (hown:wr.ownsRow w0.heap.size e size v n xs) (hb:Below w0.heap.size w0 wr) (hs:a.eval s=v)
 (m c:Nat) (news:List Value) (hx:a.eval x= .slice (some ⟨wr.heap.size,0,none⟩) m c) (hl:news.length=m*size) (h1: ∀ u∈news,u.oneCell'=true)
 (hN:n+m≤1000000000)
 (h: ∀ v' w',w'.ownsRow w0.heap.size e size v' (n+m) (xs++news)→Below w0.heap.size w0 w'→wpList P ops Q rest (a.put o.dst v') w'):
 wpList P ops Q (o::rest) a (wr.alloc (.cells news.toArray e)):=by
 have hbytes:(n+m)*bytes≤140737488355328:=Yat (Ydj hN hb64) (by decide)
 refine wpList_append_own _ hgd s x t ho w0.heap.size e i z size bytes ht hi hz hsize hby hzs hsz v n xs hs (hown.alloc _) ⟨wr.heap.size,0,none⟩ m c news hx hl ?_ h1 (by unfold maxLen;omega) hbytes (Yat hb.size (by simp)) ?_
 · intro j u hu;have hj:j<news.length:=(Ybb.1 hu).1;rw[Zag,Ybi,World.cell?_alloc_at _ _ _ _ rfl];simpa using hu
 · intro v' w' hown' hg _;refine h v' w' hown' ((hb.alloc hb.size _).grown hg (Yat hb.size (by simp)) fun q hq=>(hown.lt q hq).1)
theorem Zbck:(prog.info? 36).map (fun i=>(i.zero,i.size,i.bytes))=some (some (.agg #[.int .i64 0, .int .i64 0, .slice none 0 0, .string ⟨#[]⟩, .int .i64 0, .int .i64 0, .string ⟨#[]⟩]),7,88):=by kernel_rfl
theorem Zaht (a b:List OpM):opcs (a++b)=opcs a++opcs b:=by unfold opcs;rw[Ycf]
theorem Zahu (L:List OpM): ∀ u∈opcs L,u.oneCell'=true:=by
 intro u hu;unfold opcs at hu;obtain⟨x,-,hx⟩:=Ydk.1 hu;unfold OpM.cells at hx;simp only[Yav,Ybq,or_false]at hx;rcases hx with h|h|h|h|h|h|h<;>subst h<;>rfl
theorem Zaqj {w:World} {A:Option Addr} {L:List OpM} (h:Ops w A L) {n:Nat} (hn:n≤L.length):Rd w 7 A n (opcs (L.take n)):=by
 refine⟨by rw[Zhm,Yah];congr 1;omega,fun h0=> ?_⟩
 obtain⟨ad,e,hb,hx⟩:=h.1.2 (by omega)
 refine⟨ad,e,hb,fun j u hu=>hx j u ?_⟩
 have e2:opcs L=opcs (L.take n)++opcs (L.drop n):=by rw[←Zaht,Ybk]
 rw[e2,Ych (Ybb.1 hu).1];exact hu
theorem Ops.app {w w':World} {A:Option Addr} {L X:List OpM} {n B:Nat} {v:Value} (h:Ops w A L) (hn:n≤L.length) (hb:Below w.heap.size w w')
 (ho:w'.ownsRow B 36 7 v (n+X.length) (opcs (L.take n)++opcs X)) (hX: ∀ x∈X,x.Ok w'):
 ∃ A' c',v= .slice A' (L.take n++X).length c'∧(L.take n++X).length≤c'∧c'≤maxLen∧Ops w' A' (L.take n++X):=by
 obtain⟨A',c',h1,h2,h3,h4⟩:=Zbj ho;have hl:(L.take n++X).length=n+X.length:=by rw[Yae,Yah];congr 1;omega
 rw[hl];refine⟨A',c',h1,h2,h3,by rw[hl,Zaht];exact h4,fun x hx=> ?_⟩
 rcases Ybn.1 hx with hx|hx
 · exact(h.2 x (Yff hx)).below hb
 · exact hX x hx
def opM (kind who n:Int):OpM:=⟨⟨kind,[],⟨#[]⟩,0,n,⟨#[]⟩⟩,who,none,0⟩
theorem Zbgw (w:World) (kind who n:Int) (h: -9223372036854775808≤n∧n≤9223372036854775807):(opM kind who n).Ok w:=⟨Rd.nil,Yaf _,Yas _,h⟩
theorem Zasb {p:List ByteArray} (h:Zjm p=true):p.length≤1000000:=by
 unfold Zjm at h;simp only[Yaq,Yao]at h;omega
theorem Zbgv {o:Opp} (h:opOk o=true):o.path.length≤1000000∧o.text.size≤1000000:=by
 unfold opOk at h;simp only[Yaq,Yao]at h;exact⟨Zasb h.1.1,by omega⟩
theorem Zbcd {L:List OpM} {m:Nat} (h: ¬ fewO L m<0):fewO L m=((min L.length m:Nat):Int)∧ ∀ x∈L.take (min L.length m),x.o.path.length≤1000000∧x.o.text.size≤1000000:=by
 obtain⟨h1,h2⟩:=Zawm h;refine⟨h1,fun x hx=>Zbgv (h2 x ?_)⟩
 rwa [show L.take (min L.length m)=L.take m by rw[List.take_eq_take_iff];omega]at hx
theorem Zbhb {fn:Func} {t:Array Value} {W:World} {q:Nat} {D:Array Value} (hf:fn.results= #[.cell 4 32]) (h2:t.getD 4 undef= .pointer (some ⟨q,0,none⟩))
 (hq:Bl W q D 32) (hd:D.size=15):(results fn t).run prog W= .ok (.agg D) W:=by
 have e1:=lvPl hq hd;unfold results;rw[hf];simp only[List.mapM_toArray,List.mapM_cons,List.mapM_nil,h2,asAddr,Sem.run_bind,Sem.run_pure,Result.andThen_ok,e1,Sem.run_map];rfl
def Bho (w:World) (S:Ps) (L:List OpM) (k:Nat) (W:World):Prop:= ∃ C,Bl W w.heap.size C 32∧PlC W C (behS S (L.take k))∧Bl W (w.heap.size+1) zcc 32∧Below w.heap.size w W
theorem Zaah (C0:Array Value) (S:Ps) (t:Int) (A:Option Addr) (c:Nat) (L:List OpM) (w:World) (hP0:PlC w C0 S) (hok:PsOk t S) (ht:t≤1000) (hE:Env w) (hO:Ops w A L) (hc:L.length≤c) (hm:c≤maxLen) (hn:L.length≤1000) (hX: ∀ x∈L,x.o.path.length≤1000000∧x.o.text.size≤1000000):
 Calls prog 17 #[.agg C0, .slice A L.length c] w fun e w'=>(∃ C,e= .returned (.agg C)∧PlC w' C (behS S L))∧Below w.heap.size w w':=by
 have HEo:=Zhd (fun(W:World) (hb:Below w.heap.size w W)=>hE.below hb)
 have HOo:=Zhd (fun(W:World) (hb:Below w.heap.size w W)=>hO.below hb)
 have HX:=Zhd hX;have HN0:=Zhd hn;have hm':(c:Int)≤9223372036854775807:=by unfold maxLen at hm;omega
 have hcI:(L.length:Int)≤(c:Int):=by omega
 obtain⟨wp,hwp⟩: ∃ x,w.alloc (.cells C0 32)=x:=⟨_,rfl⟩;obtain⟨wq,hwq⟩: ∃ x,wp.alloc (.cells #[.slice none 0 0, .slice none 0 0, .bool false, .slice none 0 0, .slice none 0 0, .bool false, .slice none 0 0, .slice none 0 0, .bool false, .slice none 0 0, .slice none 0 0, .int .i64 0, .int .i64 0, .int .i64 0, .slice none 0 0] 32)=x:=⟨_,rfl⟩;have hs1:wp.heap.size=w.heap.size+1:=by rw[←hwp];simp
 have Bp0:Bl wp w.heap.size C0 32:=by rw[←hwp];exact Bl.new _ _ _
 have Bp1:Bl wq w.heap.size C0 32:=by rw[←hwq];exact Bp0.alloc _
 have Bq1:Bl wq (w.heap.size+1) zcc 32:=by rw[←hwq,←hs1];exact Bl.new _ _ _
 have hbq:Below w.heap.size w wq:=by rw[←hwq,←hwp];exact((Yag _ _).alloc (Yaf _) _).alloc (by simp) _
 have HL:Hid (Bho w S L 0 wq):=⟨C0,Bp1,hP0.below hbq,Bq1,hbq⟩;have hc0:=hP0.size;clear hE hO hX hn hm Bp0 Bp1 Bq1 hbq hP0;go_enter func17,ntmps17;go_wp2_with fail;clear hwp hwq;go_loopw [11] (fun vk W=> ∃ k:Nat,k≤L.length∧vk= .int .i64 k∧Hid (Bho w S L k W)) (fun vk _=>L.length-(intOf vk).toNat)
 case atStart=>exact⟨0,Yas _,rfl,HL⟩
 case round=>
  clear HL;obtain⟨k,hk,rfl,HA⟩:=hrel;by_cases hlt:k<L.length
  · obtain⟨C,Bp,hP,Bq,hb⟩:=HA.out;have hO:=HOo.out _ hb;obtain⟨b,o,rfl,hbl,hx⟩:=hO.at (k:=k) hlt;have hxo:=hO.2 L[k] (Yaw _);have hko:=HX.out L[k] (Yaw _);have hbt:=Zagd (S:=S) hlt;have hok2:PsOk (t+(k:Int)) (behS S (L.take k)):=(Zsl (L.take k) hok).mono (by rw[Yah];omega)
    have hnn:=HN0.out;generalize L[k]=x at *;obtain⟨xo,xw,xA,xc⟩:=x;have x0:wr.cell? ⟨b,o+k*7,none⟩=some (.int .i64 xo.kind):=(hx 0 (by decide)).trans rfl
    have x1:wr.cell? ⟨b,o+k*7+1,none⟩=some (.int .i64 xw):=(hx 1 (by decide)).trans rfl
    have x2:wr.cell? ⟨b,o+k*7+2,none⟩=some (.slice xA xo.path.length xc):=(hx 2 (by decide)).trans rfl
    have x3:wr.cell? ⟨b,o+k*7+3,none⟩=some (.string xo.word):=(hx 3 (by decide)).trans rfl
    have x4:wr.cell? ⟨b,o+k*7+4,none⟩=some (.int .i64 xo.bit):=(hx 4 (by decide)).trans rfl
    have x5:wr.cell? ⟨b,o+k*7+5,none⟩=some (.int .i64 xo.n):=(hx 5 (by decide)).trans rfl
    have x6:wr.cell? ⟨b,o+k*7+6,none⟩=some (.string xo.text):=(hx 6 (by decide)).trans rfl
    have hkI:(k:Int)<(L.length:Int):=by omega
    have hk0:(0:Int)≤(k:Int):=by omega
    obtain⟨kl1,kl2⟩:=hko
    have HD:Hid (∀ W,Below wr.heap.size wr W→Calls prog 11 #[.agg C, .agg #[.int .i64 xo.kind, .int .i64 xw, .slice xA xo.path.length xc, .string xo.word, .int .i64 xo.bit, .int .i64 xo.n, .string xo.text]] W (Zef (doS (behS S (L.take k)) xo xw) W)):=fun W hb'=>
     Zkn C _ xo xw xA xc W (hP.below hb') (HEo.out _ (Zaa hb hb')) (hxo.1.below hb') hxo.2.1 hxo.2.2.1 kl1 kl2 hxo.2.2.2 _ hok2 (by omega)
    have HBT:Hid (behS S (L.take (k+1))=(doS (behS S (L.take k)) xo xw).1):=hbt;generalize doS (behS S (L.take k)) xo xw=z at *;obtain⟨S2,ze,zn⟩:=z;obtain⟨wx,hwx⟩: ∃ x,wr.alloc (.cells #[.int .i64 xo.kind, .int .i64 xw, .slice xA xo.path.length xc, .string xo.word, .int .i64 xo.bit, .int .i64 xo.n, .string xo.text] 36)=x:=⟨_,rfl⟩;have hbx:Below wr.heap.size wr wx:=by rw[←hwx];exact(Yag _ _).alloc (Yaf _) _
    have Bx:Bl wx wr.heap.size #[.int .i64 xo.kind, .int .i64 xw, .slice xA xo.path.length xc, .string xo.word, .int .i64 xo.bit, .int .i64 xo.n, .string xo.text] 36:=by rw[←hwx];exact Bl.new _ _ _
    have y0:wx.cell? ⟨wr.heap.size,0,none⟩=some (.int .i64 xo.kind):=(Bx.cell _).trans rfl;have y1:wx.cell? ⟨wr.heap.size,1,none⟩=some (.int .i64 xw):=(Bx.cell _).trans rfl;have y2:wx.cell? ⟨wr.heap.size,2,none⟩=some (.slice xA xo.path.length xc):=(Bx.cell _).trans rfl;have y3:wx.cell? ⟨wr.heap.size,3,none⟩=some (.string xo.word):=(Bx.cell _).trans rfl;have y4:wx.cell? ⟨wr.heap.size,4,none⟩=some (.int .i64 xo.bit):=(Bx.cell _).trans rfl;have y5:wx.cell? ⟨wr.heap.size,5,none⟩=some (.int .i64 xo.n):=(Bx.cell _).trans rfl;have y6:wx.cell? ⟨wr.heap.size,6,none⟩=some (.string xo.text):=(Bx.cell _).trans rfl;have Bpx:=Bp.below hbx;have Bqx:=Bq.below hbx;have HBx:=Zhd (Zaa hb hbx);have HDx:=Zhd (HD.out wx hbx);have hcs:=hP.size;have hns:=hP.nostr;clear hb hbx Bp Bq hP hO hx HD hxo HA kl1 kl2 hok2 hbt hnn;go_upto_region 4 with fail
    clear x0 x1 x2 x3 x4 x5 x6;refine wp_region_lit ?_;refine wpList_load_mid rfl 32 _ rfl w.heap.size 0 (by rfl) C.toList _ Bpx.range underlying32 rfl (by rw[Yau,hcs];exact Zam) ?_
    rw[show C.toList.toArray=C from rfl];try simp only[Act.put,Yaa,Yac,Yad]
    go_wp2_with fail;go_at_call 11;refine HDx.out.mono ?_;rintro e w5 ⟨⟨v5,rfl,hv5⟩,hb5⟩;obtain⟨C2,rfl,hC2⟩:=hv5.cells;have hc2:=hC2.size;rename_i hKx;refine hKx _ _ ?_;clear hKx;try simp only[Act.put,Yaa,Yac,Yad]
    refine Zdh (v:= .tuple #[.agg C2, .agg #[.int .i64 ze, .int .i64 zn]]) rfl (by rfl) ?_
    try simp only[Act.put,Yaa,Yac,Yad]
    refine Zfl (C:=C2) (R:= #[.int .i64 ze, .int .i64 zn]) hc2 hC2.one rfl rfl (by rfl) (by rfl) (by rfl) (by rfl) (by rfl) (by rfl) ?_
    intro w6 hbw B7 B8;have hb6:=Zaa hb5 hbw;have B4:=Bpx.below hb6;have Bq6:=Bqx.below hb6;have hC6:=hC2.below hbw;have HB6:=Zhd (Zaa HBx.out hb6);clear hb5 hbw hb6 Bpx Bqx hC2 HBx HDx y0 y1 y2 y3 y4 y5 y6 Bx hwx;try simp only[Act.put,Yaa,Yac,Yad]
    go_upto_region 5 with fail
    refine wp_region_lit ?_;refine Zpa B7 hc2 hC6.one B4 hcs (by rfl) (by rfl) (by rfl) ?_
    intro W'' hoff hbel Bp7;have HA7:Hid (Bho w S L (k+1) W''):=⟨C2,Bp7,by rw[HBT.out];exact hC6.off B4 (by decide) hns hoff,(hoff.2 _ (by omega) Bq6.lt).trans Bq6,hbel _ (Yaf _) HB6.out⟩
    try simp only[Act.put,Yaa,Yac,Yad]
    go_wp2_with fail;go_roundw
    case rel=>exact⟨k+1,by omega,by go_num,HA7⟩
    case measure=>simp[intOf];omega
  · obtain rfl:k=L.length:=by omega
    obtain⟨C,Bp,hP,Bq,hb⟩:=HA.out;rw[Ybw]at hP;have hcs:=hP.size;have hz:zcc.size=15:=rfl;clear HA;go_upto_region 7 with fail
    refine wp_region_lit ?_;refine Zpa Bp hcs hP.one Bq hz (by rfl) (by rfl) (by rfl) ?_
    intro W' hoff hbel Br;have hP':=hP.off Bq (by decide) (by decide) hoff
    have HB:=Zhd (hbel _ (Nat.le_succ _) hb);try simp only[Act.put,Yaa,Yac,Yad]
    go_wp2_with fail;refine bodyPost_ret (Zbhb results17 (by rfl) Br hcs) rfl ?_
    exact⟨⟨C,rfl,hP'⟩,HB.out⟩
end Go.Proofs.Zq
