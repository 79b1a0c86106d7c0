import Derived.Test.YtkbojechhmmkcaaGreatDoorJ35
set_option linter.unusedVariables false
set_option linter.unusedSimpArgs false
set_option maxHeartbeats 1000000
set_option maxRecDepth 100000
namespace Go.Proofs.Zq
open Tryz
open Go Go.RowKit Go.Sort Tre Lx Prs Lns Edt Sch
theorem Zue {a:Act} {o:Oper} {Cw:World→Prop} {K:Act→Prop} {sp b:Nat} {D:Array Value} (ho:o.op= .load 32 (.tmp sp)) (hx:a.eval (.tmp sp)= .pointer (some ⟨b,0,none⟩)) (hC: ∀ w,Cw w→Bl w b D 32) (hs:D.size=15) (hK:K (a.put o.dst (.agg D))):o.quiet prog a Cw K:=
 ⟨.agg D,fun w hw=>by
  have hl:=ldPl (hC w hw) hs
  have hr:(execOp a.eval o).run prog w= .ok (.value (.agg D)) w:=by
   unfold execOp;simp only[ho,hx,Sem.run_bind,hl,Result.andThen_ok,Sem.run_pure]
  unfold Oper.quietAt;rw[hr];exact⟨rfl,rfl⟩,hK⟩
def Lk (w:World) (b:Nat) (k:Nat) (W:World):Prop:= ∃ C S,Bl W b C 32∧PlC W C S∧PsOk (100+k:Nat) S∧S.lock=1∧Below w.heap.size w W
theorem locked_any (A:Option Addr) (c:Nat) (L:List OpM) (B:Option Addr) (d:Nat) (M:List OpM) (w:World) (hE:Env w) (hO:Ops w A L) (hc:L.length≤c) (hm:c≤maxLen) (hnil:A=none→c=0) (hO2:Ops w B M) (hd:M.length≤d) (hmd:d≤maxLen):
 Calls prog 7 #[.slice A L.length c, .slice B M.length d] w fun e w'=>e= .returned (.bool true)∧Below w.heap.size w w':=by
 have HF:=Zvk A c L 20 w hO hc hm (by decide)
 have HG:=Zhd (fun(W:World) (hb:Below w.heap.size w W)=>Zvk B d M 20 W (hO2.below hb) hd hmd (by decide))
 have HEo:=Zhd (fun(W:World) (hb:Below w.heap.size w W)=>hE.below hb)
 have HOo:=Zhd (fun(W:World) (hb:Below w.heap.size w W)=>hO.below hb)
 have HPo:=Zhd (fun(W:World) (hb:Below w.heap.size w W)=>hO2.below hb)
 have HAW:=Zhd (fun(W:World) (hb:Below w.heap.size w W)=>Zxl W (hE.below hb))
 by_cases hf:fewO L 20<0
 · rw[Zvl hf]at HF;generalize fewO M 20=b at HG;clear hf hO hE hO2;go_enter func7,ntmps7;go_wp2_with fail;refine HF.mono ?_;rintro e w1 ⟨rfl,hb1⟩;go_wp2_with fail;refine(HG.out _ hb1).mono ?_;rintro e w2 ⟨rfl,hb2⟩;have HB2:=Zhd (Zaa hb1 hb2);clear hb1 hb2;go_wp2_with fail;refine(HAW.out _ HB2.out).mono ?_;rintro e w3 ⟨rfl,hb3⟩;have HB:=Zhd (Zaa HB2.out hb3);clear hb3;go_wp2_with fail;go_ret;exact⟨rfl,HB.out⟩
 obtain⟨hf1,hf2⟩:=Zaar hf;rw[hf1]at HF;by_cases hg:fewO M 20<0
 · rw[Zvl hg]at HG;have hn: ¬ ((min L.length 20:Nat):Int)<0:=by omega
   generalize min L.length 20=n at HF hn;clear hf hg hO hE hO2 hf1 hf2;go_enter func7,ntmps7;go_wp2_with fail;refine HF.mono ?_;rintro e w1 ⟨rfl,hb1⟩;go_wp2_with fail;refine(HG.out _ hb1).mono ?_;rintro e w2 ⟨rfl,hb2⟩;have HB2:=Zhd (Zaa hb1 hb2);clear hb1 hb2;go_wp2_with fail;refine(HAW.out _ HB2.out).mono ?_;rintro e w3 ⟨rfl,hb3⟩;have HB:=Zhd (Zaa HB2.out hb3);clear hb3;go_wp2_with fail;go_ret;exact⟨rfl,HB.out⟩
 obtain⟨hg1,hg2⟩:=Zaar hg;rw[hg1]at HG;obtain⟨n,hn⟩: ∃ n,min L.length 20=n:=⟨_,rfl⟩;obtain⟨m,hmm⟩: ∃ m,min M.length 20=m:=⟨_,rfl⟩;rw[hn]at HF hf2;rw[hmm]at HG hg2;have hnL:n≤L.length:=by omega
 have hmM:m≤M.length:=by omega
 have hn20:n≤20:=by omega
 have hm20:m≤20:=by omega
 have hnc:(n:Int)≤(c:Int):=by omega
 have hmd2:(m:Int)≤(d:Int):=by omega
 have hn0:(0:Int)≤(n:Int):=by omega
 have hm0:(0:Int)≤(m:Int):=by omega
 have HX:=Zhd hf2;have HY:=Zhd hg2;have hge1:(decide ((n:Int)<0))=false:=Yah (by omega)
 have hge2:(decide ((m:Int)<0))=false:=Yah (by omega)
 have HNIL:=Zhd hnil;have hcI:(c:Int)≤9223372036854775807:=by unfold maxLen at hm;omega
 have hdI:(d:Int)≤9223372036854775807:=by unfold maxLen at hmd;omega
 clear hf hf1 hf2 hg hg1 hg2 hO hE hO2 hn hmm hnil;go_enter func7,ntmps7;go_wp2_with fail;refine HF.mono ?_;rintro e w1 ⟨rfl,hb1⟩;go_wp2_with fail;refine(HG.out _ hb1).mono ?_;rintro e w2 ⟨rfl,hb2⟩;have HB2:=Zhd (Zaa hb1 hb2);clear hb1 hb2 HF HG;have HO2:=Zhd (HOo.out w2 HB2.out);obtain⟨i0,hii,hz0,hz1,hz2⟩:=info_parts Zakz;have hown0:=Zamj w2 w2.heap.size 36 7 (Yag _);have hb0:Below w2.heap.size w2 (w2.alloc (.cells #[] 36)):=(Yae _ _).alloc (Yag _) _;have HR:=Zhd ((Zyz HO2.out hnL).below hb0);go_upto_region 4 with fail
 refine wp_region_lit ?_;go_wp2_with (at_builtin;first|(refine Zacx rfl _ _ 22 rfl w2 (w2.alloc (.cells #[] 36)) 36 i0 _ 7 88 underlying22 hii hz0 hz1 hz2 rfl (by decide) (by decide) hown0 hb0 rfl A n c (opcs (L.take n)) rfl HR.out HNIL.out (Zpx _) (by omega) ?_;intro v1 w3 hown1 hb3)|(go_must (refine Zacw rfl _ _ 22 rfl w2 w3 36 i0 _ 7 88 underlying22 hii hz0 hz1 hz2 rfl (by decide) (by decide) hown1 hb3 rfl 1 1 (opcs [opM 1 0 0]) rfl rfl (Zpx _) (by omega) ?_);intro v2 w4 hown2 hb4))
 have hown3:w4.ownsRow w2.heap.size 36 7 v2 (n+ [opM 1 0 0].length) (opcs (L.take n)++opcs [opM 1 0 0]):=by simpa using hown2
 obtain⟨A2,c2,rfl,g1,g2,hP2⟩:=HO2.out.app hnL hb4 hown3 (fun x hx=>by rw[Ybt.1 hx];exact Zamf _ _ _ _ (by decide))
 have hlen:(L.take n++ [opM 1 0 0]).length≤22:=by rw[Yak,Yaf,Ybv];omega
 have HB4:=Zhd (Zaa HB2.out hb4)
 have HBH:=Ztm A2 c2 (L.take n++ [opM 1 0 0]) w4 (HEo.out _ HB4.out) hP2 g1 g2 (by omega) (fun x hx=>by
  rcases Ybl.1 hx with hx|hx
  · exact HX.out x hx
  · rw[Ybt.1 hx];exact⟨Yao _,Yao _⟩)
 have hok:PsOk 22 (behS Zej (L.take n++ [opM 1 0 0])):=(Zadb (L.take n++ [opM 1 0 0]) Zpq).mono (by omega)
 have hop:((behS Zej (L.take n++ [opM 1 0 0])).ses 0).opn=true:=by rw[Zaac];exact Zarx _ rfl
 generalize behS Zej (L.take n++ [opM 1 0 0])=S at *;clear hown0 hown1 hown2 hown3 hb0 hb3 hb4 HR hP2 hlen HO2;go_at_call 10;refine HBH.mono ?_;rintro e w5 ⟨⟨C,rfl,hC⟩,hb5⟩;have hcs:=hC.size;have hns:=hC.nostr;rename_i hKx;refine hKx _ _ ?_;clear hKx HBH;try simp only[Act.put,Yaa,Yab,Yac]
 refine Zpv (C:=C) hcs hC.one (by rfl) (by rfl) ?_
 intro w6 hb6 Bp;have hC6:=hC.below hb6;have HB6:=Zhd (Zaa HB4.out (Zaa hb5 hb6));have hgw:w.heap.size≤w5.heap.size:=Yas HB4.out.size hb5.size;clear hb5 hb6 hC HB4 HB2;try simp only[Act.put,Yaa,Yab,Yac]
 have HD:=Zgu C S (opA 3 0 ⟨#[]⟩) 0 none 0 w6 hC6 (HEo.out _ HB6.out) Rd.nil (Yag _) (Yao _) (by decide) (by decide) (by decide) 22 hok (by decide)
 obtain⟨S2,ze,hz,hS2⟩: ∃ S2 ze,doS S (opA 3 0 ⟨#[]⟩) 0=(S2,ze,0)∧(ze=9∨ze=0∧S2.lock=1∧PsOk 100 S2):=by
  have hlt:=Zalp hop (o:=opA 3 0 ⟨#[]⟩) rfl;have hst:=(Zhf hok (opA 3 0 ⟨#[]⟩) 0).1;rw[hlt]at hst⊢;by_cases hl:S.lock≠0∧S.lock≠1
  · rw[Yan hl];exact⟨_,_,rfl, .inl rfl⟩
  · rw[Yad hl]at hst⊢;exact⟨_,_,rfl, .inr ⟨rfl,rfl,hst.mono (by decide)⟩⟩
 rw[hz]at HD;have HDh:=Zhd HD;have HS2:=Zhd hS2;clear HD hz hS2 hok hop hC6;go_upto_region 5 with fail
 refine wp_region_lit ?_;refine wpList_load_mid rfl 32 _ rfl w5.heap.size 0 (by rfl) C.toList _ Bp.range underlying32 rfl (by rw[Yav,hcs];exact Zai) ?_
 rw[show C.toList.toArray=C from rfl];try simp only[Act.put,Yaa,Yab,Yac]
 go_wp2_with fail;go_at_call 11;refine HDh.out.mono ?_;rintro e w7 ⟨⟨v7,rfl,hv7⟩,hb7⟩;obtain⟨C2,rfl,hC2⟩:=hv7.cells;have hc2:=hC2.size;rename_i hKx;refine hKx _ _ ?_;clear hKx HDh;try simp only[Act.put,Yaa,Yab,Yac]
 refine Zcj (v:= .tuple #[.agg C2, .agg #[.int .i64 ze, .int .i64 0]]) rfl (by rfl) ?_
 try simp only[Act.put,Yaa,Yab,Yac]
 refine Zve (C:=C2) (R:= #[.int .i64 ze, .int .i64 0]) (Z:=C) (q:=w5.heap.size) hc2 hC2.one rfl rfl (Bp.below hb7) hcs (by rfl) (by rfl) (by rfl) (by rfl) (by rfl) (by rfl) ?_
 intro w8 hoff hbel Bp8 Br8;have HB8:=Zhd (hbel _ hgw (Yas hgw (by have:=Bp.lt;have:=hb7.size;omega)) (Zaa HB6.out hb7))
 have hC8:=hC2.off (Bp.below hb7) (by decide) hns hoff
 have hr0:w8.cell? ⟨w7.heap.size,0,none⟩=some (.int .i64 ze):=(Br8.cell _).trans rfl;clear hb7 hoff hbel hC2 Bp HB6 Br8 hns hcs;try simp only[Act.put,Yaa,Yab,Yac]
 rcases HS2.out with rfl|⟨rfl,hl1,hok2⟩
 · clear HS2 Bp8 hC8 hc2;go_wp2_with fail;refine(HAW.out _ HB8.out).mono ?_;rintro e w9 ⟨rfl,hb9⟩;have HB:=Zhd (Zaa HB8.out hb9);clear hb9;go_wp2_with fail;go_ret;exact⟨rfl,HB.out⟩
 have HL:Hid (Lk w w5.heap.size 0 w8):=⟨C2,S2,Bp8,hC8,hok2,hl1,HB8.out⟩;clear Bp8 hC8 HS2 hok2 hl1 HB8 hc2;go_wp2_with fail;clear hr0;go_loopw [52] (fun vk W=> ∃ k:Nat,k≤m∧vk= .int .i64 k∧Hid (Lk w w5.heap.size k W)) (fun vk _=>m-(intOf vk).toNat)
 case atStart=>exact⟨0,Yao _,rfl,HL⟩
 case round=>
  clear HL;obtain⟨k,hk,rfl,HA⟩:=hrel;by_cases hlt:k<m
  · obtain ⟨C,S,Bp,hP,hok,hl1,hb⟩:=HA.out;have hkM:k<M.length:=by omega
    have hOr:=HPo.out _ hb;obtain⟨b,o,rfl,hbl,hx⟩:=hOr.at (k:=k) hkM;have hxo:=hOr.2 M[k] (Yau _);have hko:=HY.out M[k] (List.mem_take_iff_getElem.2 ⟨k,by omega,rfl⟩)
    generalize M[k]=x at *;obtain⟨xo,xw,xA,xc⟩:=x;have x0:wr.cell? ⟨b,o+k*7,none⟩=some (.int .i64 xo.kind):=(hx 0 (by decide)).trans rfl
    have x1:wr.cell? ⟨b,o+k*7+1,none⟩=some (.int .i64 xw):=(hx 1 (by decide)).trans rfl
    have x2:wr.cell? ⟨b,o+k*7+2,none⟩=some (.slice xA xo.path.length xc):=(hx 2 (by decide)).trans rfl
    have x3:wr.cell? ⟨b,o+k*7+3,none⟩=some (.string xo.word):=(hx 3 (by decide)).trans rfl
    have x4:wr.cell? ⟨b,o+k*7+4,none⟩=some (.int .i64 xo.bit):=(hx 4 (by decide)).trans rfl
    have x5:wr.cell? ⟨b,o+k*7+5,none⟩=some (.int .i64 xo.n):=(hx 5 (by decide)).trans rfl
    have x6:wr.cell? ⟨b,o+k*7+6,none⟩=some (.string xo.text):=(hx 6 (by decide)).trans rfl
    have hkI:(k:Int)<(m:Int):=by omega
    have hk0:(0:Int)≤(k:Int):=by omega
    obtain⟨kl1,kl2⟩:=hko
    have HD:Hid (∀ W,Below wr.heap.size wr W→Calls prog 11 #[.agg C, .agg #[.int .i64 xo.kind, .int .i64 xw, .slice xA xo.path.length xc, .string xo.word, .int .i64 xo.bit, .int .i64 xo.n, .string xo.text]] W (Zdk (doS S xo xw) W)):=fun W hb'=>
     Zgu C S xo xw xA xc W (hP.below hb') (HEo.out _ (Zaa hb hb')) (hxo.1.below hb') hxo.2.1 hxo.2.2.1 kl1 kl2 hxo.2.2.2 _ hok (by omega)
    obtain⟨wx,hwx⟩: ∃ x,wr.alloc (.cells #[.int .i64 xo.kind, .int .i64 xw, .slice xA xo.path.length xc, .string xo.word, .int .i64 xo.bit, .int .i64 xo.n, .string xo.text] 36)=x:=⟨_,rfl⟩;have hbx:Below wr.heap.size wr wx:=by rw[←hwx];exact(Yae _ _).alloc (Yag _) _
    have Bx:Bl wx wr.heap.size #[.int .i64 xo.kind, .int .i64 xw, .slice xA xo.path.length xc, .string xo.word, .int .i64 xo.bit, .int .i64 xo.n, .string xo.text] 36:=by rw[←hwx];exact Bl.new _ _ _
    have y0:wx.cell? ⟨wr.heap.size,0,none⟩=some (.int .i64 xo.kind):=(Bx.cell _).trans rfl;have y1:wx.cell? ⟨wr.heap.size,1,none⟩=some (.int .i64 xw):=(Bx.cell _).trans rfl;have y2:wx.cell? ⟨wr.heap.size,2,none⟩=some (.slice xA xo.path.length xc):=(Bx.cell _).trans rfl;have y3:wx.cell? ⟨wr.heap.size,3,none⟩=some (.string xo.word):=(Bx.cell _).trans rfl;have y4:wx.cell? ⟨wr.heap.size,4,none⟩=some (.int .i64 xo.bit):=(Bx.cell _).trans rfl;have y5:wx.cell? ⟨wr.heap.size,5,none⟩=some (.int .i64 xo.n):=(Bx.cell _).trans rfl;have y6:wx.cell? ⟨wr.heap.size,6,none⟩=some (.string xo.text):=(Bx.cell _).trans rfl;have Bpx:=Bp.below hbx;have HBx:=Zhd (Zaa hb hbx);have hPx:=hP.below hbx;have hokn:=hok.mono (u:=((100+(k+1):Nat):Int)) (by omega)
    by_cases hskip:xw=0∨xo.kind=15
    · have HA7:Hid (Lk w w5.heap.size (k+1) wx):=⟨C,S,Bpx,hPx,hokn,hl1,HBx.out⟩;clear hb hbx Bp hP hOr hx HD hxo HA kl1 kl2 hok hokn hPx Bpx HBx Bx;rcases hskip with rfl|hkd
      · go_upto_region 11 with fail
        clear x0 x1 x2 x3 x4 x5 x6 hwx;go_wp2_with fail;go_roundw
        case rel=>exact⟨k+1,by omega,by go_num,HA7⟩
        case measure=>simp[intOf];omega
      · by_cases hw0:xw=0
        · subst hw0;clear hkd;go_upto_region 11 with fail
          clear x0 x1 x2 x3 x4 x5 x6 hwx;go_wp2_with fail;go_roundw
          case rel=>exact⟨k+1,by omega,by go_num,HA7⟩
          case measure=>simp[intOf];omega
        · have q1:(xw==0)=false:=Yai.2 hw0;rw[hkd]at x0 y0 hwx;clear hw0 hkd;go_upto_region 11 with fail
          clear x0 x1 x2 x3 x4 x5 x6 hwx;go_wp2_with fail;go_roundw
          case rel=>exact⟨k+1,by omega,by go_num,HA7⟩
          case measure=>simp[intOf];omega
    · have q1:(xw==0)=false:=Yai.2 fun e=>hskip (.inl e)
      have q2:(xo.kind==15)=false:=Yai.2 fun e=>hskip (.inr e)
      have HDx:=Zhd (HD.out wx hbx);have hst:=(Zhf hok xo xw).1;have hlk:=Zakb hl1 xo (who:=xw) (fun e=>hskip (.inl e)) (fun e=>hskip (.inr e))
      generalize doS S xo xw=z at *;obtain⟨S2,ze,zn⟩:=z;obtain⟨k1,k2,k3,k4⟩:=hlk;have hcs:=hP.size;have hns:=hP.nostr;have HST:Hid (PsOk (100+k:Nat) S∧PsOk (100+(k+1):Nat) S2∧S2.run=S.run∧Zav S2=Zav S∧S2.lock=1∧(5≤xo.kind∧xo.kind≤12∨xo.kind=14→ze≠0)):=⟨hok,hst,k1,by unfold Zav;rw[show S2.revs=S.revs from k2],k3,k4⟩
      clear hb hbx Bp hP hOr hx HD hxo HA kl1 kl2 hok hokn hst k1 k2 k3 k4 hskip hl1;go_upto_region 12 with fail
      clear x0 x1 x2 x3 x4 x5 x6;refine wp_region_lit ?_;refine wpList_load_mid rfl 32 _ rfl w5.heap.size 0 (by rfl) C.toList _ Bpx.range underlying32 rfl (by rw[Yav,hcs];exact Zai) ?_
      rw[show C.toList.toArray=C from rfl];try simp only[Act.put,Yaa,Yab,Yac]
      go_wp2_with fail;go_at_call 11;refine HDx.out.mono ?_;rintro e w9 ⟨⟨v9,rfl,hv9⟩,hb9⟩;obtain⟨C2,rfl,hC2⟩:=hv9.cells;have hc2:=hC2.size;rename_i hKx;refine hKx _ _ ?_;clear hKx;try simp only[Act.put,Yaa,Yab,Yac]
      refine Zcj (v:= .tuple #[.agg C2, .agg #[.int .i64 ze, .int .i64 zn]]) rfl (by rfl) ?_
      try simp only[Act.put,Yaa,Yab,Yac]
      refine Zgv (C:=C2) (R:= #[.int .i64 ze, .int .i64 zn]) hc2 hC2.one rfl rfl (by rfl) (by rfl) (by rfl) (by rfl) (by rfl) (by rfl) ?_
      intro wa hbw B7 B8;have hb6:=Zaa hb9 hbw;have B4:=Bpx.below hb6;have B5:=Bx.below hb6;have hC6:=hC2.below hbw;have hP6:=hPx.below hb6;have HB6:=Zhd (Zaa HBx.out hb6);have hn1:w5.heap.size<w9.heap.size:=by have:=Bpx.lt;have:=hb9.size;omega
      clear hb9 hbw hb6 Bpx hC2 HBx HDx hPx y0 y1 y2 y3 y4 y5 y6 Bx hwx;try simp only[Act.put,Yaa,Yab,Yac]
      go_upto_region 13 with fail
      go_cut [87] (fun v wx=>v= .bool false∧Hid (Below wa.heap.size wa wx))
      case first=>
       obtain⟨v0,e0,l0⟩:=hC6.run;obtain⟨v1,e1,l1⟩:=hP6.run;have h5:=HST.out.1.len5;have h52:=HST.out.2.1.len5;have el:=hC6.lock;have e3:=HST.out.2.2.1;have e4:=HST.out.2.2.2.1;have e5:=HST.out.2.2.2.2.1;rw[e5]at el;have e3':S2.run=S.run:=e3;rw[e3']at l0;obtain⟨A0,n0,c0,rfl⟩:=l0.slice;obtain⟨A1,n1,c1,rfl⟩:=l1.slice;have hQ4: ∀ w',(∃ p:Regrown,w'=grow (redrawn wa p.d) p.os)→Bl w' w5.heap.size C 32:=fun w' ⟨p,e⟩=>by rw[e];exact B4.below (below_regrown wa p.d p.os)
       have hQ7: ∀ w',(∃ p:Regrown,w'=grow (redrawn wa p.d) p.os)→Bl w' w9.heap.size C2 32:=fun w' ⟨p,e⟩=>by rw[e];exact B7.below (below_regrown wa p.d p.os)
       have y1: ∀ d os,(grow (redrawn wa d) os).cell? ⟨w9.heap.size,0,none⟩=some (.slice A0 n0 c0):=fun d os=>cell_regrown ((B7.cell _).trans e0) d os
       have y2: ∀ d os,(grow (redrawn wa d) os).cell? ⟨w5.heap.size,0,none⟩=some (.slice A1 n1 c1):=fun d os=>cell_regrown ((B4.cell _).trans e1) d os
       have y3: ∀ d os,(grow (redrawn wa d) os).cell? ⟨w9.heap.size,11,none⟩=some (.int .i64 1):=fun d os=>cell_regrown ((B7.cell _).trans el) d os
       have hSm:=fun(d:Nat) (os:Array Obj)=>Calls.regrown_of (Zih (.slice A0 n0 c0) (.slice A1 n1 c1) S.run (grow (redrawn wa d) os) (l0.below (below_regrown wa d os)) (l1.below (below_regrown wa d os)))
       have hLp:=fun(d:Nat) (os:Array Obj)=>Calls.regrown_of (Zjy C S (grow (redrawn wa d) os) (hP6.below (below_regrown wa d os)) h5)
       have hLq:=fun(d:Nat) (os:Array Obj)=>Calls.regrown_of (Zjy C2 S2 (grow (redrawn wa d) os) (hC6.below (below_regrown wa d os)) h52)
       rw[e4]at hLq;generalize Zav S=l at *;have g3:(l !=l)=false:=bne_self_eq_false _;clear l0 l1 e0 e1 el e3 e3' e4 e5 h5 h52 hC6 hP6 B5;refine wp_region_quiet_below (by kernel_rfl) (by kernel_rfl) ?_
       repeat (first
        |go_big_quiet_skip
        |(go_big_quiet_want;refine Zue (b:=w5.heap.size) (D:=C) rfl (by rfl) hQ4 hcs ?_;try simp only[Act.put,Yaa,Yab,Yac];go_big_quiet_on)
        |(go_big_quiet_want;refine Zue (b:=w9.heap.size) (D:=C2) rfl (by rfl) hQ7 hc2 ?_;try simp only[Act.put,Yaa,Yab,Yac];go_big_quiet_on)
        |(go_big_quiet_want;go_big_quiet_op;first|go_big_quiet_on|go_big_quiet_call (first|(go_at_call 12;with_reducible exact hSm _ _)|(go_at_call 18;with_reducible exact hLq _ _)|(go_at_call 18;with_reducible exact hLp _ _))))
       refine wpQuiet_nil ?_;intro wq hw';obtain⟨⟨dq,osq⟩,hw''⟩:=hw';have HBq:Hid (Below wa.heap.size wa wq):=by show Below _ _ _;rw[hw''];exact below_regrown wa dq osq
       clear hw'';go_wp2_with fail;go_meet;exact⟨rfl,HBq⟩
      obtain⟨rfl,HBc⟩:=hcut;have B4c:=B4.below HBc.out;have B7c:=B7.below HBc.out;have B5c:=B5.below HBc.out;have B8c:=B8.below HBc.out;have hCc:=hC6.below HBc.out;have HBd:=Zhd (Zaa HB6.out HBc.out);have y0:wc.cell? ⟨wr.heap.size,0,none⟩=some (.int .i64 xo.kind):=(B5c.cell _).trans rfl;have z0:wc.cell? ⟨w9.heap.size+1,0,none⟩=some (.int .i64 ze):=(B8c.cell _).trans rfl;clear B4 B7 B8 B5 hC6 hP6 HBc HB6;generalize hwb:wc=wb at *;clear hwb;go_upto_region 15 with fail
      go_cut [110] (fun v wx=>v= .bool false∧wx=wb)
      case first=>
       have hk4:=HST.out.2.2.2.2.2;by_cases q3:(5:Int)≤xo.kind
       · by_cases q4:xo.kind≤12
         · have q5:(ze==0)=false:=Yai.2 (hk4 (.inl ⟨q3,q4⟩));have q6:(xo.kind==14)=false:=Yai.2 (by omega)
           clear hk4;go_wp2_with fail;go_meet;exact⟨rfl,rfl⟩
         · by_cases q7:xo.kind=14
           · have q5:(ze==0)=false:=Yai.2 (hk4 (.inr q7));have q6:(xo.kind==14)=true:=beq_iff_eq.2 q7;clear hk4 q7;go_wp2_with fail;go_meet;exact⟨rfl,rfl⟩
           · have q6:(xo.kind==14)=false:=Yai.2 q7;clear hk4 q7;go_wp2_with fail;go_meet;exact⟨rfl,rfl⟩
       · have q6:(xo.kind==14)=false:=Yai.2 (by omega)
         clear hk4;go_wp2_with fail;go_meet;exact⟨rfl,rfl⟩
      obtain⟨rfl,rfl⟩:=hcut;clear y0 z0;go_upto_region 17 with fail
      refine wp_region_lit ?_;refine Zpt B7c hc2 hCc.one B4c hcs (by rfl) (by rfl) (by rfl) ?_
      intro W'' hoff hbel Bp7;have HA7:Hid (Lk w w5.heap.size (k+1) W''):=⟨C2,S2,Bp7,hCc.off B4c (by decide) hns hoff,HST.out.2.1,HST.out.2.2.2.2.1,hbel _ hgw HBd.out⟩
      try simp only[Act.put,Yaa,Yab,Yac]
      go_wp2_with fail;go_roundw
      case rel=>exact⟨k+1,by omega,by go_num,HA7⟩
      case measure=>simp[intOf];omega
  · obtain rfl:k=m:=by omega
    obtain⟨C,S,-,-,-,-,hb⟩:=HA.out;have HB6:=Zhd hb;clear hb HA;go_wp2_with fail;refine(HAW.out _ HB6.out).mono ?_;rintro e w9 ⟨rfl,hb9⟩;have HB:=Zhd (Zaa HB6.out hb9);clear hb9;go_wp2_with fail;go_ret;exact⟨rfl,HB.out⟩
end Go.Proofs.Zq
