import Derived.Test.YtkbojechhmmkcaaGreatDoorJ33
import Derived.Test.YtkbojechhmmkcaaGreatDoorJ32
set_option linter.unusedVariables false
set_option linter.unusedSimpArgs false
set_option maxHeartbeats 2000000
set_option maxRecDepth 100000
namespace Edt
open Go Go.Lib Tre Sch Lns Go.Proofs.Zq
def opOk (o:Opp):Bool:=Zii o.path&&decide (o.word.size≤100)&&decide (o.text.size≤400)
def fewO (L:List OpM) (most:Nat):Int:=if(L.take most).all (fun x=>opOk x.o)then((min L.length most:Nat):Int)else -1
theorem Zvl {L:List OpM} {m:Nat} (h:fewO L m<0):fewO L m= -1:=by
 unfold fewO at h⊢;split
 · rename_i h1;rw[Yan h1]at h;omega
 · rfl
theorem Zaqd {L:List OpM} {m:Nat} (h: ¬ fewO L m<0):fewO L m=((min L.length m:Nat):Int)∧ ∀ x∈L.take m,opOk x.o=true:=by
 unfold fewO at h⊢;split
 · rename_i h1;exact⟨rfl,fun x hx=>Ybq.1 h1 x hx⟩
 · rename_i h1;rw[Yad h1]at h;exact absurd (by decide) h
end Edt
namespace Go.Proofs.Zq
open Tryz
open Go Go.RowKit Go.Sort Tre Edt
theorem Zwo {a b:Int} (h:a=b):Ending.returned (.int .i64 b)= .returned (.int .i64 a):=by rw[h]
theorem Ops.at {w:World} {A:Option Addr} {L:List OpM} (h:Ops w A L) {k:Nat} (hk:k<L.length): ∃ b o,A=some ⟨b,o,none⟩∧b<w.heap.size∧ ∀ j,j<7→w.cell? ⟨b,o+k*7+j,none⟩=(L[k].cells)[j]?:=by
 obtain⟨ad,e,hb,hx⟩:=h.1.2 (by omega)
 have hl:(opcs L).length=L.length*7:=Zix L;have hsp:ad.spot=none:=by
  have h0:=hx 0 _ (show(opcs L)[0]?=some _ from(Zwi L 0 0 (by omega) (by decide)).trans rfl)
  have h2:=World.cell?_spot h0;have h3:ad.add 0=ad:=by simp[Addr.add]
  rwa [h3]at h2
 obtain⟨b,o,sp⟩:=ad;obtain rfl:sp=none:=hsp;refine⟨b,o,e,hb,fun j hj=> ?_⟩
 have hg:=Zwi L k j hk hj;have hs: ∃ u,(L[k].cells)[j]?=some u:=⟨_,Yaj (show j<L[k].cells.length from hj)⟩
 obtain⟨u,hu⟩:=hs;have:=hx (k*7+j) u (hg.trans hu);rw[Zag]at this;rw[hu,←this,Ydh]
theorem Zvk (A:Option Addr) (c:Nat) (L:List OpM) (most:Nat) (w:World) (hO:Ops w A L) (hc:L.length≤c) (hm:c≤maxLen) (h1000:most≤1000):
 Calls prog 8 #[.slice A L.length c, .int .i64 (most:Nat)] w fun e w'=>e= .returned (.int .i64 (fewO L most))∧Below w.heap.size w w':=by
 unfold maxLen at hm;have HO:=Zhd hO;obtain⟨n,hn⟩: ∃ n,min L.length most=n:=⟨_,rfl⟩;have hnl:n≤L.length:=by omega
 have hmin:min (L.length:Int) (most:Int)=(n:Int):=by omega
 have HX:Hid (fewO L most=if(L.take n).all (fun x=>opOk x.o)then(n:Int)else -1):=by
  show _=_;unfold fewO;rw[hn,←hn,show L.take (min L.length most)=L.take most by rw[List.take_eq_take_iff];omega]
 have hn0:(0:Int)≤(n:Int):=by omega
 have hnI:(n:Int)≤(L.length:Int):=by omega
 have hcI:(L.length:Int)≤(c:Int):=by omega
 clear hO hn;go_enter func8,ntmps8;go_wp2_with fail;go_loopw [16] (fun vk W=> ∃ k:Nat,k≤n∧vk= .int .i64 k∧Hid (fewO L most=if((L.take n).drop k).all (fun x=>opOk x.o)then(n:Int)else -1)∧Hid (Below w.heap.size w W)) (fun vk _=>n-(intOf vk).toNat)
 case atStart=>exact⟨0,Yao _,rfl,HX,Yae _ _⟩
 case round=>
  clear HX;obtain⟨k,hk,rfl,HQ,HB⟩:=hrel;by_cases hlt:k<n
  · have hkl:k<L.length:=by omega
    obtain⟨b,o,rfl,hb,hx⟩:=(HO.out.below HB.out).at hkl;have hok:=(HO.out.below HB.out).2 L[k] (Yau hkl)
    have hst:Hid (fewO L most=if(opOk L[k].o&&((L.take n).drop (k+1)).all (fun x=>opOk x.o))=true then(n:Int)else -1):=by
     show _=_;rw[HQ.out,Yay (by rw[Yaf];omega),Ycu,Ycs]
    generalize L[k]=x at *;obtain⟨⟨kd,pp,wd,bt,nn,tx⟩,who,Ap,cp⟩:=x;obtain⟨hp1,hp2,hp3,-⟩:=hok;have x0:wr.cell? ⟨b,o+k*7,none⟩=some (.int .i64 kd):=hx 0 (by decide)
    have x1:wr.cell? ⟨b,o+k*7+1,none⟩=some (.int .i64 who):=hx 1 (by decide)
    have x2:wr.cell? ⟨b,o+k*7+2,none⟩=some (.slice Ap pp.length cp):=hx 2 (by decide)
    have x3:wr.cell? ⟨b,o+k*7+3,none⟩=some (.string wd):=hx 3 (by decide)
    have x4:wr.cell? ⟨b,o+k*7+4,none⟩=some (.int .i64 bt):=hx 4 (by decide)
    have x5:wr.cell? ⟨b,o+k*7+5,none⟩=some (.int .i64 nn):=hx 5 (by decide)
    have x6:wr.cell? ⟨b,o+k*7+6,none⟩=some (.string tx):=hx 6 (by decide)
    obtain⟨w5,hw5⟩: ∃ x,wr.alloc (.cells #[.int .i64 kd, .int .i64 who, .slice Ap pp.length cp, .string wd, .int .i64 bt, .int .i64 nn, .string tx] 36)=x:=⟨_,rfl⟩;have hb5:Below wr.heap.size wr w5:=by rw[←hw5];exact(Yae _ _).alloc (Yag _) _
    have HX5:Hid (Bl w5 wr.heap.size #[.int .i64 kd, .int .i64 who, .slice Ap pp.length cp, .string wd, .int .i64 bt, .int .i64 nn, .string tx] 36):=by show Bl _ _ _ _;rw[←hw5];exact Bl.new _ _ _
    have HB5:=Zhd (Zaa HB.out hb5);have HS:=Zhd (Zans Ap cp pp w5 (hp1.below hb5) hp2 hp3);have y2:w5.cell? ⟨wr.heap.size,2,none⟩=some (.slice Ap pp.length cp):=(HX5.out.cell 2).trans rfl;have hki:(k:Int)<(n:Int):=by omega
    clear hp1 hx hb5 HQ;cases hs:Zii pp with
    | false=>
      rw[hs]at HS;have HN:Hid (fewO L most= -1):=by show _=_;rw[hst.out,Yad (by unfold opOk;simp only;rw[hs];simp)]
      clear hst hs;go_wp2_with fail;refine HS.out.mono ?_;rintro e w6 ⟨rfl,hb6⟩;have HB6:=Zhd (Zaa HB5.out hb6);clear hb6;go_wp2_with fail;go_ret;exact⟨Zwo HN.out,HB6.out⟩
    | true =>
      rw[hs]at HS;by_cases h1:100<wd.size
      · have HN:Hid (fewO L most= -1):=by show _=_;rw[hst.out,Yad (by unfold opOk;simp only;rw[Yah (show ¬ wd.size≤100 by omega)];simp)]
        have h1I:(100:Int)<(wd.size:Int):=by omega
        clear hst hs;go_wp2_with fail;refine HS.out.mono ?_;rintro e w6 ⟨rfl,hb6⟩;have y3:w6.cell? ⟨wr.heap.size,3,none⟩=some (.string wd):=((HX5.out.below hb6).cell 3).trans rfl;have HB6:=Zhd (Zaa HB5.out hb6);clear hb6;go_wp2_with fail;go_ret;exact⟨Zwo HN.out,HB6.out⟩
      · have h1I: ¬ (100:Int)<(wd.size:Int):=by omega
        by_cases h2:400<tx.size
        · have HN:Hid (fewO L most= -1):=by show _=_;rw[hst.out,Yad (by unfold opOk;simp only;rw[Yah (show ¬ tx.size≤400 by omega)];simp)]
          have h2I:(400:Int)<(tx.size:Int):=by omega
          clear hst hs;go_wp2_with fail;refine HS.out.mono ?_;rintro e w6 ⟨rfl,hb6⟩;have y3:w6.cell? ⟨wr.heap.size,3,none⟩=some (.string wd):=((HX5.out.below hb6).cell 3).trans rfl;have y6:w6.cell? ⟨wr.heap.size,6,none⟩=some (.string tx):=((HX5.out.below hb6).cell 6).trans rfl;have HB6:=Zhd (Zaa HB5.out hb6);clear hb6;go_wp2_with fail;go_ret;exact⟨Zwo HN.out,HB6.out⟩
        · have h2I: ¬ (400:Int)<(tx.size:Int):=by omega
          have HN:Hid (fewO L most=if((L.take n).drop (k+1)).all (fun x=>opOk x.o)=true then(n:Int)else -1):=by
           show _=_;rw[hst.out];unfold opOk;simp only;rw[hs,Yal (show wd.size≤100 by omega),Yal (show tx.size≤400 by omega)]
           rfl
          clear hst hs;go_wp2_with fail;refine HS.out.mono ?_;rintro e w6 ⟨rfl,hb6⟩;have y3:w6.cell? ⟨wr.heap.size,3,none⟩=some (.string wd):=((HX5.out.below hb6).cell 3).trans rfl;have y6:w6.cell? ⟨wr.heap.size,6,none⟩=some (.string tx):=((HX5.out.below hb6).cell 6).trans rfl;have HB6:=Zhd (Zaa HB5.out hb6);clear hb6;go_wp2_with fail;go_roundw
          case rel=>exact⟨k+1,by omega,by go_num,HN,HB6⟩
          case measure=>simp[intOf];omega
  · have HN:Hid (fewO L most=(n:Int)):=by show _=_;rw[HQ.out,Ybe (by rw[Yaf];omega)];rfl
    have hke:k=n:=by omega
    subst hke;go_wp2_with fail;go_ret;exact⟨Zwo HN.out,HB.out⟩
open Lx Prs Lns Sch
theorem Zays:(doS (awS 3) (opA 15 5 ⟨#[]⟩) 0).2.2=2:=aw_5
def Aw (w:World) (b1 b2 k:Nat) (W:World):Prop:= ∃ C,Bl W b1 C 32∧PlC W C (awS k)∧Bl W b2 (opcs opsA).toArray 36∧Below w.heap.size w W
theorem Zamt (w:World):PlC w zcc Zej where
 size:=rfl
 run:=⟨_,rfl,Zcu w⟩
 revs:=⟨none,0,0,rfl,Yag _,Yao _,fun _=>rfl,[],rfl,rfl,Rd.nil,fun _ h=>(Yby h).elim,fun _ h=>by cases h⟩
 opn:=of3 rfl rfl rfl
 base:=of3 ⟨_,rfl,Zcu w⟩ ⟨_,rfl,Zcu w⟩ ⟨_,rfl,Zcu w⟩
 mine:=of3 ⟨_,rfl,Zcu w⟩ ⟨_,rfl,Zcu w⟩ ⟨_,rfl,Zcu w⟩
 lock:=rfl
 clock:=rfl
 dead:=rfl
 back:=⟨_,rfl,Zcu w⟩
theorem Zawa: ∀ k (h:k<3),opsA[k].A=none∧opsA[k].o.path= []∧opsA[k].c=0∧opsA[k].o.text.size≤1000000
 |0,_=>⟨rfl,rfl,rfl,Yao _⟩
 |1,_=>⟨rfl,rfl,rfl,show 6≤1000000 by decide⟩
 |2,_=>⟨rfl,rfl,rfl,Yao _⟩
theorem Zxl (w:World) (hE:Env w):Calls prog 9 #[] w fun e w'=>e= .returned (.bool true)∧Below w.heap.size w w':=by
 have HN:=Zama w;go_enter func9,ntmps9;go_upto_region 1 with fail
 refine wp_region_lit ?_;go_wp2_with fail;go_at_call 20;refine HN.mono ?_;rintro e w1 ⟨rfl,hb1⟩;rename_i hKx;refine hKx _ _ ?_;clear hKx;try simp only[Act.put,Yaa,Yab,Yac]
 refine Zpv (C:=zcc) rfl rfl (by rfl) (by rfl) ?_
 intro w2 hb2 B1;have HB2:=Zhd (Zaa hb1 hb2);have hge:w.heap.size≤w1.heap.size:=hb1.size;clear hb1 hb2;try simp only[Act.put,Yaa,Yab,Yac]
 obtain⟨w3,hw3⟩: ∃ x,w2.alloc (.cells (opcs opsA).toArray 36)=x:=⟨_,rfl⟩;have hlit:(opcs opsA).toArray= #[.int .i64 1, .int .i64 0, .slice none 0 0, .string ⟨#[]⟩, .int .i64 0, .int .i64 0, .string ⟨#[]⟩, .int .i64 11, .int .i64 0, .slice none 0 0, .string ⟨#[]⟩, .int .i64 0, .int .i64 0, .string ⟨#[104,111,115,116,115,59]⟩, .int .i64 14, .int .i64 0, .slice none 0 0, .string ⟨#[]⟩, .int .i64 0, .int .i64 5, .string ⟨#[]⟩]:=rfl;have hs2:w1.heap.size<w2.heap.size:=B1.lt;have B3:Bl w3 w1.heap.size zcc 32:=by rw[←hw3];exact B1.alloc _
 have B3o:Bl w3 w2.heap.size (opcs opsA).toArray 36:=by rw[←hw3];exact Bl.new _ _ _
 have HB3:Hid (Below w.heap.size w w3):=by show Below _ _ _;rw[←hw3];exact HB2.out.alloc HB2.out.size _
 rw[hlit]at hw3;have HE:=Zhd (fun(W:World) (hb:Below w.heap.size w W)=>hE.below hb)
 have HL:Hid (Aw w w1.heap.size w2.heap.size 0 w3):=⟨zcc,B3,Zamt _,B3o,HB3.out⟩;clear B1 B3 B3o HB2 HB3 hlit hE HN;go_wp2_with fail;go_loopw [18] (fun vk W=> ∃ k:Nat,k≤3∧vk= .int .i64 k∧Hid (Aw w w1.heap.size w2.heap.size k W)) (fun vk _=>3-(intOf vk).toNat)
 case atStart=>exact⟨0,by decide,rfl,HL⟩
 case round=>
  clear HL;obtain⟨k,hk,rfl,HA⟩:=hrel;by_cases hlt:k<3
  · obtain⟨C,Bp,hP,Bo,hb⟩:=HA.out;have hO:=Zary Bo;obtain⟨b,o,hbo,hbl,hx⟩:=hO.at (k:=k) hlt;obtain⟨rfl,rfl⟩:w2.heap.size=b∧0=o:=by injection hbo with e;injection e with e1 e2;exact⟨e1,e2⟩
    have hxo:=hO.2 opsA[k] (Yau _);have HST:=Zhd (Zada k hlt);have HER:=Zhd (Zaur k hlt);have hx0:=Zawa k hlt;generalize opsA[k]=x at *;obtain⟨xo,xw,xA,xc⟩:=x;obtain⟨rfl,hp,rfl,htx⟩:=hx0;have x0:wr.cell? ⟨w2.heap.size,k*7,none⟩=some (.int .i64 xo.kind):=by simpa[OpM.cells]using hx 0 (by decide)
    have x1:wr.cell? ⟨w2.heap.size,k*7+1,none⟩=some (.int .i64 xw):=by simpa[OpM.cells]using hx 1 (by decide)
    have x2:wr.cell? ⟨w2.heap.size,k*7+2,none⟩=some (.slice none xo.path.length 0):=by simpa[OpM.cells]using hx 2 (by decide)
    have x3:wr.cell? ⟨w2.heap.size,k*7+3,none⟩=some (.string xo.word):=by simpa[OpM.cells]using hx 3 (by decide)
    have x4:wr.cell? ⟨w2.heap.size,k*7+4,none⟩=some (.int .i64 xo.bit):=by simpa[OpM.cells]using hx 4 (by decide)
    have x5:wr.cell? ⟨w2.heap.size,k*7+5,none⟩=some (.int .i64 xo.n):=by simpa[OpM.cells]using hx 5 (by decide)
    have x6:wr.cell? ⟨w2.heap.size,k*7+6,none⟩=some (.string xo.text):=by simpa[OpM.cells]using hx 6 (by decide)
    have hkI:(k:Int)<3:=by omega
    have HD:Hid (∀ W,Below wr.heap.size wr W→Calls prog 11 #[.agg C, .agg #[.int .i64 xo.kind, .int .i64 xw, .slice none xo.path.length 0, .string xo.word, .int .i64 xo.bit, .int .i64 xo.n, .string xo.text]] W (Zdk (doS (awS k) xo xw) W)):=fun W hb'=>
     Zgu C (awS k) xo xw none 0 W (hP.below hb') (HE.out _ (Zaa hb hb')) (hxo.1.below hb') hxo.2.1 hxo.2.2.1 (by rw[hp];decide) htx hxo.2.2.2 k (Zacz k (by omega)) (by omega)
    obtain⟨wx,hwx⟩: ∃ x,wr.alloc (.cells #[.int .i64 xo.kind, .int .i64 xw, .slice none xo.path.length 0, .string xo.word, .int .i64 xo.bit, .int .i64 xo.n, .string xo.text] 36)=x:=⟨_,rfl⟩;have hbx:Below wr.heap.size wr wx:=by rw[←hwx];exact(Yae _ _).alloc (Yag _) _
    have Bx:Bl wx wr.heap.size #[.int .i64 xo.kind, .int .i64 xw, .slice none xo.path.length 0, .string xo.word, .int .i64 xo.bit, .int .i64 xo.n, .string xo.text] 36:=by rw[←hwx];exact Bl.new _ _ _
    have y0:wx.cell? ⟨wr.heap.size,0,none⟩=some (.int .i64 xo.kind):=(Bx.cell _).trans rfl;have y1:wx.cell? ⟨wr.heap.size,1,none⟩=some (.int .i64 xw):=(Bx.cell _).trans rfl;have y2:wx.cell? ⟨wr.heap.size,2,none⟩=some (.slice none xo.path.length 0):=(Bx.cell _).trans rfl;have y3:wx.cell? ⟨wr.heap.size,3,none⟩=some (.string xo.word):=(Bx.cell _).trans rfl;have y4:wx.cell? ⟨wr.heap.size,4,none⟩=some (.int .i64 xo.bit):=(Bx.cell _).trans rfl;have y5:wx.cell? ⟨wr.heap.size,5,none⟩=some (.int .i64 xo.n):=(Bx.cell _).trans rfl;have y6:wx.cell? ⟨wr.heap.size,6,none⟩=some (.string xo.text):=(Bx.cell _).trans rfl;have Bpx:=Bp.below hbx;have Box:=Bo.below hbx;have HBx:=Zhd (Zaa hb hbx);have HDx:=Zhd (HD.out wx hbx);have hcs:=hP.size;have hns:=hP.nostr;clear hb hbx Bp Bo hP hO hx HD hxo HA hp htx;go_upto_region 5 with fail
    clear x0 x1 x2 x3 x4 x5 x6;refine wp_region_lit ?_;refine wpList_load_mid rfl 32 _ rfl w1.heap.size 0 (by rfl) C.toList _ Bpx.range underlying32 rfl (by rw[Yav,hcs];exact Zai) ?_
    rw[show C.toList.toArray=C from rfl];try simp only[Act.put,Yaa,Yab,Yac]
    go_wp2_with fail;go_at_call 11;refine HDx.out.mono ?_;rintro e w5 ⟨⟨v5,rfl,hv5⟩,hb5⟩;rw[←HST.out]at hv5;rw[HER.out];obtain⟨C2,rfl,hC2⟩:=hv5.cells;have hc2:=hC2.size;rename_i hKx;refine hKx _ _ ?_;clear hKx;try simp only[Act.put,Yaa,Yab,Yac]
    refine Zcj (v:= .tuple #[.agg C2, .agg #[.int .i64 0, .int .i64 (doS (awS k) xo xw).2.2]]) rfl (by rfl) ?_
    try simp only[Act.put,Yaa,Yab,Yac]
    refine Zgv (C:=C2) (R:= #[.int .i64 0, .int .i64 (doS (awS k) xo xw).2.2]) hc2 hC2.one rfl rfl (by rfl) (by rfl) (by rfl) (by rfl) (by rfl) (by rfl) ?_
    intro W' hbw B4 B5;have x0:W'.cell? ⟨w5.heap.size+1,0,none⟩=some (.int .i64 0):=(B5.cell _).trans rfl;have hb6:=Zaa hb5 hbw;have Bp6:=Bpx.below hb6;have Bo6:=Box.below hb6;have hC6:=hC2.below hbw;have HB6:=Zhd (Zaa HBx.out hb6);have hn1:w1.heap.size≠w2.heap.size:=by omega
    clear hb5 hbw hb6 Bpx Box hC2 B5 HBx HDx y0 y1 y2 y3 y4 y5 y6;try simp only[Act.put,Yaa,Yab,Yac]
    go_upto_region 8 with fail
    refine wp_region_lit ?_;refine Zpt B4 hc2 hC6.one Bp6 hcs (by rfl) (by rfl) (by rfl) ?_
    intro W'' hoff hbel Bp7;have HA7:Hid (Aw w w1.heap.size w2.heap.size (k+1) W''):=⟨C2,Bp7,hC6.off Bp6 (by decide) hns hoff,(hoff.2 _ (Ne.symm hn1) Bo6.lt).trans Bo6,hbel _ hge HB6.out⟩
    try simp only[Act.put,Yaa,Yab,Yac]
    go_wp2_with fail;go_roundw
    case rel=>exact⟨k+1,by omega,by go_num,HA7⟩
    case measure=>simp[intOf];omega
  · obtain rfl:k=3:=by omega
    obtain⟨C,Bp,hP,-,hb⟩:=HA.out;obtain⟨v0,e0,hl0⟩:=hP.run;obtain⟨A0,n0,rfl,-⟩:=id hl0;have hr0:awS3.run.length=1:=aw_4;rw[show(awS 3).run.length=1 from aw_4]at e0;have x0:wr.cell? ⟨w1.heap.size,0,none⟩=some (.slice A0 1 n0):=(Bp.cell 0).trans e0;have hcs:=hP.size;have HD:=Zhd (Zgu C (awS 3) (opA 15 5 ⟨#[]⟩) 0 none 0 wr hP (HE.out _ hb) Rd.nil (Yag _) (Yao _) (by decide) (by decide) (by decide) 3 (Zacz 3 (by decide)) (by decide))
    have HB:=Zhd hb;have hns:=hP.nostr;clear hb hl0 e0 hP HA;go_upto_region 11 with fail
    clear x0;refine wp_region_lit ?_;refine wpList_load_mid rfl 32 _ rfl w1.heap.size 0 (by rfl) C.toList _ Bp.range underlying32 rfl (by rw[Yav,hcs];exact Zai) ?_
    rw[show C.toList.toArray=C from rfl];try simp only[Act.put,Yaa,Yab,Yac]
    go_wp2_with fail;go_at_call 11;refine HD.out.mono ?_;rintro e w5 ⟨⟨v5,rfl,hv5⟩,hb5⟩;obtain⟨C2,rfl,hC2⟩:=hv5.cells;have hc2:=hC2.size;rw[show(doS (awS 3) (opA 15 5 ⟨#[]⟩) 0).1=awS4 from rfl]at hC2;rw[Zays];generalize (doS (awS 3) (opA 15 5 ⟨#[]⟩) 0).2.1=er;rename_i hKx;refine hKx _ _ ?_;clear hKx;try simp only[Act.put,Yaa,Yab,Yac]
    refine Zcj (v:= .tuple #[.agg C2, .agg #[.int .i64 er, .int .i64 2]]) rfl (by rfl) ?_
    try simp only[Act.put,Yaa,Yab,Yac]
    refine Zve (C:=C2) (R:= #[.int .i64 er, .int .i64 2]) (Z:=C) (q:=w1.heap.size) hc2 hC2.one rfl rfl (Bp.below hb5) hcs (by rfl) (by rfl) (by rfl) (by rfl) (by rfl) (by rfl) ?_
    intro w6 hoff hbel Bp6 Br6;have hwge:w.heap.size≤w5.heap.size:=Yas HB.out.size hb5.size;have HB6:=Zhd (hbel _ hge hwge (Zaa HB.out hb5));have hC6:PlC w6 C2 awS4:=hC2.off (Bp.below hb5) (by decide) hns hoff
    clear hb5 hbel hC2 HB HD Bp;try simp only[Act.put,Yaa,Yab,Yac]
    have HD2:=Zhd (Zgu C2 awS4 (opA 11 0 ⟨#[97,32,98]⟩) 0 none 0 w6 hC6 (HE.out _ HB6.out) Rd.nil (Yag _) (Yao _) (by decide) (by decide) (by decide) 4 Zql (by decide))
    go_upto_region 12 with fail
    refine wp_region_lit ?_;refine wpList_load_mid rfl 32 _ rfl w1.heap.size 0 (by rfl) C2.toList _ Bp6.range underlying32 rfl (by rw[Yav,hc2];exact Zai) ?_
    rw[show C2.toList.toArray=C2 from rfl];try simp only[Act.put,Yaa,Yab,Yac]
    go_wp2_with fail;go_at_call 11;refine HD2.out.mono ?_;rintro e w7 ⟨⟨v7,rfl,hv7⟩,hb7⟩;obtain⟨C3,rfl,hC3⟩:=hv7.cells;have hc3:=hC3.size;rw[aw_8];rename_i hKx;refine hKx _ _ ?_;clear hKx;try simp only[Act.put,Yaa,Yab,Yac]
    refine Zcj (v:= .tuple #[.agg C3, .agg #[.int .i64 2, .int .i64 2]]) rfl (by rfl) ?_
    try simp only[Act.put,Yaa,Yab,Yac]
    refine Zgv (C:=C3) (R:= #[.int .i64 2, .int .i64 2]) hc3 hC3.one rfl rfl (by rfl) (by rfl) (by rfl) (by rfl) (by rfl) (by rfl) ?_
    intro w8 hb8 _ Br8;have hb68:=Zaa hb7 hb8;have Bp8:=Bp6.below hb68;have Bq8:=Br6.below hb68;have HB8:=Zhd (Zaa HB6.out hb68);have hC8:=hC6.below hb68;clear hb7 hb8 hb68 hC3 HD2 HB6 Bp6 Br6 hC6;try simp only[Act.put,Yaa,Yab,Yac]
    have HD3:=Zhd (Zgu C2 awS4 (opA 3 0 ⟨#[]⟩) 1 none 0 w8 hC8 (HE.out _ HB8.out) Rd.nil (Yag _) (Yao _) (by decide) (by decide) (by decide) 4 Zql (by decide))
    go_upto_region 13 with fail
    refine wp_region_lit ?_;refine wpList_load_mid rfl 32 _ rfl w1.heap.size 0 (by rfl) C2.toList _ Bp8.range underlying32 rfl (by rw[Yav,hc2];exact Zai) ?_
    rw[show C2.toList.toArray=C2 from rfl];try simp only[Act.put,Yaa,Yab,Yac]
    go_wp2_with fail;go_at_call 11;refine HD3.out.mono ?_;rintro e w9 ⟨⟨v9,rfl,hv9⟩,hb9⟩;obtain⟨C4,rfl,hC4⟩:=hv9.cells;have hc4:=hC4.size;rw[aw_9];generalize (doS awS4 (opA 3 0 ⟨#[]⟩) 1).2.2=en;rename_i hKx;refine hKx _ _ ?_;clear hKx;try simp only[Act.put,Yaa,Yab,Yac]
    refine Zcj (v:= .tuple #[.agg C4, .agg #[.int .i64 3, .int .i64 en]]) rfl (by rfl) ?_
    try simp only[Act.put,Yaa,Yab,Yac]
    refine Zgv (C:=C4) (R:= #[.int .i64 3, .int .i64 en]) hc4 hC4.one rfl rfl (by rfl) (by rfl) (by rfl) (by rfl) (by rfl) (by rfl) ?_
    intro wa hb9a _ Bs;have hb8a:=Zaa hb9 hb9a;have Bpa:=Bp8.below hb8a;have Bqa:=Bq8.below hb8a;have Bra:=Br8.below hb8a;have HBa:=Zhd (Zaa HB8.out hb8a);have hCa:=hC8.below hb8a;clear hb9 hb9a hb8a hC4 HD3 HB8 Bp8 Bq8 Br8 hC8;try simp only[Act.put,Yaa,Yab,Yac]
    obtain⟨va,ea,hla⟩:=hCa.run;obtain⟨A9,n9,rfl,-⟩:=id hla;rw[show awS4.run.length=0 from aw_6]at ea;have p0:wa.cell? ⟨w1.heap.size,0,none⟩=some (.slice A9 0 n9):=(Bpa.cell 0).trans ea;obtain⟨a0,a1,a2,a3,a4,a5,a6,a7,a8,a9,aa,ab,ac,ad,ae,rfl⟩:=Zayr hc2;obtain rfl:a0= .slice A9 0 n9:=by injection ea
    have p1:wa.cell? ⟨w1.heap.size,1,none⟩=some a1:=(Bpa.cell _).trans rfl;have p2:wa.cell? ⟨w1.heap.size,2,none⟩=some a2:=(Bpa.cell _).trans rfl;have p3:wa.cell? ⟨w1.heap.size,3,none⟩=some a3:=(Bpa.cell _).trans rfl;have p4:wa.cell? ⟨w1.heap.size,4,none⟩=some a4:=(Bpa.cell _).trans rfl;have p5:wa.cell? ⟨w1.heap.size,5,none⟩=some a5:=(Bpa.cell _).trans rfl;have p6:wa.cell? ⟨w1.heap.size,6,none⟩=some a6:=(Bpa.cell _).trans rfl;have p7:wa.cell? ⟨w1.heap.size,7,none⟩=some a7:=(Bpa.cell _).trans rfl;have p8:wa.cell? ⟨w1.heap.size,8,none⟩=some a8:=(Bpa.cell _).trans rfl;have p9:wa.cell? ⟨w1.heap.size,9,none⟩=some a9:=(Bpa.cell _).trans rfl;have pa:wa.cell? ⟨w1.heap.size,10,none⟩=some aa:=(Bpa.cell _).trans rfl;have pb:wa.cell? ⟨w1.heap.size,11,none⟩=some ab:=(Bpa.cell _).trans rfl;have pc:wa.cell? ⟨w1.heap.size,12,none⟩=some ac:=(Bpa.cell _).trans rfl;have pd:wa.cell? ⟨w1.heap.size,13,none⟩=some ad:=(Bpa.cell _).trans rfl;have pe:wa.cell? ⟨w1.heap.size,14,none⟩=some ae:=(Bpa.cell _).trans rfl;have q1:wa.cell? ⟨w5.heap.size,1,none⟩=some (.int .i64 2):=(Bqa.cell _).trans rfl;have r0:wa.cell? ⟨w7.heap.size+1,0,none⟩=some (.int .i64 2):=(Bra.cell _).trans rfl;have r1:wa.cell? ⟨w7.heap.size+1,1,none⟩=some (.int .i64 2):=(Bra.cell _).trans rfl;have s0:wa.cell? ⟨w9.heap.size+1,0,none⟩=some (.int .i64 3):=(Bs.cell _).trans rfl;have HF:Hid (∀ W,Below wa.heap.size wa W→W.cell? ⟨w1.heap.size,0,none⟩=some (.slice A9 0 n9)∧W.cell? ⟨w1.heap.size,1,none⟩=some (a1)∧W.cell? ⟨w1.heap.size,2,none⟩=some (a2)∧W.cell? ⟨w1.heap.size,3,none⟩=some (a3)∧W.cell? ⟨w1.heap.size,4,none⟩=some (a4)∧W.cell? ⟨w1.heap.size,5,none⟩=some (a5)∧W.cell? ⟨w1.heap.size,6,none⟩=some (a6)∧W.cell? ⟨w1.heap.size,7,none⟩=some (a7)∧W.cell? ⟨w1.heap.size,8,none⟩=some (a8)∧W.cell? ⟨w1.heap.size,9,none⟩=some (a9)∧W.cell? ⟨w1.heap.size,10,none⟩=some (aa)∧W.cell? ⟨w1.heap.size,11,none⟩=some (ab)∧W.cell? ⟨w1.heap.size,12,none⟩=some (ac)∧W.cell? ⟨w1.heap.size,13,none⟩=some (ad)∧W.cell? ⟨w1.heap.size,14,none⟩=some (ae)∧W.cell? ⟨w7.heap.size+1,0,none⟩=some (.int .i64 2)∧W.cell? ⟨w7.heap.size+1,1,none⟩=some (.int .i64 2)∧W.cell? ⟨w9.heap.size+1,0,none⟩=some (.int .i64 3)):=fun W hb=>⟨((Bpa.below hb).cell _).trans rfl,((Bpa.below hb).cell _).trans rfl,((Bpa.below hb).cell _).trans rfl,((Bpa.below hb).cell _).trans rfl,((Bpa.below hb).cell _).trans rfl,((Bpa.below hb).cell _).trans rfl,((Bpa.below hb).cell _).trans rfl,((Bpa.below hb).cell _).trans rfl,((Bpa.below hb).cell _).trans rfl,((Bpa.below hb).cell _).trans rfl,((Bpa.below hb).cell _).trans rfl,((Bpa.below hb).cell _).trans rfl,((Bpa.below hb).cell _).trans rfl,((Bpa.below hb).cell _).trans rfl,((Bpa.below hb).cell _).trans rfl,((Bra.below hb).cell _).trans rfl,((Bra.below hb).cell _).trans rfl,((Bs.below hb).cell _).trans rfl⟩
    have HLA:Hid (∀ W,Below wa.heap.size wa W→_):=fun W hb=>Zjy _ awS4 W (hCa.below hb) Zql.len5
    rw[aw_7]at HLA;have HCO:=Zhd (fun(W:World) (hb:Below wa.heap.size wa W)=>Zaaj _ awS4 0 W (hCa.below hb) Zql.run Zql.mine)
    clear hCa Bpa Bqa Bra Bs hla ea;go_wp2_with fail;refine(HLA.out _ (Yae _ _)).mono ?_;rintro e wb ⟨rfl,hbb⟩;clear p0 p1 p2 p3 p4 p5 p6 p7 p8 p9 pa pb pc pd pe r0 r1 s0 q1;obtain⟨p0,p1,p2,p3,p4,p5,p6,p7,p8,p9,pa,pb,pc,pd,pe,r0,r1,s0⟩:=HF.out wb hbb;go_wp2_with fail;refine(HCO.out _ hbb).mono ?_;rintro e wc ⟨⟨v,Q,rfl,hQ,hmq⟩,hbc⟩;have hq1:Q.length=1:=by rw[←aw_a,←hmq,Yaz]
    obtain⟨Aq,cq,rfl,-⟩:=Zcv hQ.1;rw[hq1];have HBc:=Zhd (Zaa HBa.out (Zaa hbb hbc));clear p0 p1 p2 p3 p4 p5 p6 p7 p8 p9 pa pb pc pd pe r0 r1 s0 hQ hmq hbb hbc;go_wp2_with fail;go_ret;exact⟨rfl,HBc.out⟩
end Go.Proofs.Zq
namespace Edt
open Go Go.Lib Tre Sch Lns Prs Go.Proofs.Zq
theorem Zaay {S:Ps} {k:Nat} (h:S.lock=1) (hk:k≠0) (kind:Int):(Zfv S kind k).1.run=S.run∧(Zfv S kind k).1.revs=S.revs∧(Zfv S kind k).1.lock=1:=by
 have hr: ∀ x,(S.setSes k x).run=S.run∧(S.setSes k x).revs=S.revs∧(S.setSes k x).lock=1:=fun x=>by
  obtain⟨f0,f1,f2,-⟩:=Zbd S k x;exact⟨f0,f1,f2.trans h⟩
 unfold Zfv;split
 · split
   · exact⟨rfl,rfl,h⟩
   · exact hr _
 · split
   · refine⟨(hr _).1,(hr _).2.1, ?_⟩;show(if S.lock=(k:Int)+1 then 0 else S.lock)=1
     rw[Yad (by omega),h]
   · split
     · rw[Yan (by omega)];exact⟨rfl,rfl,h⟩
     · split
       · rw[Yan (by omega)];exact⟨rfl,rfl,h⟩
       · exact⟨rfl,rfl,h⟩
theorem Zakb {S:Ps} (h:S.lock=1) (o:Opp) {who:Int} (hw:who≠0) (hk:o.kind≠15):
 (doS S o who).1.run=S.run∧(doS S o who).1.revs=S.revs∧(doS S o who).1.lock=1∧(5≤o.kind∧o.kind≤12∨o.kind=14→(doS S o who).2.1≠0):=by
 unfold doS;rw[Yad hk];split
 · exact⟨rfl,rfl,h,fun _=>show(1:Int)≠0 by decide⟩
 · split
   · exact⟨rfl,rfl,h,fun _=>show(3:Int)≠0 by decide⟩
   · split
     · obtain⟨a,b,c⟩:=Zaay h (show who.toNat≠0 by omega) o.kind
       exact⟨a,b,c,fun hx=>by omega⟩
     · split
       · exact⟨rfl,rfl,h,fun hx=>by omega⟩
       · rw[Yan (by omega)];exact⟨rfl,rfl,h,fun _=>show(9:Int)≠0 by decide⟩
theorem Zarx (S:Ps) {o:Opp} (ho:o.kind=1):((doS S o 0).1.ses 0).opn=true:=by
 unfold doS;rw[Yad (by omega),Yad (by omega),Yad (by omega),Yan (by omega)]
 unfold Zfv;rw[Yan ho];split
 · rename_i g;exact g
 · rw[show(0:Int).toNat=0 from rfl,Zkm S 0 0 _ (by decide) (by decide),Yan rfl]
theorem Zalp {S:Ps} (h:(S.ses 0).opn=true) {o:Opp} (ho:o.kind=3):doS S o 0=if S.lock≠0∧S.lock≠1 then(S,9,0)else({S with lock:=1},0,0):=by
 have h':(S.ses (0:Int).toNat).opn=true:=h;unfold doS;rw[Yad (by omega),Yad (by omega),Yad (by rw[h'];simp),Yan (by omega)]
 unfold Zfv;rw[Yad (by omega),Yad (by omega),Yan ho]
 rfl
theorem Zpp (T:List Line) (P:List ByteArray):decB T T T P=stB T P:=Zaju rfl
theorem Zahh {T:List Line} (h:Zab T=true):Zcg T T T=(T,0,0):=by
 have ha:allP T T T=Zaf T:=Zns (Zqd _) (Zcx h).1.1 fun q=>by
  show q∈allP T T T↔_;rw[Zky];exact⟨fun x=>x.elim id fun x=>x.elim id id, .inl⟩
 have hc: ∀ p∈Zaf T,conB T T T p=false:=fun p hp=>by
  have h1:=Zaic h p;unfold conB;rw[Zpp,Zpp,Yah (show ¬ stB T p= -2 by omega)]
  rcases((Zcx h).1.2 p hp).2 with hu|hu
  · have h2:=(Zda h).1 hu;rw[Yah (show ¬ stB T p.dropLast= -1 by omega)];simp
  · have hl: ¬ 1<p.length:=by
     have h3:=congrArg List.length hu;rw[Yci]at h3;simp at h3;omega
    rw[Yah hl];simp
 have hb:badL T T T= []:=by
  unfold badL;rw[ha];exact List.filter_eq_nil_iff.2 fun p hp=>by rw[hc p hp];decide
 have hg:Zpn T T T=Zaf T:=by
  unfold Zpn;rw[ha];refine List.filter_eq_self.2 fun p hp=> ?_
  unfold Zta;rw[hc p hp,Zpp,Yal (by have:=(Zda h).1 hp;omega)];rfl
 unfold Zcg;rw[hb,hg,Yad (by decide),Yad (by rw[Zae];have:=(Zac h).1;omega),show decB T T T=stB T from funext (Zpp T),Zart h]
theorem Zuw {B M R:List Line} (he:(Zay B M R).2.1=0):(Zay B M R).1=(Zcg B M R).1∧(Zdd (Zcg B M R).1).2=0∧Zab (Zdd (Zcg B M R).1).1=true∧ ¬ 0<(Zjf (Zdd (Zcg B M R).1).1).length:=by
 unfold Zay at he⊢;split
 · rename_i g;rw[Yan g]at he;exact absurd he g
 · rename_i g1;rw[Yad g1]at he;split
   · rename_i g;rw[Yan g]at he;exact absurd he g
   · rename_i g2;rw[Yad g2]at he;split
     · rename_i g;rw[Yan g]at he;exact absurd he (by decide)
     · rename_i g3;rw[Yad g3]at he;split
       · rename_i g;rw[Yan g]at he;exact absurd (show(7:Int)=0 from he) (by decide)
       · rename_i g4;exact⟨rfl,Decidable.not_not.1 g2,by simpa using g3,g4⟩
theorem Zxn {B M R:List Line} (h1:Zab B=true) (h2:Zab M=true) (h3:Zab R=true) (he:(Zay B M R).2.1=0):
 Zay (Zay B M R).1 (Zay B M R).1 (Zay B M R).1=((Zay B M R).1,0,0):=by
 have hT:=Zmq h1 h2 h3 he;obtain⟨e1,e2,e3,e4⟩:=Zuw he;rw[e1]at hT⊢;generalize (Zcg B M R).1=T at *
 conv=>lhs;unfold Zay
 rw[Zahh hT];simp only;rw[Yad (by simp),Yad (by rw[e2];simp),Yad (by rw[e3];simp),Yad e4]
theorem Zatb {S:Ps} (hd:S.dead=0∨S.clock<S.dead∧S.dead≤S.clock+65535) (h:(Zey S 70000).1.dead≠0):2147413647<(Zey S 70000).1.clock:=by
 by_cases h1:(70000:Int)<0∨2147483647-S.clock<70000
 · rw[Zaud h1];simp only;omega
 · by_cases h2:S.dead=0∨S.clock+70000<S.dead
   · rw[Zafd h1 h2]at h;have h3:S.dead≠0:=h;omega
   · rw[Zaoi h1 h2]at h;exact absurd rfl h
theorem Zamg (S:Ps) (o:Opp) (ho:o.kind=1):(doS S o 2).1.dead=S.dead∧(doS S o 2).1.clock=S.clock∧((doS S o 2).1.ses 2).opn=true:=by
 unfold doS;rw[Yad (by omega),Yad (by omega),Yad (by omega),Yan (by omega)]
 unfold Zfv;rw[Yan ho];split
 · rename_i g;exact⟨rfl,rfl,g⟩
 · obtain⟨-,-,-,f3,f4,-⟩:=Zbd S 2 ⟨true,S.run,S.run⟩;exact⟨f4,f3,by rw[show(2:Int).toNat=2 from rfl,Zkm S 2 2 _ (by decide) (by decide),Yan rfl]⟩
structure Waits (S:Ps) (k:Int) (Q:Ps) (T:List Line):Prop where
 run:Q.run=T
 dead:Q.dead=S.clock+k
 clock:Q.clock=S.clock
 back:Q.back=S.run
 opn:Q.ses 2=⟨true,T,T⟩
 lock: ¬ (Q.lock≠0∧Q.lock≠3)
 chk:Zay T T T=(T,0,0)
theorem Zxo {t:Int} {S:Ps} (hok:PsOk t S) (ho:(S.ses 2).opn=true) {o:Opp} (hk:o.kind=14) (hn:1≤o.n∧o.n≤1000) (hd:S.dead=0) (he:(doS S o 2).2.1=0):
 ∃ T,Waits S o.n (doS S o 2).1 T∧(doS S o 2).2.2=Zav (doS S o 2).1:=by
 have hl: ¬ (S.lock≠0∧S.lock≠((2:Nat):Int)+1):=fun h=>by
  have:=do_6 (o:=o) (k:=2) (by omega) (by omega) (by omega) (by decide) ho (by omega) (by omega) h
  rw[show(2:Int)=((2:Nat):Int)from rfl,this]at he;exact absurd (show(9:Int)=0 from he) (by decide)
 have e7:=do_7 (o:=o) (k:=2) (by omega) (by decide) ho hk hl
 rw[show(2:Int)=((2:Nat):Int)from rfl,e7]at he⊢;unfold Zep at he⊢;rw[Yad (by omega)]at he⊢
 simp only at he⊢;by_cases hc:(Zay (S.ses 2).base (S.ses 2).mine S.run).2.1≠0
 · rw[Yan hc]at he;exact absurd he hc
 · rw[Yad hc,Yad (by omega)]
   have hs:=Zxn (hok.base 2 (by decide)) (hok.mine 2 (by decide)) hok.run (Decidable.not_not.1 hc)
   generalize (Zay (S.ses 2).base (S.ses 2).mine S.run).1=T at *;obtain⟨f0,f1,f2,f3,f4,f5⟩:=Zbd S 2 ⟨true,T,T⟩;refine⟨T, ?_,rfl⟩;unfold Zhm;rw[Yad (by omega),Yan (by rw[f4,hd])]
   exact⟨rfl,congrArg (· +o.n) f3,f3,rfl,(Zkm S 2 2 _ (by decide) (by decide)).trans (Yan rfl),by show ¬ ((S.setSes 2 ⟨true,T,T⟩).lock≠0∧(S.setSes 2 ⟨true,T,T⟩).lock≠3);rw[f2];exact fun h=>hl ⟨h.1,fun e=>h.2 (e.trans (by decide))⟩,hs⟩
theorem Zly {S:Ps} {o:Opp} {who:Int} (h:o.kind=15):doS S o who=Zey S o.n:=by unfold doS;rw[Yan h]
section
variable {S Q:Ps} {T:List Line} {k a:Int} (hw:Waits S k Q T) (ha:0≤a∧a<k) (hk:k≤1000) (hc:0≤S.clock∧S.clock≤2147478647)
include hw ha hk hc
theorem Zaow:Zey Q a=({Q with clock:=Q.clock+a},0,0):=by
 have h1:=hw.clock;have h2:=hw.dead;exact Zafd (by omega) (by omega)
theorem Zaou:(Zey {Q with clock:=Q.clock+a} (k-a)).1.run=S.run∧(Zey {Q with clock:=Q.clock+a} (k-a)).1.dead=0∧(Zey {Q with clock:=Q.clock+a} (k-a)).1.clock=S.clock+k∧(Zey {Q with clock:=Q.clock+a} (k-a)).2=(0,Zav Q+1):=by
 have h1:=hw.clock;have h2:=hw.dead;rw[Zaoi (S:={Q with clock:=Q.clock+a}) (by simp only;omega) (by simp only;omega)]
 refine⟨hw.back,rfl, ?_, ?_⟩
 · show Q.clock+a+(k-a)=_;omega
 · rw[Zhv];rfl
theorem Zzu {o:Opp} (ho:o.kind=14) (hn:o.n=0):(doS {Q with clock:=Q.clock+a} o 2).1.run=T∧(doS {Q with clock:=Q.clock+a} o 2).1.dead=0∧(doS {Q with clock:=Q.clock+a} o 2).1.clock=S.clock+a∧(doS {Q with clock:=Q.clock+a} o 2).2=(0,Zav Q+1):=by
 have h1:=hw.clock;have h2:=hw.dead;have hs:(Ps.ses {Q with clock:=Q.clock+a} 2)=⟨true,T,T⟩:=hw.opn
 have e7:=do_7 (S:={Q with clock:=Q.clock+a}) (o:=o) (k:=2) (by omega) (by decide) (by rw[hs]) ho hw.lock
 rw[show(2:Int)=((2:Nat):Int)from rfl,e7];unfold Zep;rw[Yad (by omega),hs]
 simp only;rw[hw.run,hw.chk];simp only;rw[Yad (by decide),Yad (by omega)]
 obtain⟨f0,f1,f2,f3,f4,f5⟩:=Zbd {Q with clock:=Q.clock+a} 2 ⟨true,T,T⟩
 unfold Zhm;rw[Yan hn];refine⟨rfl,rfl, ?_, ?_⟩
 · exact f3.trans (by show Q.clock+a=_;omega)
 · rw[Zhv];show(0,Zav _+1)=_;unfold Zav;simp only;rw[(Zbd _ 2 _).2.1]
end
theorem Zsb {S:Ps} {n:Int} (hd:S.dead=0) (hn:0≤n) (hc:S.clock+n≤2147483647):Zey S n=({S with clock:=S.clock+n},0,0):=Zafd (by omega) (.inl hd)
def behS (S:Ps) (L:List OpM):Ps:=L.foldl (fun S x=>(doS S x.o x.who).1) S
theorem Zaac (S:Ps) (L M:List OpM):behS S (L++M)=behS (behS S L) M:=by unfold behS;rw[List.foldl_append]
theorem Zapg {S:Ps} {L:List OpM} {k:Nat} (h:k<L.length):behS S (L.take (k+1))=(doS (behS S (L.take k)) L[k].o L[k].who).1:=by
 rw[Yaw h,Zaac];rfl
theorem Zadb: ∀ (L:List OpM) {S:Ps} {t:Int},PsOk t S→PsOk (t+(L.length:Int)) (behS S L)
 | [],S,t,h=>by
   rw[show t+(([]:List OpM).length:Int)=t from Int.add_zero t];exact h
 | x::L,S,t,h=>by
   have h1:=Zadb L (Zhf h x.o x.who).1;rw[show t+((x::L).length:Int)=t+1+(L.length:Int) by rw[Ybf];omega]
   exact h1
theorem Zajb {L:List OpM} {k:Nat} (h:k≤L.length):PsOk k (behS Zej (L.take k)):=
 (Zadb (L.take k) Zpq).mono (by rw[Yaf];omega)
end Edt
namespace Go.Proofs.Zq
open Tryz
open Go Go.RowKit Go.Sort Tre Lx Prs Lns Edt Sch
theorem Zayz {fn:Func} {t:Array Value} {W:World} {q:Nat} {D:Array Value} (hf:fn.results= #[.cell 2 32]) (h2:t.getD 2 undef= .pointer (some ⟨q,0,none⟩))
 (hq:Bl W q D 32) (hd:D.size=15):(results fn t).run prog W= .ok (.agg D) W:=by
 have e1:=lvPl hq hd;unfold results;rw[hf];simp only[List.mapM_toArray,List.mapM_cons,List.mapM_nil,h2,asAddr,Sem.run_bind,Sem.run_pure,Result.andThen_ok,e1,Sem.run_map];rfl
def Bh (w:World) (L:List OpM) (b:Nat) (k:Nat) (W:World):Prop:= ∃ C,Bl W b C 32∧PlC W C (behS Zej (L.take k))∧Bl W w.heap.size zcc 32∧Below w.heap.size w W
theorem Ztm (A:Option Addr) (c:Nat) (L:List OpM) (w:World) (hE:Env w) (hO:Ops w A L) (hc:L.length≤c) (hm:c≤maxLen) (hn:L.length≤1000) (hX: ∀ x∈L,x.o.path.length≤1000000∧x.o.text.size≤1000000):
 Calls prog 10 #[.slice A L.length c] w fun e w'=>(∃ C,e= .returned (.agg C)∧PlC w' C (behS Zej L))∧Below w.heap.size w w':=by
 have HEo:=Zhd (fun(W:World) (hb:Below w.heap.size w W)=>hE.below hb)
 have HOo:=Zhd (fun(W:World) (hb:Below w.heap.size w W)=>hO.below hb)
 have HX:=Zhd hX;have HN0:=Zhd hn;have hm':(c:Int)≤9223372036854775807:=by unfold maxLen at hm;omega
 have hcI:(L.length:Int)≤(c:Int):=by omega
 obtain⟨wq,hwq⟩: ∃ x,w.alloc (.cells #[.slice none 0 0, .slice none 0 0, .bool false, .slice none 0 0, .slice none 0 0, .bool false, .slice none 0 0, .slice none 0 0, .bool false, .slice none 0 0, .slice none 0 0, .int .i64 0, .int .i64 0, .int .i64 0, .slice none 0 0] 32)=x:=⟨_,rfl⟩;have Bq:Bl wq w.heap.size zcc 32:=by rw[←hwq];exact Bl.new _ _ _
 have hbq:Below w.heap.size w wq:=by rw[←hwq];exact(Yae _ _).alloc (Yag _) _
 have HN:=Zama wq;clear hE hO hX hn hm;go_enter func10,ntmps10;go_upto_region 1 with fail
 clear hwq;refine wp_region_lit ?_;go_wp2_with fail;go_at_call 20;refine HN.mono ?_;rintro e w1 ⟨rfl,hb1⟩;rename_i hKx;refine hKx _ _ ?_;clear hKx;try simp only[Act.put,Yaa,Yab,Yac]
 refine Zpv (C:=zcc) rfl rfl (by rfl) (by rfl) ?_
 intro w2 hb2 B2;have hb12:=Zaa hb1 hb2;have HB2:=Zhd (Zaa hbq hb12);have Bq2:=Bq.below hb12;have hgq:w.heap.size<w1.heap.size:=Ybp Bq.lt hb1.size;have HL:Hid (Bh w L w1.heap.size 0 w2):=⟨zcc,B2,Zamt _,Bq2,HB2.out⟩;clear hb1 hb2 hb12 Bq Bq2 B2 HB2 hbq HN;try simp only[Act.put,Yaa,Yab,Yac]
 go_wp2_with fail;go_loopw [11] (fun vk W=> ∃ k:Nat,k≤L.length∧vk= .int .i64 k∧Hid (Bh w L w1.heap.size k W)) (fun vk _=>L.length-(intOf vk).toNat)
 case atStart=>exact⟨0,Yao _,rfl,HL⟩
 case round=>
  clear HL;obtain⟨k,hk,rfl,HA⟩:=hrel;by_cases hlt:k<L.length
  · obtain⟨C,Bp,hP,Bq,hb⟩:=HA.out;have hO:=HOo.out _ hb;obtain⟨b,o,rfl,hbl,hx⟩:=hO.at (k:=k) hlt;have hxo:=hO.2 L[k] (Yau _);have hko:=HX.out L[k] (Yau _);have hbt:=Zapg (S:=Zej) hlt;have hok:=Zajb (L:=L) hk;have hnn:=HN0.out;generalize L[k]=x at *;obtain⟨xo,xw,xA,xc⟩:=x;have x0:wr.cell? ⟨b,o+k*7,none⟩=some (.int .i64 xo.kind):=(hx 0 (by decide)).trans rfl
    have x1:wr.cell? ⟨b,o+k*7+1,none⟩=some (.int .i64 xw):=(hx 1 (by decide)).trans rfl
    have x2:wr.cell? ⟨b,o+k*7+2,none⟩=some (.slice xA xo.path.length xc):=(hx 2 (by decide)).trans rfl
    have x3:wr.cell? ⟨b,o+k*7+3,none⟩=some (.string xo.word):=(hx 3 (by decide)).trans rfl
    have x4:wr.cell? ⟨b,o+k*7+4,none⟩=some (.int .i64 xo.bit):=(hx 4 (by decide)).trans rfl
    have x5:wr.cell? ⟨b,o+k*7+5,none⟩=some (.int .i64 xo.n):=(hx 5 (by decide)).trans rfl
    have x6:wr.cell? ⟨b,o+k*7+6,none⟩=some (.string xo.text):=(hx 6 (by decide)).trans rfl
    have hkI:(k:Int)<(L.length:Int):=by omega
    have hk0:(0:Int)≤(k:Int):=by omega
    obtain⟨kl1,kl2⟩:=hko
    have HD:Hid (∀ W,Below wr.heap.size wr W→Calls prog 11 #[.agg C, .agg #[.int .i64 xo.kind, .int .i64 xw, .slice xA xo.path.length xc, .string xo.word, .int .i64 xo.bit, .int .i64 xo.n, .string xo.text]] W (Zdk (doS (behS Zej (L.take k)) xo xw) W)):=fun W hb'=>
     Zgu C _ xo xw xA xc W (hP.below hb') (HEo.out _ (Zaa hb hb')) (hxo.1.below hb') hxo.2.1 hxo.2.2.1 kl1 kl2 hxo.2.2.2 k hok (by omega)
    have HBT:Hid (behS Zej (L.take (k+1))=(doS (behS Zej (L.take k)) xo xw).1):=hbt;generalize doS (behS Zej (L.take k)) xo xw=z at *;obtain⟨S2,ze,zn⟩:=z;obtain⟨wx,hwx⟩: ∃ x,wr.alloc (.cells #[.int .i64 xo.kind, .int .i64 xw, .slice xA xo.path.length xc, .string xo.word, .int .i64 xo.bit, .int .i64 xo.n, .string xo.text] 36)=x:=⟨_,rfl⟩;have hbx:Below wr.heap.size wr wx:=by rw[←hwx];exact(Yae _ _).alloc (Yag _) _
    have Bx:Bl wx wr.heap.size #[.int .i64 xo.kind, .int .i64 xw, .slice xA xo.path.length xc, .string xo.word, .int .i64 xo.bit, .int .i64 xo.n, .string xo.text] 36:=by rw[←hwx];exact Bl.new _ _ _
    have y0:wx.cell? ⟨wr.heap.size,0,none⟩=some (.int .i64 xo.kind):=(Bx.cell _).trans rfl;have y1:wx.cell? ⟨wr.heap.size,1,none⟩=some (.int .i64 xw):=(Bx.cell _).trans rfl;have y2:wx.cell? ⟨wr.heap.size,2,none⟩=some (.slice xA xo.path.length xc):=(Bx.cell _).trans rfl;have y3:wx.cell? ⟨wr.heap.size,3,none⟩=some (.string xo.word):=(Bx.cell _).trans rfl;have y4:wx.cell? ⟨wr.heap.size,4,none⟩=some (.int .i64 xo.bit):=(Bx.cell _).trans rfl;have y5:wx.cell? ⟨wr.heap.size,5,none⟩=some (.int .i64 xo.n):=(Bx.cell _).trans rfl;have y6:wx.cell? ⟨wr.heap.size,6,none⟩=some (.string xo.text):=(Bx.cell _).trans rfl;have Bpx:=Bp.below hbx;have Bqx:=Bq.below hbx;have HBx:=Zhd (Zaa hb hbx);have HDx:=Zhd (HD.out wx hbx);have hcs:=hP.size;have hns:=hP.nostr;clear hb hbx Bp Bq hP hO hx HD hxo HA kl1 kl2 hok hbt hnn;go_upto_region 5 with fail
    clear x0 x1 x2 x3 x4 x5 x6;refine wp_region_lit ?_;refine wpList_load_mid rfl 32 _ rfl w1.heap.size 0 (by rfl) C.toList _ Bpx.range underlying32 rfl (by rw[Yav,hcs];exact Zai) ?_
    rw[show C.toList.toArray=C from rfl];try simp only[Act.put,Yaa,Yab,Yac]
    go_wp2_with fail;go_at_call 11;refine HDx.out.mono ?_;rintro e w5 ⟨⟨v5,rfl,hv5⟩,hb5⟩;obtain⟨C2,rfl,hC2⟩:=hv5.cells;have hc2:=hC2.size;rename_i hKx;refine hKx _ _ ?_;clear hKx;try simp only[Act.put,Yaa,Yab,Yac]
    refine Zcj (v:= .tuple #[.agg C2, .agg #[.int .i64 ze, .int .i64 zn]]) rfl (by rfl) ?_
    try simp only[Act.put,Yaa,Yab,Yac]
    refine Zgv (C:=C2) (R:= #[.int .i64 ze, .int .i64 zn]) hc2 hC2.one rfl rfl (by rfl) (by rfl) (by rfl) (by rfl) (by rfl) (by rfl) ?_
    intro w6 hbw B7 B8;have hb6:=Zaa hb5 hbw;have B4:=Bpx.below hb6;have Bq6:=Bqx.below hb6;have hC6:=hC2.below hbw;have HB6:=Zhd (Zaa HBx.out hb6);clear hb5 hbw hb6 Bpx Bqx hC2 HBx HDx y0 y1 y2 y3 y4 y5 y6 Bx hwx;try simp only[Act.put,Yaa,Yab,Yac]
    go_upto_region 6 with fail
    refine wp_region_lit ?_;refine Zpt B7 hc2 hC6.one B4 hcs (by rfl) (by rfl) (by rfl) ?_
    intro W'' hoff hbel Bp7;have HA7:Hid (Bh w L w1.heap.size (k+1) W''):=⟨C2,Bp7,by rw[HBT.out];exact hC6.off B4 (by decide) hns hoff,(hoff.2 _ (Nat.ne_of_lt hgq) Bq6.lt).trans Bq6,hbel _ (Yeb hgq) HB6.out⟩
    try simp only[Act.put,Yaa,Yab,Yac]
    go_wp2_with fail;go_roundw
    case rel=>exact⟨k+1,by omega,by go_num,HA7⟩
    case measure=>simp[intOf];omega
  · obtain rfl:k=L.length:=by omega
    obtain⟨C,Bp,hP,Bq,hb⟩:=HA.out;rw[Ybz]at hP;have hcs:=hP.size;have hz:zcc.size=15:=rfl;clear HA;go_upto_region 8 with fail
    refine wp_region_lit ?_;refine Zpt Bp hcs hP.one Bq hz (by rfl) (by rfl) (by rfl) ?_
    intro W' hoff hbel Br;have hP':=hP.off Bq (by decide) (by decide) hoff
    have HB:=Zhd (hbel _ (Yag _) hb);try simp only[Act.put,Yaa,Yab,Yac]
    go_wp2_with fail;refine bodyPost_ret (Zayz results10 (by rfl) Br hcs) rfl ?_
    exact⟨⟨C,rfl,hP'⟩,HB.out⟩
end Go.Proofs.Zq
