import Derived.Test.YtkbojechhmmkcaaGreatDoorK21
set_option linter.unusedVariables false
set_option linter.unusedSimpArgs false
set_option maxHeartbeats 4000000
set_option maxRecDepth 100000
namespace Go.Proofs.Zq
open Tryz
open Go Go.RowKit Go.Sort Tre Lx Prs Lns Edt
theorem Zbdl (A:Option Addr) (cap:Nat) (L:List Line) (Ap:Option Addr) (cp:Nat) (P:List ByteArray) (s:ByteArray) (w:World) (hR:Rd w 3 A L.length (lines L)) (hcap:L.length≤cap) (hc:cap≤maxLen) (hnil:A=none→cap=0) (hr:Zab L=true) (hP:Rd w 1 Ap P.length (sv P)) (hcp:P.length≤cp) (hc2:cp≤maxLen) (h16:P.length≤1000000):
 Calls prog 38 #[.slice A L.length cap, .slice Ap P.length cp, .string s] w (Zif (renB L P s) w):=by
 have HPa:=Zhd (Zrx A cap L Ap cp P w hR hcap hc hr hP hcp hc2);have HL:Hid (∀ W,Below w.heap.size w W→Lr W (.slice A L.length cap) L):=fun W hb=>⟨A,cap,rfl,hcap,hc,hR.below hb,hnil⟩
 have h200:=Zau hr;obtain⟨z,hz⟩: ∃ z,renB L P s=z:=⟨_,rfl⟩;have HZ:=Zhd hz;unfold Zif;rw[hz];clear hz;by_cases hw:40<s.size
 · have HK:Hid (z=(L,1)):=by show _=_;rw[←HZ.out,Zbhx hw]
   have hwI:(40:Int)<(s.size:Int):=by omega
   clear HZ hR hP hr HPa;go_enter func38,ntmps38;go_wp2;go_ret2;rw[HK.out];exact⟨⟨_,rfl,HL.out _ (Yag _ _)⟩,Yag _ _⟩
 · have hwI : ¬ (40:Int)<(s.size:Int):=by omega
   by_cases h0:P.length=0
   · have HK:Hid (z=(L,1)):=by show _=_;rw[←HZ.out,Zbdm hw h0]
     rw[Zpe h0]at HPa;clear HZ hR hP hr h0;go_enter func38,ntmps38;go_wp2_with fail;refine HPa.out.mono ?_;rintro e w2 ⟨rfl,hb2⟩;go_wp2;go_ret2;rw[HK.out];exact⟨⟨_,rfl,HL.out _ hb2⟩,hb2⟩
   · cases hf:Zas L P with
     | none=>
       have HK:Hid (z=(L,3)):=by show _=_;rw[←HZ.out,Zayx hw h0 hf]
       rw[Zlx h0 hf]at HPa;clear HZ hR hP hr h0 hf;go_enter func38,ntmps38;go_wp2_with fail;refine HPa.out.mono ?_;rintro e w2 ⟨rfl,hb2⟩;go_wp2;go_ret2;rw[HK.out];exact⟨⟨_,rfl,HL.out _ hb2⟩,hb2⟩
     | some k=>
       have hk:=Zcu hf;have he:=Zbb L k hk;have hcr:Zab (L.take k++L.drop (endB L k))=true:=(Zanm hr hk).1;rw[Zly h0 hf]at HPa;have HSh:=Zhd (fun(W:World) (hb:Below w.heap.size w W)=>Zaid A cap L Ap cp P k (endB L k) W (hR.below hb) hcap hc hr (hP.below hb) hcp hc2 hk (by omega) (by omega))
       have HCl:=Zhd (fun(W:World) (hb:Below w.heap.size w W)=>Zfg A cap L W (hR.below hb) hnil (by omega))
       have HBe:=Zhd (fun(W:World) (hb:Below w.heap.size w W)=>Zvs Ap cp P s W (hP.below hb) hcp hc2 h0 h16)
       have hTl:(P.dropLast++ [s]).length=P.length:=by rw[Yae,Ycb,Ybz];omega
       have HF:=Zhd (fun(W:World) (A2:Option Addr) (c2:Nat) (hb:Below w.heap.size w W) (hP2:Rd W 1 A2 P.length (sv (P.dropLast++ [s]))) (g1:P.length≤c2) (g2:c2≤maxLen)=>Zca A cap L A2 c2 (P.dropLast++ [s]) W (hR.below hb) hcap hc hr (by rw[hTl];exact hP2) (by rw[hTl];exact g1) g2)
       rw[hTl]at HF;have HZs:=Zhd (fun h=>HZ.out.symm.trans (Zayy hw h0 hf h))
       have HZt:=Zhd (fun h h2=>HZ.out.symm.trans (Zars hw h0 hf h h2))
       have HZg:=Zhd (fun M er h h2 (h3:Zdp (L.take k++L.drop (endB L k)) P s (Zcg L k)=(M,er))=>HZ.out.symm.trans (Zbgz hw h0 hf h h2 h3))
       obtain⟨B,O,rfl,hab,hadd,-,-,-⟩:=hR.line hk;have hpl:=Zjf hk;have hcl2:(L.take k++L.drop (endB L k)).length=k+(L.length-endB L k):=by rw[Yae,Yah,Yan];omega
       have HSub:Hid (∀ W,Below w.heap.size w W→Calls prog 68 #[.slice (some ⟨B,O+k*3,none⟩) (endB L k-k) (cap-k)] W (Zct W (Zcg L k))):=fun W hb=>by
        have h1:Rd w 3 (some ⟨B,O+k*3,none⟩) (endB L k-k) (lines (Zcg L k)):=Zzb (by rw[Yan];exact Zub hR (Yem hk)) (by rw[Yan];omega)
        have:=Zfg (some ⟨B,O+k*3,none⟩) (cap-k) (Zcg L k) W (by rw[hpl];exact h1.below hb) (fun h=>by cases h) (by omega)
        rw[hpl]at this;exact this
       unfold Zct at HCl HSub;rw[hpl]at HSub
       have HG:Hid (∀ W (q cc:Nat) (As:Option Addr) (cs:Nat),Below w.heap.size w W→Rd W 3 (some ⟨q,0,none⟩) (k+(L.length-endB L k)) (lines (L.take k++L.drop (endB L k)))→k+(L.length-endB L k)≤cc→cc≤maxLen→Rd W 3 As (endB L k-k) (lines (Zcg L k))→endB L k-k≤cs→cs≤maxLen→
        Calls prog 71 #[.slice (some ⟨q,0,none⟩) (k+(L.length-endB L k)) cc, .slice Ap P.length cp, .string s, .slice As (endB L k-k) cs] W (Zif (Zdp (L.take k++L.drop (endB L k)) P s (Zcg L k)) W)):=fun W q cc As cs hb h1 h2 h3 h4 h5 h6=>by
        have h:=Zabc (some ⟨q,0,none⟩) cc (L.take k++L.drop (endB L k)) Ap cp P s As cs (Zcg L k) W (by rw[hcl2];exact h1) (by rw[hcl2];exact h2) h3 (fun h=>by cases h) hcr (hP.below hb) hcp hc2 h0 h16 (by rw[hpl];exact h4) (by omega) (by omega) h6 (by omega)
        rw[hpl,hcl2]at h;exact h
       have HDl:=Zhd (fun(W:World) (base q cc:Nat) (ho:W.ownsRow base 62 3 (.slice (some ⟨q,0,none⟩) L.length cc) L.length (lines L)) (h1:L.length≤cc) (h2:cc≤maxLen)=>Zanu q cc k (endB L k) base L W ho (by omega) (by omega) h1 h2 (by omega))
       unfold Zif at HG;unfold Zvo at HDl;obtain⟨G,hG⟩: ∃ G,Zdp (L.take k++L.drop (endB L k)) P s (Zcg L k)=G:=⟨_,rfl⟩;rw[hG]at HG HZg;obtain⟨M,er⟩:=G;simp only at HG;generalize hT:P.dropLast++ [s]=T at *;generalize endB L k=E at *;generalize Zcg L k=S at *;unfold maxLen at hc;have hsub:(E:Int)-(k:Int)=((E-k:Nat):Int):=by omega
       have hsub2:(cap:Int)-(k:Int)=((cap-k:Nat):Int):=by omega
       have hnE:(k:Int)≤(E:Int):=by omega
       have hEc:(E:Int)≤(cap:Int):=by omega
       have hnc: ¬ (cap=k):=by omega
       have hnc2: ¬ (k=cap):=by omega
       clear HZ hR hP hr h0 hcr hcl2 hpl hTl hG hadd;cases hs:Zuf L P k E with
       | true=>
         rw[hs]at HSh;have HK:Hid (z=(L,12)):=HZs.out hs;clear HZs HZt HZg HG HDl HSub HCl HBe HF hf hs;go_enter func38,ntmps38;go_wp2_with fail;refine HPa.out.mono ?_;rintro e w2 ⟨rfl,hb2⟩;have HA2:=Zhd (HSh.out w2 hb2);have HB2:=Zhd hb2;clear hb2;go_wp2_with fail;refine HA2.out.mono ?_;rintro e w3 ⟨rfl,hb3⟩;have HB3:=Zhd (Zaa HB2.out hb3);clear hb3;go_wp2;go_ret2;rw[HK.out];exact⟨⟨_,rfl,HL.out _ HB3.out⟩,HB3.out⟩
       | false=>
         rw[hs]at HSh;cases ht:Zas L T with
         | some k0=>
           rw[ht]at HF;have HK:Hid (z=(L,4)):=HZt.out hs (by rw[ht];rfl)
           clear HZs HZt HZg HG HDl HSub HCl hf hs ht;go_enter func38,ntmps38;go_wp2_with fail;refine HPa.out.mono ?_;rintro e w2 ⟨rfl,hb2⟩;have HA2:=Zhd (HSh.out w2 hb2);have HB2:=Zhd hb2;clear hb2;go_wp2_with fail;refine HA2.out.mono ?_;rintro e w3 ⟨rfl,hb3⟩;have HB3:=Zhd (Zaa HB2.out hb3);have HBe3:=Zhd (HBe.out w3 HB3.out);clear hb3 HBe;go_wp2_with fail;refine HBe3.out.mono ?_;rintro e w4 ⟨⟨v4,rfl,ho4⟩,hb4⟩;obtain⟨A4,c4,rfl,g1,g2,g3⟩:=Zbj ho4;have HB4:=Zhd (Zaa HB3.out hb4);have HF4:=Zhd (HF.out w4 A4 c4 HB4.out g3 g1 g2);clear ho4 g3 hb4 HF HBe3;go_wp2_with fail;refine HF4.out.mono ?_;rintro e w5 ⟨rfl,hb5⟩;have HB5:=Zhd (Zaa HB4.out hb5);clear hb5;go_wp2;go_ret2;rw[HK.out];exact⟨⟨_,rfl,HL.out _ HB5.out⟩,HB5.out⟩
         | none=>
           rw[ht]at HF;have HK:Hid (z=if er≠0 then(L,er)else(M,er)):=HZg.out M er hs (by rw[ht];rfl) rfl
           clear HZs HZt HZg hf hs ht;go_enter func38,ntmps38;go_wp2_with fail;refine HPa.out.mono ?_;rintro e w2 ⟨rfl,hb2⟩;have HA2:=Zhd (HSh.out w2 hb2);have HB2:=Zhd hb2;clear hb2;go_wp2_with fail;refine HA2.out.mono ?_;rintro e w3 ⟨rfl,hb3⟩;have HB3:=Zhd (Zaa HB2.out hb3);have HBe3:=Zhd (HBe.out w3 HB3.out);clear hb3 HBe HB2 HA2 HSh HPa;go_wp2_with fail;refine HBe3.out.mono ?_;rintro e w4 ⟨⟨v4,rfl,ho4⟩,hb4⟩;obtain⟨A4,c4,rfl,g1,g2,g3⟩:=Zbj ho4;have HB4:=Zhd (Zaa HB3.out hb4);have HF4:=Zhd (HF.out w4 A4 c4 HB4.out g3 g1 g2);clear ho4 g3 hb4 HF HBe3 HB3;go_wp2_with fail;refine HF4.out.mono ?_;rintro e w5 ⟨rfl,hb5⟩;have HB5:=Zhd (Zaa HB4.out hb5);have HS5:=Zhd (HSub.out w5 HB5.out);clear hb5 HF4 HB4 HSub g1 g2;go_wp2_with fail;refine HS5.out.mono ?_;rintro e w6 ⟨⟨v6,rfl,ho6⟩,hb6⟩;obtain⟨A6,c6,rfl,g1,g2,g3⟩:=Zbj ho6;have HB6:=Zhd (Zaa HB5.out hb6);have HS6:=Zhd g3;have HC6:=Zhd (HCl.out w6 HB6.out);clear ho6 g3 hb6 HS5 HB5 HCl;go_wp2_with fail;refine HC6.out.mono ?_;rintro e w7 ⟨⟨v7,rfl,ho7⟩,hb7⟩;obtain⟨m,hm⟩: ∃ m,L.length=m+1:=⟨L.length-1,by omega⟩
           have ho7':=ho7;rw[hm]at ho7';obtain⟨q,cc,rfl⟩:=Zda ho7';rw[←hm]at ho7⊢;obtain⟨A8,c8,e8,hn8,hm8,-⟩:=Zbj ho7;obtain⟨rfl,rfl⟩:A8=some ⟨q,0,none⟩∧cc=c8:=by
            injection e8 with e1 _ e3
            exact⟨e1.symm,e3⟩
           have HD:=Zhd (HDl.out w7 _ q cc ho7 hn8 hm8);have HB7:=Zhd (Zaa HB6.out hb7);have HB67:=Zhd hb7;have hz6:=HB6.out.size;clear ho7 ho7' hm e8 hb7 HC6 HDl;go_wp2_with fail;refine HD.out.mono ?_;rintro e w8 ⟨rfl,hrd,hb8⟩;have HB68:=Zhd (HB67.out.trans hb8);have HB8:=Zhd (HB6.out.trans (HB68.out.mono hz6));have HS8:=Zhd (HS6.out.below HB68.out);have HR8:=Zhd hrd;have HG8:=Zhd (HG.out w8 q cc A6 c6 HB8.out HR8.out (by omega) hm8 HS8.out g1 g2)
           clear hrd hb8 HD HG HS6 HB67 HB68 HB7;go_wp2_with fail;refine HG8.out.mono ?_;rintro e w9 ⟨⟨v9,rfl,hv9⟩,hb9⟩;have HB9:=Zhd (Zaa HB8.out hb9);have HV9:=Zhd hv9;clear hb9 hv9 HG8 HR8 HS8;by_cases he0:er=0
           · subst he0;have q00:((0:Int)!=0)=false:=rfl;have HK2:Hid (z=(M,0)):=HK.out;clear HK;go_wp2;go_ret2;rw[HK2.out];exact⟨⟨_,rfl,HV9.out⟩,HB9.out⟩
           · have qe:(er !=0)=true:=by rw[bne_iff_ne];exact he0
             have HK2:Hid (z=(L,er)):=by show _=_;rw[HK.out,Yam he0]
             clear HK;go_wp2;go_ret2;rw[HK2.out];exact⟨⟨_,rfl,HL.out _ HB9.out⟩,HB9.out⟩
end Go.Proofs.Zq
namespace Edt
open Go Go.Lib Tre Lns
def decI (b m t:Int):Int:=if m=t∨t=b then m else if m=b then t else -2
def decB (B M T:List Line) (P:List ByteArray):Int:=decI (stB B P) (stB M P) (stB T P)
def conB (B M T:List Line) (P:List ByteArray):Bool:=
 decide (decB B M T P= -2)||(decide (decB B M T P≠ -1)&&decide (1<P.length)&&decide (decB B M T P.dropLast= -1))
theorem Zbdr {L:List Line} {P:List ByteArray} {k:Nat} (hk:k<L.length) (h:Zas L P=some k):stB L P=L[k].mark:=by
 unfold stB;rw[h];simp only;rw[Zcd hk]
theorem Zbhz {L:List Line} {P:List ByteArray} (h:Zas L P=none):stB L P= -1:=by unfold stB;rw[h]
theorem Zbbv {b m t:Int} (h:m=t):decI b m t=m:=by unfold decI;rw[Yam (.inl h)]
theorem Zbbw {b m t:Int} (h:t=b):decI b m t=m:=by unfold decI;rw[Yam (.inr h)]
theorem Zans {b m t:Int} (h1:m≠t) (h2:t≠b) (h:m=b):decI b m t=t:=by unfold decI;rw[Yab (fun e=>e.elim h1 h2),Yam h]
theorem Zawb {b m t:Int} (h1:m≠t) (h2:t≠b) (h:m≠b):decI b m t= -2:=by unfold decI;rw[Yab (fun e=>e.elim h1 h2),Yab h]
end Edt
namespace Go.Proofs.Zq
open Tryz
open Go Go.RowKit Go.Sort Tre Lx Prs Lns Edt
def Pr (w:World) (v:Value) (P:List ByteArray):Prop:= ∃ A c,v= .slice A P.length c∧P.length≤c∧c≤maxLen∧Rd w 1 A P.length (sv P)
theorem Pr.below {w w':World} {v:Value} {P:List ByteArray} (h:Pr w v P) (hb:Below w.heap.size w w'):Pr w' v P:=by
 obtain⟨A,c,h1,h2,h3,h4⟩:=h;exact⟨A,c,h1,h2,h3,h4.below hb⟩
theorem Pr.own {w:World} {base:Nat} {v:Value} {P:List ByteArray} (h:w.ownsRow base 9 1 v P.length (sv P)):Pr w v P:=by
 obtain⟨A,c,h1,h2,h3,h4⟩:=Zbj h;exact⟨A,c,h1,h2,h3,h4⟩
theorem Zus (v p:Value) (L:List Line) (P:List ByteArray) (w:World) (hL:Lr w v L) (hr:Zab L=true) (hP:Pr w p P):
 Calls prog 87 #[v,p] w fun e w'=>e= .returned (.int .i64 (stB L P))∧Below w.heap.size w w':=by
 obtain⟨A,cap,rfl,hcap,hc,hR,hnil⟩:=hL;obtain⟨Ap,cp,rfl,hcp,hc2,hPr⟩:=hP;have HF:=Zhd (Zca A cap L Ap cp P w hR hcap hc hr hPr hcp hc2);cases hf:Zas L P with
 | none=>
   rw[hf]at HF;rw[Zbhz hf];clear hR hPr hf;go_enter func87,ntmps87;go_wp2_with fail;refine HF.out.mono ?_;rintro e w2 ⟨rfl,hb2⟩;go_wp2;go_ret;exact⟨rfl,hb2⟩
 | some k=>
   rw[hf,show Zrd (some k)=(k:Int)from rfl]at HF;have hk:=Zcu hf;have h200:=Zau hr;rw[Zbdr hk hf];obtain⟨B,O,rfl,hab,hadd,-,-,y2⟩:=hR.line hk;have HY:Hid (∀ W,Below w.heap.size w W→W.cell? ⟨B,O+k*3+2,none⟩=some (.int .i64 L[k].mark)):=fun W hbw=>(hbw.cell (p:=⟨B,O+k*3+2,none⟩) hab).trans y2
   have hk1:(k:Int)<(L.length:Int):=by omega
   generalize L[k].mark=m at *;clear hR hPr hf y2;go_enter func87,ntmps87;go_wp2_with fail;refine HF.out.mono ?_;rintro e w2 ⟨rfl,hb2⟩;have y2:=HY.out w2 hb2;go_wp2;go_ret;exact⟨rfl,hb2⟩
theorem Znn (v1 v2 v3 p:Value) (B M T:List Line) (P:List ByteArray) (w:World) (h1:Lr w v1 B) (h2:Lr w v2 M) (h3:Lr w v3 T) (hr1:Zab B=true) (hr2:Zab M=true) (hr3:Zab T=true) (hP:Pr w p P):
 Calls prog 52 #[.agg #[v1,v2,v3],p] w fun e w'=>e= .returned (.int .i64 (decB B M T P))∧Below w.heap.size w w':=by
 obtain⟨wa,hwa⟩: ∃ wa,w.alloc (.cells #[v1,v2,v3] 96)=wa:=⟨_,rfl⟩;have hba:Below w.heap.size w wa:=by rw[←hwa];exact(Yag w.heap.size w).alloc (Yaf _) _
 have hsz:w.heap.size<wa.heap.size:=by rw[←hwa];simp
 have hcell: ∀ j,wa.cell? ⟨w.heap.size,j,none⟩=(#[v1,v2,v3]:Array Value)[j]?:=fun j=>by rw[←hwa];exact World.cell?_alloc_at _ _ _ _ rfl
 have HK:Hid (∀ W,Below wa.heap.size wa W→W.cell? ⟨w.heap.size,0,none⟩=some v1∧W.cell? ⟨w.heap.size,1,none⟩=some v2∧W.cell? ⟨w.heap.size,2,none⟩=some v3):=fun W hb=>
  ⟨(hb.cell (p:=⟨w.heap.size,0,none⟩) hsz).trans (hcell 0),(hb.cell (p:=⟨w.heap.size,1,none⟩) hsz).trans (hcell 1),(hb.cell (p:=⟨w.heap.size,2,none⟩) hsz).trans (hcell 2)⟩
 have HBe:Hid (∀ W,Below wa.heap.size wa W→Below w.heap.size w W):=fun W hb=>Zaa hba hb
 have HB:=Zhd (fun(W:World) (hb:Below wa.heap.size wa W)=>Zus v1 p B P W (h1.below (Zaa hba hb)) hr1 (hP.below (Zaa hba hb)))
 have HM:=Zhd (fun(W:World) (hb:Below wa.heap.size wa W)=>Zus v2 p M P W (h2.below (Zaa hba hb)) hr2 (hP.below (Zaa hba hb)))
 have HT:=Zhd (fun(W:World) (hb:Below wa.heap.size wa W)=>Zus v3 p T P W (h3.below (Zaa hba hb)) hr3 (hP.below (Zaa hba hb)))
 unfold decB;generalize stB B P=b at *;generalize stB M P=m at *;generalize stB T P=t at *;have HA:=Zhd (Yag wa.heap.size wa).drew;have mixed:prog.follows .mixedOrders=true:=by kernel_rfl
 clear h1 h2 h3 hr1 hr2 hr3 hP hcell hsz hba
 have key: ∀ (x:Int) (q1 q2 q3:Bool),Hid ((m==t)=q1)→Hid ((t==b)=q2)→Hid ((m==b)=q3)→Hid (q1=true∧x=m∨q1=false∧q2=true∧x=m∨q1=false∧q2=false∧q3=true∧x=t∨q1=false∧q2=false∧q3=false∧x= -2)→Calls prog 52 #[.agg #[v1,v2,v3],p] w fun e w'=>e= .returned (.int .i64 x)∧Below w.heap.size w w':=by
  intro x q1 q2 q3 e1 e2 e3 hq;rcases hq.out with⟨rfl,rfl⟩|⟨rfl,rfl,rfl⟩|⟨rfl,rfl,rfl,rfl⟩|⟨rfl,rfl,rfl,rfl⟩
  all_goals
   have f1:=e1.out;have f2:=e2.out;have f3:=e3.out;clear e1 e2 e3 hq;go_enter func52,ntmps52;go_wp2_with fail;go_region_held3 (fun W=>W.cell? ⟨w.heap.size,0,none⟩=some v1∧W.cell? ⟨w.heap.size,1,none⟩=some v2∧W.cell? ⟨w.heap.size,2,none⟩=some v3) (first|exact HK.out _ HB4.out|exact HK.out _ HB3.out|exact HK.out _ HB2.out|exact HK.out _ HA.out) (first|(go_at_call_of 87 v1;refine(HB.out _ HA.out).mono ?_;rintro e w2 ⟨rfl,hb2⟩;have HB2:=Zhd (Zaa HA.out hb2);clear hb2)|(go_at_call_of 87 v2;refine(HM.out _ HB2.out).mono ?_;rintro e w3 ⟨rfl,hb3⟩;have HB3:=Zhd (Zaa HB2.out hb3);clear hb3)|(go_at_call_of 87 v3;refine(HT.out _ HB3.out).mono ?_;rintro e w4 ⟨rfl,hb4⟩;have HB4:=Zhd (Zaa HB3.out hb4);clear hb4))
   all_goals
    have HB5:=Zhd (HBe.out _ HB4.out);clear HB HM HT HK HBe HA HB2 HB3 HB4;go_wp2;go_ret;exact⟨rfl,HB5.out⟩
 by_cases e1:m=t
 · rw[Zbbv e1];exact key _ _ _ _ rfl rfl rfl (.inl ⟨by rw[beq_iff_eq];exact e1,rfl⟩)
 · have n1:(m==t)=false:=by rw[Yak];exact e1
   by_cases e2:t=b
   · rw[Zbbw e2];exact key _ _ _ _ rfl rfl rfl (.inr (.inl ⟨n1,by rw[beq_iff_eq];exact e2,rfl⟩))
   · have n2:(t==b)=false:=by rw[Yak];exact e2
     by_cases e3:m=b
     · rw[Zans e1 e2 e3];exact key _ _ _ _ rfl rfl rfl (.inr (.inr (.inl ⟨n1,n2,by rw[beq_iff_eq];exact e3,rfl⟩)))
     · rw[Zawb e1 e2 e3];exact key _ _ _ _ rfl rfl rfl (.inr (.inr (.inr ⟨n1,n2,by rw[Yak];exact e3,rfl⟩)))
theorem Zxo (v1 v2 v3 p:Value) (B M T:List Line) (P:List ByteArray) (w:World) (h1:Lr w v1 B) (h2:Lr w v2 M) (h3:Lr w v3 T) (hr1:Zab B=true) (hr2:Zab M=true) (hr3:Zab T=true) (hP:Pr w p P) (hPl:P.length≤1000000):
 Calls prog 51 #[.agg #[v1,v2,v3],p] w fun e w'=>e= .returned (.bool (conB B M T P))∧Below w.heap.size w w':=by
 have HD:=Zhd (fun(W:World) (hb:Below w.heap.size w W)=>Znn v1 v2 v3 p B M T P W (h1.below hb) (h2.below hb) (h3.below hb) hr1 hr2 hr3 (hP.below hb))
 obtain⟨Ap,cp,rfl,hcp,hc2,hR⟩:=hP
 have HDd:Hid (∀ W,1<P.length→Below w.heap.size w W→Calls prog 52 #[.agg #[v1,v2,v3], .slice Ap (P.length-1) cp] W fun e w'=>e= .returned (.int .i64 (decB B M T P.dropLast))∧Below W.heap.size W w'):=fun W hl hb=>by
  have hd:P.dropLast.length=P.length-1:=Ycb;have ht:P.dropLast=P.take (P.length-1):=Ydc;refine Znn v1 v2 v3 _ B M T P.dropLast W (h1.below hb) (h2.below hb) (h3.below hb) hr1 hr2 hr3 ⟨Ap,cp,by rw[hd],by omega,hc2, ?_⟩
  rw[hd,ht];exact Zgv (hR.below hb) (by omega)
 obtain⟨wa,hwa⟩: ∃ wa,w.alloc (.cells #[v1,v2,v3] 96)=wa:=⟨_,rfl⟩;have hba:Below w.heap.size w wa:=by rw[←hwa];exact(Yag w.heap.size w).alloc (Yaf _) _
 have HA:=Zhd hba;have hsz:w.heap.size<wa.heap.size:=by rw[←hwa];simp
 have hcell: ∀ j,wa.cell? ⟨w.heap.size,j,none⟩=(#[v1,v2,v3]:Array Value)[j]?:=fun j=>by rw[←hwa];exact World.cell?_alloc_at _ _ _ _ rfl
 have HK:Hid (∀ W,Below wa.heap.size wa W→W.cell? ⟨w.heap.size,0,none⟩=some v1∧W.cell? ⟨w.heap.size,1,none⟩=some v2∧W.cell? ⟨w.heap.size,2,none⟩=some v3):=fun W hb=>
  ⟨(hb.cell (p:=⟨w.heap.size,0,none⟩) hsz).trans (hcell 0),(hb.cell (p:=⟨w.heap.size,1,none⟩) hsz).trans (hcell 1),(hb.cell (p:=⟨w.heap.size,2,none⟩) hsz).trans (hcell 2)⟩
 have mixed:prog.follows .mixedOrders=true:=by kernel_rfl
 have c0:=hcell 0;have c1:=hcell 1;have c2:=hcell 2;unfold conB;generalize decB B M T P=d at *;generalize decB B M T P.dropLast=d2 at *
 have hns:1<P.length→ ∃ b o,Ap=some ⟨b,o,none⟩:=fun hl=>by
  obtain⟨b,o,e,-,-,-⟩:=hR.strAt (i:=0) (by omega)
  exact⟨b,o,e⟩
 clear h1 h2 h3 hr1 hr2 hr3 hR hcell hsz hba;unfold maxLen at hc2;by_cases e1:d= -2
 · subst e1;have q1:((-2:Int)== -2)=true:=rfl;go_enter func51,ntmps51;go_wp2_with fail;refine(HD.out _ HA.out).mono ?_;rintro e w2 ⟨rfl,hb2⟩;have HB2:=Zhd (Zaa HA.out hb2);clear hb2;go_wp2;go_ret;exact⟨rfl,HB2.out⟩
 · have q1:(d== -2)=false:=by rw[Yak];exact e1
   rw[Yai e1,Bool.false_or];by_cases e2:d= -1
   · subst e2;have q2:((-1:Int)!= -1)=false:=rfl;go_enter func51,ntmps51;go_wp2_with fail;refine(HD.out _ HA.out).mono ?_;rintro e w2 ⟨rfl,hb2⟩;have HB2:=Zhd (Zaa HA.out hb2);clear hb2;go_wp2_with fail;go_quiet (fail);go_wp2;go_ret;exact⟨rfl,Zao HB2.out _⟩
   · have q2:(d != -1)=true:=by rw[bne_iff_ne];exact e2
     rw[Yal e2,Ydw];by_cases hl:1<P.length
     · obtain⟨b,o,rfl⟩:=hns hl;obtain⟨m,hm⟩: ∃ m,P.length=m+1:=⟨P.length-1,by omega⟩
       have hl1:(1:Int)<(m:Int)+1:=by omega
       have hs2:(0:Int)≤(m:Int):=by omega
       have hs3:(m:Int)≤(cp:Int):=by omega
       have hm63:(m:Int)+1≤9223372036854775807:=by omega
       have hdm:P.length-1=m:=by omega
       rw[Yal hl,Ydw,hm];rw[hm]at HD;rw[hdm]at HDd;have HDd2:Hid (∀ W,Below w.heap.size w W→Calls prog 52 #[.agg #[v1,v2,v3], .slice (some ⟨b,o,none⟩) m cp] W fun e w'=>e= .returned (.int .i64 d2)∧Below W.heap.size W w'):=fun W hb=>HDd.out W hl hb
       have hwm:IntKind.i64.wrap ((m:Int)+1-1)=m:=by rw[IntKind.wrap_i64];omega
       have hwm2:IntKind.i64.wrap (m:Int)=m:=by rw[IntKind.wrap_i64];omega
       have hmm:(m:Int)+1-1=m:=by omega
       clear hdm hm HDd hl hcp;go_enter func51,ntmps51;go_wp2_with fail;refine(HD.out _ HA.out).mono ?_;rintro e w2 ⟨rfl,hb2⟩;have HB2:=Zhd (Zaa HA.out hb2).drew;have HBa:=Zhd hb2.drew;have HD2:=Zhd (HDd2.out w2.drew HB2.out);clear hb2;go_wp2_with fail;go_region_held3 (fun W=>W.cell? ⟨w.heap.size,0,none⟩=some v1∧W.cell? ⟨w.heap.size,1,none⟩=some v2∧W.cell? ⟨w.heap.size,2,none⟩=some v3) (first|exact HK.out _ HBc.out|exact HK.out _ HBa.out) (first|(go_at_call 52;refine HD2.out.mono ?_;rintro e w3 ⟨rfl,hb3⟩;have HBc:=Zhd (Zaa HBa.out hb3);have HB3:=Zhd (Zaa HB2.out hb3);clear hb3))
       all_goals
        go_wp2;go_ret;exact⟨rfl,HB3.out⟩
     · rw[Yai hl,Yfi];have hl01:P.length=0∨P.length=1:=by omega
       clear HDd;rcases hl01 with hl1|hl1
       all_goals
        rw[hl1];rw[hl1]at HD;go_enter func51,ntmps51;go_wp2_with fail;refine(HD.out _ HA.out).mono ?_;rintro e w2 ⟨rfl,hb2⟩;have HB2:=Zhd (Zaa HA.out hb2);clear hb2;go_wp2_with fail;go_quiet (fail);go_wp2;go_ret;exact⟨rfl,Zao HB2.out _⟩
theorem Zlw {base g n cap:Nat} {e:TypeId}: ∀ (vs xs pre post:List Value) (w:World),xs.length=vs.length→w.ownsRow base e 1 (.slice (some ⟨g,0,none⟩) n cap) n (pre++xs++post)→(w.setCells g pre.length vs).ownsRow base e 1 (.slice (some ⟨g,0,none⟩) n cap) n (pre++vs++post)
 | [],[],_,_,_,_,h=>h
 | v::r,x::s,pre,post,w,hl,h=>by
   have h1:=(h.stored pre.length v).1;rw[show(pre++x::s++post).set pre.length v=(pre++ [v])++s++post by simp[List.set_append]]at h1
   have h2:=Zlw r s (pre++ [v]) post _ (by simpa using hl) h1
   rw[Yae,Ybz]at h2;rw[World.setCells];simpa using h2
theorem Zjd {base k n:Nat} {e:TypeId} {v:Value} {xs:List Value} {w:World} (h:w.ownsRow base e k v n xs) (q:Nat):(w.drewN q).ownsRow base e k v n xs:=
 Zai h (Zao (Yag _ _) q)
theorem Zaci {w w1:World} {v:Value} {l:List ByteArray} (hown:w1.ownsRow w.heap.size 9 1 v l.length (sv l)) (hb:Below w.heap.size w w1) (hl:l.length≤100000):
 Calls prog 80 #[v] w1 fun e w'=>e= .returned (.tuple #[])∧w'.ownsRow w.heap.size 9 1 v l.length (sv l.reverse)∧Below w.heap.size w w':=by
 rcases hown.2 with⟨rfl,h0⟩|⟨g,c,cur,rfl,hg,hh,hnc,hcm,hsz,ht⟩
 · obtain rfl:l= []:=Yde.1 h0;refine(Tryz.slices_Reverse_string_empty none 0 w1).mono ?_;rintro e w' ⟨rfl,rfl⟩;exact⟨rfl,World.ownsRow_nil _ _ _ _,hb⟩
 · refine(Tryz.slices_Reverse_string_cells g 0 l.length c (fun i=>l.getD i ByteArray.empty) w1 (by omega) (fun i hi=> ?_) (fun j hj=>hown.frozenAt _)).mono ?_
   · rw[Ybi,hown.cellAt i (by omega),Zks hi];simp[hi]
   · rintro e w' ⟨rfl,q,rfl⟩;rw[Zut];have hb2:Below w.heap.size w ((w1.drewN q).setCells g 0 (sv l.reverse)):=Zjs g hg _ _ (below_drewN hb q);have h1:=Zlw (sv l.reverse) (sv l) [] [] (w1.drewN q) (by rw[Zie,Zie,Ydu]) (by simpa using Zjd hown q)
     exact⟨rfl,by simpa using h1,hb2⟩
def Zpw (w:World) (P:List ByteArray) (e:Ending) (w':World):Prop:=
 ∃ v,e= .returned (.tuple #[v, .int .i64 0])∧w'.ownsRow w.heap.size 9 1 v P.length (sv P)∧Below w.heap.size w w'
theorem Zry (A:Option Addr) (cap:Nat) (L:List Line) (n:Nat) (w:World) (hR:Rd w 3 A L.length (lines L)) (hcap:L.length≤cap) (hc:cap≤maxLen) (hr:Zab L=true) (hn:n<L.length):
 Calls prog 46 #[.slice A L.length cap, .int .i64 n] w (Zpw w (Zdg L n)):=by
 obtain⟨i0,hi,hz0,hz1,hz2⟩:=info_parts Zei;have HC:=Zhd (Zhr A cap L n w hR hcap hc)
 have HU:Hid (∀ (k:Nat) W,Below w.heap.size w W→k<L.length→Calls prog 79 #[.slice A L.length cap, .int .i64 k] W fun e w'=>e= .returned (.int .i64 (Zdd L k))∧Below W.heap.size W w'):=fun k W hb hk=>by
  have:=Zvd A cap L k W (hR.below hb) hcap hc;rw[Zgk hr hk]at this;simpa using this
 have hth:=Zgk hr hn;have h200:=Zau hr;have HR:=Zhd hR;unfold maxLen at hc;clear hR hr;go_enter func46,ntmps46;go_wp2_with fail;refine HC.out.mono ?_;rintro e w1 ⟨rfl,hb1⟩;clear HC;rw[hth];go_wp2;go_loopw [6,7] (fun v vk wr=> ∃ (k:Nat) (z:Int) (O:List ByteArray),vk= .int .i64 z∧z+1=(k:Int)∧k≤n+1∧Hid (O++ups L k=ups L (n+1))∧O.length+k≤n+1∧wr.ownsRow w.heap.size 9 1 v O.length (sv O)∧Below w.heap.size w wr) (fun _ vk _=>(intOf vk+1).toNat)
 case atStart=>exact⟨n+1,n,[],rfl,by omega,by omega,rfl,by simp,World.ownsRow_nil _ _ _ _,hb1⟩
 case round=>
  clear hb1;obtain⟨k,z,O,rfl,hzk,hk,HQ,hO,hown,hb⟩:=hrel;by_cases hk0:k=0
  · have hz:z= -1:=by omega
    subst hz
    have HF:Hid (O=ups L (n+1)):=by
     show _=_;rw[←HQ.out,hk0,Zpv,Ybg]
    obtain⟨Av,cv,rfl,-,-,-⟩:=Zbj hown;have HV:=Zhd (Zaci hown hb (by omega))
    have HL:Hid (O.reverse=Zdg L n):=by show _=_;rw[HF.out];rfl
    clear HQ hzk HU HR HF;go_wp2_with fail;refine HV.out.mono ?_;rintro e w3 ⟨rfl,hRd,hb3⟩
    have K:Hid (Zpw w (Zdg L n) (.returned (.tuple #[.slice Av O.length cv, .int .i64 0])) w3):=by
     rw[←HL.out];exact⟨.slice Av O.length cv,rfl,by rw[Ydu];exact hRd,hb3⟩
    clear HV hown hb hRd hb3 HL;go_wp2;exact bodyPost_ret (v:= .tuple #[.slice Av O.length cv, .int .i64 0]) (by simp[results,results46,go_sem]) rfl K.out
  · obtain⟨p,rfl⟩: ∃ p,k=p+1:=⟨k-1,by omega⟩
    obtain rfl:z=(p:Int):=by omega
    have hpl:p<L.length:=by omega
    obtain⟨B,Of,rfl,hab,hadd,-,x1,-⟩:=(HR.out.below hb).line hpl
    have hst:Hid (ups L (p+1)=L[p].word::ups L (Zdd L p+1).toNat):=by
     show _=_;rw[Zkk,Zbe hpl]
    have hul:=Zhs L p;have HUp:=Zhd (fun W hb=>HU.out p W hb hpl)
    generalize L[p].word=x at *;generalize Zdd L p=u at *
    have HQ2:Hid ((O++ [x])++ups L (u+1).toNat=ups L (n+1)):=by
     show _=_;rw[Ybc,←HQ.out,hst.out];rfl
    clear HQ hst HU;go_wp2_with (at_builtin;refine Zfv rfl _ _ 34 rfl w wr 9 i0 _ 1 16 underlying34 hi hz0 hz1 hz2 rfl (by decide) (by decide) hown hb rfl 1 1 [.string x] rfl rfl (by simp;rfl) (by omega) ?_;intro v' w' hown' hb')
    refine(HUp.out _ hb').mono ?_;rintro e w3 ⟨rfl,hb3⟩;have hown3:=Zai (Zgh hown') hb3;have hb4:=Zaa hb' hb3;clear hown hb hown' hb' hb3 HUp x1 hadd hab;go_wp2_with fail;go_roundw
    case rel=>exact⟨(u+1).toNat,u,O++ [x],rfl,by omega,by omega,HQ2,by simp;omega,hown3,hb4⟩
    case measure=>simp[intOf];omega
end Go.Proofs.Zq
namespace Edt
open Go Go.Lib Tre Sch Lns
def Zic (st:List ByteArray→Int) (q:List ByteArray):Line:=⟨((q.length-1:Nat):Int),q.getLastD ⟨#[]⟩,st q⟩
def ofS (S:List (List ByteArray)) (st:List ByteArray→Int):List Line:=S.map (Zic st)
def okP (q:List ByteArray):Prop:=q≠ []∧q.length≤16∧(q.getLastD ⟨#[]⟩).size≤40
theorem Zlt (S:List (List ByteArray)) (st:List ByteArray→Int):(ofS S st).length=S.length:=by unfold ofS;rw[Yay]
theorem Zahq {st:List ByteArray→Int}: ∀ {S:List (List ByteArray)},(∀ q∈S,okP q∧0≤st q∧st q≤3)→Zgr S (ofS S st)
 | [],_=>trivial
 | q::S,h=>by
   obtain⟨⟨h1,h2,h3⟩,h4,h5⟩:=h q (Ycg ..);refine⟨⟨?_,rfl,rfl⟩,Zahq fun x hx=>h x (Yca _ hx)⟩
   have h6:0<q.length:=Ydf.2 h1;unfold Zco Zic;simp only;rw[Yal (by omega),Yal (by omega),Yal h3,Yal h4,Yal h5];rfl
theorem Zpb {S:List (List ByteArray)} {st:List ByteArray→Int} (hs:Zacv S) (hl:S.length≤200) (h: ∀ q∈S,okP q∧0≤st q∧st q≤3):
 Zab (ofS S st)=true∧Zad (ofS S st)=S∧(∀ q,q∈S→stB (ofS S st) q=st q)∧ ∀ q,¬ q∈S→stB (ofS S st) q= -1:=by
 obtain⟨h1,h2,h3⟩:=Zaye (Zahq h) hs (by rw[Zlt];exact hl)
 refine⟨h1,h2,fun q hq=> ?_,fun q hq=> ?_⟩
 · obtain⟨k,hk,rfl⟩:=Ybs hq;obtain⟨hk',e⟩:=h3 k (by rw[Zlt];exact hk)
   rw[e];unfold ofS;rw[Ycz];rfl
 · exact st_none h1 (by rw[h2];exact hq)
theorem Zjg {L:List Line} (hr:Zab L=true) {q:List ByteArray} (h:q∈Zad L):okP q:=by
 obtain⟨k,l,h1,h2,hk,-⟩:=Zyc hr h;have e:pa L k=q:=by
  rw[Zfu hk];rw[Yaj (by rw[Zaf];exact hk)]at h1
  injection h1
 have hd:=(Zac hr).2.1;have h3:=Zbz hd hk;have h4:=Zcf hd hk;have h5:=Zel hr hk;have h6:=(sound_mark (Zcy hd k hk).1).2.2;rw[Zbe hk]at h5;rw[e]at h3 h5;exact⟨fun e2=>by rw[e2]at h3;simp at h3,by omega,by rw[h5];exact h6⟩
theorem Zayd {L:List Line} (hr:Zab L=true):ofS (Zad L) (stB L)=L:=by
 have hq: ∀ q∈Zad L,okP q∧0≤stB L q∧stB L q≤3:=fun q h=>⟨Zjg hr h,(Zdt hr).1 h,(Zacq hr q).2⟩
 obtain⟨h1,h2,h3,h4⟩:=Zpb (Zcx hr).1 (by rw[Zaf];exact(Zac hr).1) hq
 refine tree_eq h1 hr fun P=> ?_
 by_cases hP:P∈Zad L
 · exact h3 P hP
 · rw[h4 P hP,st_none hr hP]
theorem Zuz {S:List (List ByteArray)} (hs:Zacv S) {f:List ByteArray→Bool} (hf: ∀ q∈S,f q=true→q.dropLast= []∨f q.dropLast=true):Zacv (S.filter f):=by
 refine⟨hs.1.filter _,fun q hq=> ?_⟩
 obtain⟨h1,h2⟩:=Ycu.1 hq;obtain⟨h3,h4⟩:=hs.2 q h1;refine⟨h3, ?_⟩;rcases hf q h1 h2 with h5|h5
 · exact .inr h5
 · rcases h4 with h4|h4
   · exact .inl (Ycu.2 ⟨h4,h5⟩)
   · exact .inr h4
end Edt
namespace Go.Proofs
open Go.Shelf
def Tryz.lays109_ren:Go.Shelf.Ren:=⟨fun|109=>124|n=>n,fun|31=>34|9=>9|3=>3|0=>0|4=>4|n=>n,fun|n=>n⟩
theorem Tryz.lays109:Go.Proofs.Lays.n109 prog Tryz.lays109_ren:={
 mixed:=by kernel_rfl
 f109:=func124.trans (congrArg some (by kernel_rfl))
 t0:=underlying0
 a0:=Tryz.isAgg0
 z0:=Tryz.sizeOf0
 v0:=Tryz.zeroValue0
 t3:=underlying3
 a3:=Tryz.isAgg3
 z3:=Tryz.sizeOf3
 v3:=Tryz.zeroValue3
 t4:=underlying4
 a4:=Tryz.isAgg4
 z4:=Tryz.sizeOf4
 v4:=Tryz.zeroValue4
 t9:=underlying9
 a9:=Tryz.isAgg9
 z9:=Tryz.sizeOf9
 v9:=Tryz.zeroValue9
 t31:=underlying34
 a31:=Tryz.isAgg34
 z31:=Tryz.sizeOf34
 v31:=Tryz.zeroValue34}
open Go.Lib in
theorem Tryz.slices_Index_string (b off n c:Nat) (zs:List ByteArray) (x:ByteArray) (w:World) (hz:n≤zs.length) (hbig:n≤9223372036854775807) (hc: ∀ j,j<zs.length→w.cell? ⟨b,off+j,none⟩=some (.string (zs.getD j ByteArray.empty))):
 Calls prog 124 #[.slice (some ⟨b,off,none⟩) n c, .string x] w fun e w'=>e= .returned (.int .i64 (Lib.idxOfS (zs.take n) x))∧w'=w:=Any.slices_Index_string Tryz.lays109 b off n c zs x w hz hbig hc
open Go.Lib in
theorem Tryz.slices_Index_string_empty (a:Option Addr) (c:Nat) (x:ByteArray) (w:World):
 Calls prog 124 #[.slice a 0 c, .string x] w fun e w'=>e= .returned (.int .i64 (Lib.idxOfS [] x))∧w'=w:=Any.slices_Index_string_empty Tryz.lays109 a c x w
def Tryz.lays193_ren:Go.Shelf.Ren:=⟨fun|193=>86|n=>n,fun|31=>34|9=>9|4=>4|3=>3|0=>0|n=>n,fun|n=>n⟩
theorem Tryz.lays193:Go.Proofs.Lays.n193 prog Tryz.lays193_ren:={
 mixed:=by kernel_rfl
 f193:=func86.trans (congrArg some (by kernel_rfl))
 t0:=underlying0
 a0:=Tryz.isAgg0
 z0:=Tryz.sizeOf0
 v0:=Tryz.zeroValue0
 t3:=underlying3
 a3:=Tryz.isAgg3
 z3:=Tryz.sizeOf3
 v3:=Tryz.zeroValue3
 t4:=underlying4
 a4:=Tryz.isAgg4
 z4:=Tryz.sizeOf4
 v4:=Tryz.zeroValue4
 t9:=underlying9
 a9:=Tryz.isAgg9
 z9:=Tryz.sizeOf9
 v9:=Tryz.zeroValue9
 t31:=underlying34
 a31:=Tryz.isAgg34
 z31:=Tryz.sizeOf34
 v31:=Tryz.zeroValue34}
open Go.RowKit Go.Lib in
theorem Tryz.slices_Equal_string (b1 o1 n c b2 o2 m d:Nat) (xs ys:List ByteArray) (w:World) (hx:n≤xs.length) (hy:m≤ys.length) (hbig:n≤9223372036854775807) (hbig2:m≤9223372036854775807) (hc1: ∀ j,j<xs.length→w.cell? ⟨b1,o1+j,none⟩=some (.string (xs.getD j ByteArray.empty))) (hc2: ∀ j,j<ys.length→w.cell? ⟨b2,o2+j,none⟩=some (.string (ys.getD j ByteArray.empty))):
 Calls prog 86 #[.slice (some ⟨b1,o1,none⟩) n c, .slice (some ⟨b2,o2,none⟩) m d] w fun e w'=>e= .returned (.bool (decide (xs.take n=ys.take m)))∧ ∃ q,w'=w.drewN q:=Any.slices_Equal_string Tryz.lays193 b1 o1 n c b2 o2 m d xs ys w hx hy hbig hbig2 hc1 hc2
open Go.RowKit Go.Lib in
theorem Tryz.slices_Equal_string_empty (a1 a2:Option Addr) (c m d:Nat) (w:World) (hbig2:m≤9223372036854775807):
 Calls prog 86 #[.slice a1 0 c, .slice a2 m d] w fun e w'=>e= .returned (.bool (decide (m=0)))∧w'=w:=Any.slices_Equal_string_empty Tryz.lays193 a1 a2 c m d w hbig2
open Go.RowKit Go.Lib in
theorem Tryz.slices_Equal_string_lens (a1 a2:Option Addr) (n c m d:Nat) (w:World) (hnm:n≠m):
 Calls prog 86 #[.slice a1 n c, .slice a2 m d] w fun e w'=>e= .returned (.bool false)∧w'=w:=Any.slices_Equal_string_lens Tryz.lays193 a1 a2 n c m d w hnm
end Go.Proofs
namespace Edt
open Go Go.Lib Go.Sort Tre Prs Lns
def cmpS (a b:ByteArray):Int:=compareBytes a.data.toList b.data.toList
def cmpL:List ByteArray→List ByteArray→Int
 | [],[]=>0
 | [],_::_=> -1
 |_::_,[]=>1
 |x::a,y::b=>if cmpS x y≠0 then cmpS x y else cmpL a b
theorem Zani (x y:ByteArray) (a b:List ByteArray):cmpL (x::a) (y::b)=if cmpS x y≠0 then cmpS x y else cmpL a b:=by rw[cmpL]
theorem Zahj (a b:ByteArray):Op.bytesLess a.toList b.toList=decide (cmpS a b<0):=by
 unfold cmpS;rw[Proofs.bytesLess_eq,Lib.toList_data,Lib.toList_data,decide_eq_decide];exact Zsp.symm
theorem Zavu (a b:ByteArray):cmpS a b<0↔a.toList<b.toList:=by
 unfold cmpS;rw[Lib.toList_data,Lib.toList_data];exact Zsp
theorem Zge {a b:ByteArray}:cmpS a b=0↔a=b:=by
 constructor
 · intro h;exact ByteArray.ext (Yec.1 (Zqe h))
 · rintro rfl;exact Zana _
theorem Zavv (a b:ByteArray):cmpS a b= -1∨cmpS a b=0∨cmpS a b=1:=by
 unfold cmpS;generalize a.data.toList=x;generalize b.data.toList=y
 induction x generalizing y with
 |nil=>cases y<;>simp[compareBytes]
 | cons c x ih=>
   cases y with
   |nil=>simp[compareBytes]
   | cons d y=>
     unfold compareBytes;split
     · exact .inl rfl
     · split
       · exact .inr (.inr rfl)
       · exact ih y
theorem Zju: ∀ {a b:List ByteArray},cmpL a b<0↔pLt a b
 | [],[]=>⟨fun h=>by simp[cmpL]at h,fun h=>absurd h (Zby _)⟩
 | [],y::b=>⟨fun _=>Zaew _ _,fun _=>by simp[cmpL]⟩
 |x::a,[]=>⟨fun h=>by simp[cmpL]at h,fun h=>absurd h (Zkf _)⟩
 | x ::a,y::b=>by
   rw[Zfh,←Zavu];unfold cmpL;by_cases h:cmpS x y=0
   · rw[Yab (fun e=>e h),Zju (a:=a) (b:=b),h]
     have e:=Zge.1 h;exact⟨fun g=> .inr ⟨e,g⟩,fun g=>g.elim (fun g=>by omega) (·.2)⟩
   · rw[Yam h];exact⟨.inl,fun g=>g.elim id fun g=>absurd (Zge.2 g.1) h⟩
theorem Ziu: ∀ {a b:List ByteArray},cmpL a b=0↔a=b
 | [],[]=>⟨fun _=>rfl,fun _=>rfl⟩
 | [],y::b=>⟨fun h=>by simp[cmpL]at h,fun h=>by cases h⟩
 |x::a,[]=>⟨fun h=>by simp[cmpL]at h,fun h=>by cases h⟩
 | x ::a,y::b=>by
   unfold cmpL;by_cases h:cmpS x y=0
   · rw[Yab (fun e=>e h),Ziu (a:=a) (b:=b),Zge.1 h]
     exact⟨fun g=>by rw[g],fun g=>by injection g⟩
   · rw[Yam h];exact⟨fun g=>absurd g h,fun g=>absurd (Zge.2 (by injection g)) h⟩
theorem Zoi: ∀ (a b:List ByteArray),cmpL a b<0↔0<cmpL b a
 | [],[]=>by simp[cmpL]
 | [],y::b=>by simp[cmpL]
 |x::a,[]=>by simp[cmpL]
 | x::a,y::b=>by
   have h1:cmpS x y<0↔0<cmpS y x:=Zso _ _;have h2:cmpS x y=0↔cmpS y x=0:=by rw[Zge,Zge];exact⟨Eq.symm,Eq.symm⟩
   unfold cmpL;by_cases h:cmpS x y=0
   · rw[Yab (fun e=>e h),Yab (fun e=>e (h2.1 h)),Zoi a b]
   · rw[Yam h,Yam (fun e=>h (h2.2 e)),h1]
theorem Zayq:Pre cmpL where
 same a:=Ziu.2 rfl
 anti:=Zoi
 trans a b d h1 h2:=by
  rcases Yek h1 with h3|h3
  · rcases Yek h2 with h4|h4
    · have:=Zju.2 (Zcl (Zju.1 h3) (Zju.1 h4));omega
    · rw[←Ziu.1 h4];exact h1
  · rw[Ziu.1 h3];exact h2
end Edt
namespace Go.Proofs.Zq
open Tryz
open Go Go.RowKit Go.Sort Tre Lx Prs Lns Edt
theorem Zabl (s:ByteArray) (w:World):Calls prog 164 #[.string s] w fun e w'=>e= .returned (.bool false)∧w'=w:=by
 go_enter func164,ntmps164;go_wp2;go_ret;exact⟨by simp,rfl⟩
theorem Zavw (s t:ByteArray) (w:World):Calls prog 123 #[.string s, .string t] w fun e w'=>e= .returned (.int .i64 (cmpS s t))∧w'=w:=by
 have H1:=Zhd (fun W=>Zabl s W)
 have H2:=Zhd (fun W=>Zabl t W)
 have h1:=Zahj s t;have h2:=Zahj t s;have h3:cmpS s t<0↔0<cmpS t s:=Zso _ _;have h4:cmpS t s<0↔0<cmpS s t:=Zso _ _;have hv:=Zavv s t
 have key: ∀ (z:Int) (q1 q2:Bool),Hid (q1=true∧z= -1∨q1=false∧q2=false∧z=1∨q1=false∧q2=true∧z=0)→Op.bytesLess s.toList t.toList=q1→(s.toList==t.toList)=q2→Calls prog 123 #[.string s, .string t] w fun e w'=>e= .returned (.int .i64 z)∧w'=w:=by
  clear h1 h2 h3 h4 hv;intro z q1 q2 hq e1 e2;rcases hq.out with⟨rfl,rfl⟩|⟨rfl,rfl,rfl⟩|⟨rfl,rfl,rfl⟩
  all_goals
   clear hq;go_enter func123,ntmps123;go_wp2_with fail;refine(H1.out w).mono ?_;rintro e w' ⟨rfl,rfl⟩;go_wp2_with fail;refine(H2.out w').mono ?_;rintro e w' ⟨rfl,rfl⟩;go_wp2;go_ret;exact⟨rfl,rfl⟩
 rcases hv with hv|hv|hv
 · exact key _ _ _ (.inl ⟨rfl,hv⟩) (by rw[h1,hv];rfl) rfl
 · exact key _ _ _ (.inr (.inr ⟨rfl,rfl,hv⟩)) (by rw[h1,hv];rfl) (by rw[Zge.1 hv];exact beq_self_eq_true _)
 · exact key _ _ _ (.inr (.inl ⟨rfl,rfl,hv⟩)) (by rw[h1,hv];rfl) (by
    rw[Yak];intro e;have:=Zge.2 (Zlc e);omega)
theorem Zavt (A A2:Option Addr) (c c2:Nat) (P P2:List ByteArray) (w:World) (hR:Rd w 1 A P.length (sv P)) (hR2:Rd w 1 A2 P2.length (sv P2)) (hl:P.length≤1000000) (hl2:P2.length≤1000000):
 Calls prog 83 #[.slice A P.length c, .slice A2 P2.length c2] w fun e w'=>e= .returned (.int .i64 (cmpL P P2))∧w'=w:=by
 have HR:=Zhd hR;have HR2:=Zhd hR2;have HC:=Zhd (fun s t W=>Zavw s t W)
 clear hR hR2;go_enter func83,ntmps83;go_wp2;go_loopw [11] (fun vi wr=> ∃ k:Nat,k≤P.length∧k≤P2.length∧vi= .int .i64 k∧Hid (cmpL P P2=cmpL (P.drop k) (P2.drop k))∧wr=w) (fun vi _=>P.length-(intOf vi).toNat)
 case atStart=>exact⟨0,Yas _,Yas _,rfl,rfl,rfl⟩
 case round=>
  obtain⟨k,hk,hk2,rfl,HQ,rfl⟩:=hrel;by_cases hlt:k<P.length
  · obtain⟨b,o,rfl,hab,hadd,x1⟩:=HR.out.strAt hlt;have hd:P.drop k=P[k]::P.drop (k+1):=Yaz hlt;by_cases hlt2:k<P2.length
    · obtain⟨b2,o2,rfl,hab2,hadd2,x2⟩:=HR2.out.strAt hlt2;have hd2:P2.drop k=P2[k]::P2.drop (k+1):=Yaz hlt2;have hq:=HQ.out;rw[hd,hd2,Zani]at hq;have hge: ¬ (P2.length:Int)≤(k:Int):=by omega
      clear HQ hd hd2;generalize P[k]=s at *;generalize P2[k]=t at *;have HC2:=Zhd (HC.out s t wr);by_cases hz:cmpS s t=0
      · rw[Yab (fun e=>e hz)]at hq
        rw[hz]at HC2;have HQ2:=Zhd hq;clear hq hz;go_wp2_with fail;refine HC2.out.mono ?_;rintro e w' ⟨rfl,rfl⟩;go_wp2;go_roundw
        case rel=>exact⟨k+1,by omega,by omega,by go_num,HQ2,by first|trivial|rfl⟩
        case measure=>simp[intOf];omega
      · rw[Yam hz]at hq;have HQ2:=Zhd hq;have qz:(cmpS s t !=0)=true:=by rw[bne_iff_ne];exact hz
        clear hq hz;generalize cmpS s t=z at *;go_wp2_with fail;refine HC2.out.mono ?_;rintro e w' ⟨rfl,rfl⟩;go_wp2;go_ret;exact⟨Zcb HQ2.out.symm,rfl⟩
    · have hq:=HQ.out;rw[hd,show P2.drop k= []from Ybe (by omega)]at hq
      have HQ2:Hid (cmpL P P2=1):=hq;have hge:(P2.length:Int)≤(k:Int):=by omega
      clear HQ hd hq;go_wp2;go_ret;exact⟨Zcb HQ2.out.symm,rfl⟩
  · have hke:k=P.length:=by omega
    have hq:=HQ.out;rw[show P.drop k= []from Ybe (by omega)]at hq
    clear HQ;by_cases hlt2:P.length<P2.length
    · have hI:(P.length:Int)<(P2.length:Int):=by omega
      have HQ2:Hid (cmpL P P2= -1):=by
       show _=_;rw[hq,show P2.drop k=P2[k]::P2.drop (k+1)from Yaz (by omega)];rfl
      clear hq;go_wp2;go_ret;exact⟨Zcb HQ2.out.symm,rfl⟩
    · have hI: ¬ (P.length:Int)<(P2.length:Int):=by omega
      have HQ2:Hid (cmpL P P2=0):=by
       show _=_;rw[hq,show P2.drop k= []from Ybe (by omega)];rfl
      clear hq;go_wp2;go_ret;exact⟨Zcb HQ2.out.symm,rfl⟩
end Go.Proofs.Zq
