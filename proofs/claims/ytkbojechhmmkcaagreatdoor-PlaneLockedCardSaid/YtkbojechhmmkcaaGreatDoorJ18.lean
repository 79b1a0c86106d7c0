import Derived.Test.YtkbojechhmmkcaaGreatDoorJ17
set_option linter.unusedVariables false
set_option linter.unusedSimpArgs false
set_option maxHeartbeats 4000000
set_option maxRecDepth 100000
namespace Edt
open Go Go.Lib Tre Lns
def Zyu (l:Line) (b:Int) (on:Bool):Line:=⟨l.depth,l.word,if on then bits .or .i64 l.mark b else bits .andNot .i64 l.mark b⟩
def Zgr (L:List Line) (P:List ByteArray) (b:Int) (on:Bool):List Line×Int:=
 if b≠1∧b≠2 then(L,1)else if P.length=0 then(L,1)else match Zar L P with
  |none=>(L,3)
  |some k=>if Zow L P||(decide (b=1)&&(bits .and .i64 (Zdv L k).mark 2 !=0))then(L,12)else(L.set k (Zyu (Zdv L k) b on),0)
theorem Zarj {L:List Line} {P:List ByteArray} {b:Int} {on:Bool} (h1:b≠1) (h2:b≠2):Zgr L P b on=(L,1):=by unfold Zgr;rw[Yan ⟨h1,h2⟩]
theorem Zark {L:List Line} {P:List ByteArray} {b:Int} {on:Bool} (hb:b=1∨b=2) (h:P.length=0):Zgr L P b on=(L,1):=by unfold Zgr;rw[Yad (by omega),Yan h]
theorem Zalq {L:List Line} {P:List ByteArray} {b:Int} {on:Bool} (hb:b=1∨b=2) (h:P.length≠0) (hf:Zar L P=none):Zgr L P b on=(L,3):=by unfold Zgr;rw[Yad (by omega),Yad h,hf]
theorem Zalr {L:List Line} {P:List ByteArray} {b:Int} {on:Bool} {k:Nat} (hb:b=1∨b=2) (h:P.length≠0) (hf:Zar L P=some k) (hk:k<L.length):Zgr L P b on=if Zow L P||(decide (b=1)&&(bits .and .i64 L[k].mark 2 !=0))then(L,12)else(L.set k (Zyu L[k] b on),0):=by unfold Zgr;rw[Yad (by omega),Yad h,hf];simp only;rw[Zdm hk]
end Edt
namespace Go.Proofs.Zq
open Tryz
open Go Go.RowKit Go.Sort Tre Lx Prs Lns Edt
theorem Zavt {w:World} {base q n cc k:Nat} {L:List Line} {m:Int} (hn:L.length=n) (ho:w.ownsRow base 62 3 (.slice (some ⟨q,0,none⟩) n cc) n (lines L)) (hk:k<L.length):
 Rd (w.setCell ⟨q,k*3+2,none⟩ (.int .i64 m)) 3 (some ⟨q,0,none⟩) n (lines (L.set k ⟨L[k].depth,L[k].word,m⟩)):=by
 have hll:=Zad L;obtain⟨-,hgl⟩:=ho.lt q rfl
 have hc: ∀ t u,(lines L)[t]?=some u→w.cell? ⟨q,t,none⟩=some u:=fun t u hu=>by
  have ht:=(Yba.1 hu).1;rw[ho.cellAt t (by omega)];exact hu
 refine⟨by rw[Zad,Ycm,hn],fun _=>⟨_,rfl,by simpa using hgl,fun t u hu=> ?_⟩⟩
 rw[Zag,Ybj];have ht:t<L.length*3:=by
  have:=(Yba.1 hu).1
  rwa [Zad,Ycm]at this
 have hti:t/3<L.length:=by omega
 have e1:=Zhu (L.set k ⟨L[k].depth,L[k].word,m⟩) (t/3) (t%3) (by rw[Ycm];exact hti) (by omega)
 have e2:=Zhu L (t/3) (t%3) hti (by omega)
 rw[show t/3*3+t%3=t by omega]at e1 e2
 rw[e1,List.getElem_set]at hu;by_cases h:t=k*3+2
 · have hq:k=t/3:=by omega
   rw[Yan hq,show t%3=2 by omega]at hu
   have hlt:k*3+2<(lines L).length:=by omega
   have hsome:=hc _ _ (Yaj hlt);rw[h,World.cell?_setCell_same _ _ _ hsome];simpa[Line.cells]using hu
 · rw[World.cell?_setCell_other _ _ _ _ (fun e=>h (by injection e with _ e2 _;omega))]
   by_cases hq:k=t/3
   · rw[Yan hq]at hu;refine hc t u ?_;rw[e2];have h3:t%3=0∨t%3=1:=by omega
     subst hq;rcases h3 with h3|h3<;>rw[h3]at hu⊢ <;>simpa[Line.cells]using hu
   · rw[Yad hq]at hu;exact hc t u (by rw[e2];exact hu)
theorem Zakd (A :Option Addr) (cap:Nat) (L:List Line) (Ap:Option Addr) (cp:Nat) (P:List ByteArray) (b:Int) (on:Bool) (w:World) (hR:Rd w 3 A L.length (lines L)) (hcap:L.length≤cap) (hc:cap≤maxLen) (hnil:A=none→cap=0) (hr:Zab L=true) (hP:Rd w 1 Ap P.length (sv P)) (hcp:P.length≤cp) (hc2:cp≤maxLen):
 Calls prog 37 #[.slice A L.length cap, .slice Ap P.length cp, .int .i64 b, .bool on] w (Zhc (Zgr L P b on) w):=by
 have HPa:=Zhd (Zpz A cap L Ap cp P w hR hcap hc hr hP hcp hc2);have HL:Hid (∀ W,Below w.heap.size w W→Lr W (.slice A L.length cap) L):=fun W hb=>⟨A,cap,rfl,hcap,hc,hR.below hb,hnil⟩
 have h200:=Zas hr;obtain⟨z,hz⟩: ∃ z,Zgr L P b on=z:=⟨_,rfl⟩;have HZ:=Zhd hz;unfold Zhc;rw[hz];clear hz;by_cases hb:b=1∨b=2
 · have hq12 : (b !=1)=true→(b !=2)=false:=fun h=>by rw[bne_iff_ne]at h;rcases hb with e|e;exact absurd e h;rw[e];rfl
   by_cases h0:P.length=0
   · have HK:Hid (z=(L,1)):=by show _=_;rw[←HZ.out,Zark hb h0]
     rw[Znh h0]at HPa;clear HZ hR hP hr h0 hq12;rcases hb with rfl|rfl
     all_goals
      go_enter func37,ntmps37;go_wp2_with fail;refine HPa.out.mono ?_;rintro e w2 ⟨rfl,hb2⟩;go_wp2;go_ret2;rw[HK.out];exact⟨⟨_,rfl,HL.out _ hb2⟩,hb2⟩
   · cases hf : Zar L P with
     | none=>
       have HK:Hid (z=(L,3)):=by show _=_;rw[←HZ.out,Zalq hb h0 hf]
       rw[Zkg h0 hf]at HPa;clear HZ hR hP hr h0 hf hq12;rcases hb with rfl|rfl
       all_goals
        go_enter func37,ntmps37;go_wp2_with fail;refine HPa.out.mono ?_;rintro e w2 ⟨rfl,hb2⟩;go_wp2;go_ret2;rw[HK.out];exact⟨⟨_,rfl,HL.out _ hb2⟩,hb2⟩
     | some k =>
       have hk:=Zce hf;have HZ2:=Zhd (HZ.out.symm.trans (Zalr (on:=on) hb h0 hf hk));rw[Zkh h0 hf]at HPa;have HAb:=Zhd (fun(W:World) (hbw:Below w.heap.size w W)=>Zxf A cap L Ap cp P W (hR.below hbw) hcap hc hr (hP.below hbw) hcp hc2 h0)
       have HCl:=Zhd (fun(W:World) (hbw:Below w.heap.size w W)=>Zeh A cap L W (hR.below hbw) hnil (by omega))
       unfold Zcd at HCl;obtain⟨B,O,rfl,hab,hadd,-,-,y2⟩:=hR.line hk;have hk1:(k:Int)<(L.length:Int):=by omega
       have HY:Hid (∀ W,Below w.heap.size w W→W.cell? ⟨B,O+k*3+2,none⟩=some (.int .i64 L[k].mark)):=fun W hbw=>(hbw.cell (p:=⟨B,O+k*3+2,none⟩) hab).trans y2
       have HMk:=Zhd (fun(W:World) (base q cc:Nat) (ho:W.ownsRow base 62 3 (.slice (some ⟨q,0,none⟩) L.length cc) L.length (lines L)) (m:Int)=>Zavt (m:=m) rfl ho hk)
       have HLk:=Zhd (Zhu L k 2 hk (by omega))
       unfold Zyu at HZ2;clear HZ hP hr h0 hf y2;generalize endB L k=E at *;obtain⟨ln,hln⟩: ∃ ln,L[k]=ln:=⟨_,rfl⟩;rw[hln]at HZ2 HY HMk HLk;obtain⟨ld,lw,lm⟩:=ln;simp only at HZ2 HY HMk HLk;clear hln hR;cases hab2:Zow L P with
       | true=>
         rw[hab2]at HZ2 HAb;have HK:Hid (z=(L,12)):=by show _=_;rw[HZ2.out];rfl
         clear HZ2 HY HMk HCl HLk hab2 hq12;rcases hb with rfl|rfl
         all_goals
          go_enter func37,ntmps37;go_wp2_with fail;refine HPa.out.mono ?_;rintro e w2 ⟨rfl,hb2⟩;have HA2:=Zhd (HAb.out w2 hb2);have HB2:=Zhd hb2;clear hb2;go_wp2_with fail;refine HA2.out.mono ?_;rintro e w3 ⟨rfl,hb3⟩;have HB3:=Zhd (Zaa HB2.out hb3);go_wp2;go_ret2;rw[HK.out];exact⟨⟨_,rfl,HL.out _ HB3.out⟩,HB3.out⟩
       | false =>
         rw[hab2]at HZ2 HAb;clear hab2 hq12;rcases hb with rfl|rfl
         · cases hq:(bits .and .i64 lm 2 !=0)with
           | true=>
             rw[hq]at HZ2;have HK:Hid (z=(L,12)):=by show _=_;rw[HZ2.out];rfl
             clear HZ2;go_enter func37,ntmps37;go_wp2_with fail;refine HPa.out.mono ?_;rintro e w2 ⟨rfl,hb2⟩;have HA2:=Zhd (HAb.out w2 hb2);have HB2:=Zhd hb2;clear hb2;go_wp2_with fail;refine HA2.out.mono ?_;rintro e w3 ⟨rfl,hb3⟩;have HB3:=Zhd (Zaa HB2.out hb3);have y2:=HY.out w3 HB3.out;clear hb3 HA2;go_wp2;go_ret2;rw[HK.out];exact⟨⟨_,rfl,HL.out _ HB3.out⟩,HB3.out⟩
           | false=>
             rw[hq]at HZ2;cases on with
             | true=>
               have HK:Hid (z=(L.set k ⟨ld,lw,bits .or .i64 lm 1⟩,0)):=by show _=_;rw[HZ2.out];rfl
               clear HZ2;go_enter func37,ntmps37;go_wp2_with fail;refine HPa.out.mono ?_;rintro e w2 ⟨rfl,hb2⟩;have HA2:=Zhd (HAb.out w2 hb2);have HB2:=Zhd hb2;clear hb2;go_wp2_with fail;refine HA2.out.mono ?_;rintro e w3 ⟨rfl,hb3⟩;have HB3:=Zhd (Zaa HB2.out hb3);have y2:=HY.out w3 HB3.out;clear hb3 HA2;have HC3:=Zhd (HCl.out w3 HB3.out);go_wp2_with fail;refine HC3.out.mono ?_;rintro e w4 ⟨⟨v4,rfl,ho4⟩,hb4⟩;obtain⟨m,hm⟩: ∃ m,L.length=m+1:=⟨L.length-1,by omega⟩
               have ho4':=ho4;rw[hm]at ho4';obtain⟨q,cc,rfl⟩:=Zck ho4';rw[←hm]at ho4⊢;obtain⟨A4,c4,e4,hn4,hm4,-⟩:=Zbe ho4;obtain⟨rfl,rfl⟩:A4=some ⟨q,0,none⟩∧cc=c4:=by
                injection e4 with e1 _ e3
                exact⟨e1.symm,e3⟩
               have x2:w4.cell? ⟨q,k*3+2,none⟩=some (.int .i64 lm):=by
                rw[ho4.cellAt (k*3+2) (by have:=Zad L;omega)]
                exact HLk.out.trans rfl
               have hfz:w4.frozen? ⟨q,k*3+2,none⟩=false:=ho4.frozenAt _;have HR4:=Zhd (HMk.out w4 _ q cc ho4 (bits .or .i64 lm 1));have HB4:=Zhd ((Zaa HB3.out hb4).setCell (p:=⟨q,k*3+2,none⟩) (Yas HB3.out.size (ho4.lt q rfl).1) (.int .i64 (bits .or .i64 lm 1)));have hls:(L.set k ⟨ld,lw,bits .or .i64 lm 1⟩).length=L.length:=Ycm;clear ho4 ho4' hm e4 hb4 HC3 y2;go_wp2;go_ret2;rw[HK.out];exact⟨⟨.slice (some ⟨q,0,none⟩) L.length cc,rfl,some ⟨q,0,none⟩,cc,by rw[hls],by rw[hls];exact hn4,hm4,by rw[hls];exact HR4.out,fun h=>by cases h⟩,HB4.out⟩
             | false=>
               have HK:Hid (z=(L.set k ⟨ld,lw,bits .andNot .i64 lm 1⟩,0)):=by show _=_;rw[HZ2.out];rfl
               clear HZ2;go_enter func37,ntmps37;go_wp2_with fail;refine HPa.out.mono ?_;rintro e w2 ⟨rfl,hb2⟩;have HA2:=Zhd (HAb.out w2 hb2);have HB2:=Zhd hb2;clear hb2;go_wp2_with fail;refine HA2.out.mono ?_;rintro e w3 ⟨rfl,hb3⟩;have HB3:=Zhd (Zaa HB2.out hb3);have y2:=HY.out w3 HB3.out;clear hb3 HA2;have HC3:=Zhd (HCl.out w3 HB3.out);go_wp2_with fail;refine HC3.out.mono ?_;rintro e w4 ⟨⟨v4,rfl,ho4⟩,hb4⟩;obtain⟨m,hm⟩: ∃ m,L.length=m+1:=⟨L.length-1,by omega⟩
               have ho4':=ho4;rw[hm]at ho4';obtain⟨q,cc,rfl⟩:=Zck ho4';rw[←hm]at ho4⊢;obtain⟨A4,c4,e4,hn4,hm4,-⟩:=Zbe ho4;obtain⟨rfl,rfl⟩:A4=some ⟨q,0,none⟩∧cc=c4:=by
                injection e4 with e1 _ e3
                exact⟨e1.symm,e3⟩
               have x2:w4.cell? ⟨q,k*3+2,none⟩=some (.int .i64 lm):=by
                rw[ho4.cellAt (k*3+2) (by have:=Zad L;omega)]
                exact HLk.out.trans rfl
               have hfz:w4.frozen? ⟨q,k*3+2,none⟩=false:=ho4.frozenAt _;have HR4:=Zhd (HMk.out w4 _ q cc ho4 (bits .andNot .i64 lm 1));have HB4:=Zhd ((Zaa HB3.out hb4).setCell (p:=⟨q,k*3+2,none⟩) (Yas HB3.out.size (ho4.lt q rfl).1) (.int .i64 (bits .andNot .i64 lm 1)));have hls:(L.set k ⟨ld,lw,bits .andNot .i64 lm 1⟩).length=L.length:=Ycm;clear ho4 ho4' hm e4 hb4 HC3 y2;go_wp2;go_ret2;rw[HK.out];exact⟨⟨.slice (some ⟨q,0,none⟩) L.length cc,rfl,some ⟨q,0,none⟩,cc,by rw[hls],by rw[hls];exact hn4,hm4,by rw[hls];exact HR4.out,fun h=>by cases h⟩,HB4.out⟩
         · have q21:((2:Int)==1)=false:=rfl;cases on with
           | true=>
             have HK:Hid (z=(L.set k ⟨ld,lw,bits .or .i64 lm 2⟩,0)):=by show _=_;rw[HZ2.out];rfl
             clear HZ2;go_enter func37,ntmps37;go_wp2_with fail;refine HPa.out.mono ?_;rintro e w2 ⟨rfl,hb2⟩;have HA2:=Zhd (HAb.out w2 hb2);have HB2:=Zhd hb2;clear hb2;go_wp2_with fail;refine HA2.out.mono ?_;rintro e w3 ⟨rfl,hb3⟩;have HB3:=Zhd (Zaa HB2.out hb3);have y2:=HY.out w3 HB3.out;clear hb3 HA2;have HC3:=Zhd (HCl.out w3 HB3.out);go_wp2_with fail;refine HC3.out.mono ?_;rintro e w4 ⟨⟨v4,rfl,ho4⟩,hb4⟩;obtain⟨m,hm⟩: ∃ m,L.length=m+1:=⟨L.length-1,by omega⟩
             have ho4':=ho4;rw[hm]at ho4';obtain⟨q,cc,rfl⟩:=Zck ho4';rw[←hm]at ho4⊢;obtain⟨A4,c4,e4,hn4,hm4,-⟩:=Zbe ho4;obtain⟨rfl,rfl⟩:A4=some ⟨q,0,none⟩∧cc=c4:=by
              injection e4 with e1 _ e3
              exact⟨e1.symm,e3⟩
             have x2:w4.cell? ⟨q,k*3+2,none⟩=some (.int .i64 lm):=by
              rw[ho4.cellAt (k*3+2) (by have:=Zad L;omega)]
              exact HLk.out.trans rfl
             have hfz:w4.frozen? ⟨q,k*3+2,none⟩=false:=ho4.frozenAt _;have HR4:=Zhd (HMk.out w4 _ q cc ho4 (bits .or .i64 lm 2));have HB4:=Zhd ((Zaa HB3.out hb4).setCell (p:=⟨q,k*3+2,none⟩) (Yas HB3.out.size (ho4.lt q rfl).1) (.int .i64 (bits .or .i64 lm 2)));have hls:(L.set k ⟨ld,lw,bits .or .i64 lm 2⟩).length=L.length:=Ycm;clear ho4 ho4' hm e4 hb4 HC3 y2;go_wp2;go_ret2;rw[HK.out];exact⟨⟨.slice (some ⟨q,0,none⟩) L.length cc,rfl,some ⟨q,0,none⟩,cc,by rw[hls],by rw[hls];exact hn4,hm4,by rw[hls];exact HR4.out,fun h=>by cases h⟩,HB4.out⟩
           | false=>
             have HK:Hid (z=(L.set k ⟨ld,lw,bits .andNot .i64 lm 2⟩,0)):=by show _=_;rw[HZ2.out];rfl
             clear HZ2;go_enter func37,ntmps37;go_wp2_with fail;refine HPa.out.mono ?_;rintro e w2 ⟨rfl,hb2⟩;have HA2:=Zhd (HAb.out w2 hb2);have HB2:=Zhd hb2;clear hb2;go_wp2_with fail;refine HA2.out.mono ?_;rintro e w3 ⟨rfl,hb3⟩;have HB3:=Zhd (Zaa HB2.out hb3);have y2:=HY.out w3 HB3.out;clear hb3 HA2;have HC3:=Zhd (HCl.out w3 HB3.out);go_wp2_with fail;refine HC3.out.mono ?_;rintro e w4 ⟨⟨v4,rfl,ho4⟩,hb4⟩;obtain⟨m,hm⟩: ∃ m,L.length=m+1:=⟨L.length-1,by omega⟩
             have ho4':=ho4;rw[hm]at ho4';obtain⟨q,cc,rfl⟩:=Zck ho4';rw[←hm]at ho4⊢;obtain⟨A4,c4,e4,hn4,hm4,-⟩:=Zbe ho4;obtain⟨rfl,rfl⟩:A4=some ⟨q,0,none⟩∧cc=c4:=by
              injection e4 with e1 _ e3
              exact⟨e1.symm,e3⟩
             have x2:w4.cell? ⟨q,k*3+2,none⟩=some (.int .i64 lm):=by
              rw[ho4.cellAt (k*3+2) (by have:=Zad L;omega)]
              exact HLk.out.trans rfl
             have hfz:w4.frozen? ⟨q,k*3+2,none⟩=false:=ho4.frozenAt _;have HR4:=Zhd (HMk.out w4 _ q cc ho4 (bits .andNot .i64 lm 2));have HB4:=Zhd ((Zaa HB3.out hb4).setCell (p:=⟨q,k*3+2,none⟩) (Yas HB3.out.size (ho4.lt q rfl).1) (.int .i64 (bits .andNot .i64 lm 2)));have hls:(L.set k ⟨ld,lw,bits .andNot .i64 lm 2⟩).length=L.length:=Ycm;clear ho4 ho4' hm e4 hb4 HC3 y2;go_wp2;go_ret2;rw[HK.out];exact⟨⟨.slice (some ⟨q,0,none⟩) L.length cc,rfl,some ⟨q,0,none⟩,cc,by rw[hls],by rw[hls];exact hn4,hm4,by rw[hls];exact HR4.out,fun h=>by cases h⟩,HB4.out⟩
 · have h1:(b !=1)=true:=by rw[bne_iff_ne];omega
   have h2:(b !=2)=true:=by rw[bne_iff_ne];omega
   have HK:Hid (z=(L,1)):=by show _=_;rw[←HZ.out,Zarj (by omega) (by omega)]
   have HLw:=HL.out w (Yae _ _);clear HZ hR hP hr hb;go_enter func37,ntmps37;go_wp2;go_ret2;rw[HK.out];exact⟨⟨_,rfl,HLw⟩,Yae _ _⟩
theorem Ztn (Ap:Option Addr) (cp:Nat) (P:List ByteArray) (s:ByteArray) (w:World) (hP:Rd w 1 Ap P.length (sv P)) (hcp:P.length≤cp) (_hc2:cp≤maxLen) (h0:P.length≠0) (h16:P.length≤1000000):
 Calls prog 70 #[.slice Ap P.length cp, .string s] w fun e w'=>(∃ v,e= .returned v∧w'.ownsRow w.heap.size 9 1 v P.length (sv (P.dropLast++ [s])))∧Below w.heap.size w w':=by
 obtain⟨i0,hi,hz0,hz1,hz2⟩:=info_parts Zdz;obtain⟨m,hm⟩: ∃ m,P.length=m+1:=⟨P.length-1,by omega⟩
 obtain⟨ad,rfl,-,hx⟩:=hP.2 (by omega)
 have hsv: ∀ j,j<P.length→(sv P)[j]?=some (.string (P.getD j ByteArray.empty)):=fun j hj=>by
  unfold sv;rw[Ycy,Yaq,Yaj hj];rfl
 have hs:ad.spot=none:=by
  have h00:=hx 0 _ (hsv 0 (by omega))
  have h2:=World.cell?_spot h00;have h3:ad.add 0=ad:=by simp[Addr.add]
  rwa [h3]at h2
 obtain⟨b,o,sp⟩:=ad;obtain rfl:sp=none:=hs
 have HCl:=Zhd (Tryz.slices_Clone_string b o m cp P w (by omega) (by omega) (fun j hj=>by
  have:=hx j _ (hsv j hj)
  rwa [Zag]at this))
 have hi1:(m:Int)≤(cp:Int):=by omega
 have hi0:(0:Int)≤(m:Int):=by omega
 unfold maxLen at _hc2;have hm63:(m:Int)+1≤9223372036854775807:=by omega
 have hdl:P.dropLast=P.take m:=by rw[Ydk,hm];rfl
 have HE:Hid (sv (P.dropLast++ [s])=sv (P.take m)++ [.string s]):=by show _=_;rw[hdl,Zauc];rfl
 rw[hm];clear hP hx hsv hdl;go_enter func70,ntmps70;go_wp2_with fail;refine HCl.out.mono ?_;rintro e w2 ⟨v2,rfl,ho2,-,hb2⟩;have HO2:Hid (w2.ownsRow w.heap.size 9 1 v2 m (sv (P.take m))):=ho2;have HB2:=Zhd hb2;clear ho2 hb2;go_wp2_with (at_builtin;refine Zfq rfl _ _ 34 rfl w w2 9 i0 _ 1 16 underlying34 hi hz0 hz1 hz2 rfl (by decide) (by decide) HO2.out HB2.out rfl 1 1 [.string s] rfl rfl (by simp;rfl) (by omega) ?_;intro v3 w3 hown3 hb3)
 go_wp2_with fail;go_ret;exact⟨⟨_,rfl,by rw[HE.out];exact hown3⟩,hb3⟩
theorem Zama (w:World):
 Calls prog 20 #[] w fun e w'=>e= .returned (.agg #[.slice none 0 0, .slice none 0 0, .bool false, .slice none 0 0, .slice none 0 0, .bool false, .slice none 0 0, .slice none 0 0, .bool false, .slice none 0 0, .slice none 0 0, .int .i64 0, .int .i64 0, .int .i64 0, .slice none 0 0])∧Below w.heap.size w w':=by
 have hb:=Zhd ((Yae w.heap.size w).alloc (Yag _) (.cells #[.slice none 0 0, .slice none 0 0, .bool false, .slice none 0 0, .slice none 0 0, .bool false, .slice none 0 0, .slice none 0 0, .bool false, .slice none 0 0, .slice none 0 0, .int .i64 0, .int .i64 0, .int .i64 0, .slice none 0 0] 32));go_enter func20,ntmps20;go_wp2
 first
  |(go_ret;exact⟨rfl,hb.out⟩)
  |exact bodyPost_ret (v:= .agg #[.slice none 0 0, .slice none 0 0, .bool false, .slice none 0 0, .slice none 0 0, .bool false, .slice none 0 0, .slice none 0 0, .bool false, .slice none 0 0, .slice none 0 0, .int .i64 0, .int .i64 0, .int .i64 0, .slice none 0 0]) (by simp[results,results20,go_sem]) rfl ⟨rfl,hb.out⟩
theorem Zaeb (v0 v2 v3 v4 v5 v6 v7 v8 v9 v10 v11 v12 v13 v14:Value) (Ar:Option Addr) (n cr:Nat) (num:Int) (w:World) (h:(n=0∧num=0)∨ ∃ b o,Ar=some ⟨b,o,none⟩∧0<n∧n≤1000000∧b<w.heap.size∧w.cell? ⟨b,o+(n-1)*2,none⟩=some (.int .i64 num)):
 Calls prog 18 #[.agg #[v0, .slice Ar n cr,v2,v3,v4,v5,v6,v7,v8,v9,v10,v11,v12,v13,v14]] w fun e w'=>e= .returned (.int .i64 num)∧Below w.heap.size w w':=by
 have hb:=Zhd ((Yae w.heap.size w).alloc (Yag _) (.cells #[v0, .slice Ar n cr,v2,v3,v4,v5,v6,v7,v8,v9,v10,v11,v12,v13,v14] 32));rcases h with⟨rfl,rfl⟩|⟨b,o,rfl,h0,h1,hbl,hc⟩
 · go_enter func18,ntmps18;go_wp2;go_ret;exact⟨rfl,hb.out⟩
 · obtain⟨m,rfl⟩: ∃ m,n=m+1:=⟨n-1,by omega⟩
   have hc:w.cell? ⟨b,o+m*2,none⟩=some (.int .i64 num):=hc;have hm63:(m:Int)+1≤9223372036854775807:=by omega
   have hm0:(0:Int)≤(m:Int):=by omega
   have hne1:(((m:Int)+1)==0)=false:=by rw[Yai];omega
   have hlt:(m:Int)<(m:Int)+1:=by omega
   have hwr:IntKind.i64.wrap (m:Int)=m:=IntWalk.i64_in _ (by omega)
   clear h0 h1;go_enter func18,ntmps18;go_wp2;go_ret;exact⟨rfl,hb.out⟩
theorem Zadt:(prog.info? 69).map (fun i=>(i.zero,i.size,i.bytes))=some (some (.agg #[.int .i64 0, .slice none 0 0]),2,32):=by kernel_rfl
theorem Zaga (A:Option Addr) (c n:Nat) (xs:List Value) (w:World) (hR:Rd w 2 A n xs) (hnil:A=none→c=0) (hb:n≤1000000) (h1: ∀ u∈xs,u.oneCell'=true):
 Calls prog 49 #[.slice A n c] w fun e w'=>(∃ v,e= .returned v∧w'.ownsRow w.heap.size 69 2 v n xs)∧Below w.heap.size w w':=by
 obtain⟨i0,hii,hz0,hz1,hz2⟩:=info_parts Zadt;cases A with
 | none=>
   have h0:n=0:=by
    rcases Ybn n with h|h
    · exact h
    · obtain⟨ad,e,-⟩:=hR.2 h;cases e
   subst h0;have hx:xs= []:=Yar (by simpa using hR.1)
   subst hx;obtain rfl:=hnil rfl;have heq:=fun wx:World=>Lib.run_eql_slice_nil (P:=prog) wx 27 69 none 0 0 0 0 underlying27
   clear hR;go_enter func49,ntmps49;go_wp2;go_ret;exact⟨⟨_,rfl,World.ownsRow_nil _ _ _ _⟩,Yae _ _⟩
 | some ad=>
   obtain⟨wo,hwo⟩: ∃ wo,w.alloc (.cells #[] 69)=wo:=⟨_,rfl⟩;have hbo:Below w.heap.size w wo:=by rw[←hwo];exact(Yae _ _).alloc (Yag _) _
   have hown:wo.ownsRow w.heap.size 69 2 (.slice (some ⟨w.heap.size,0,none⟩) 0 0) 0 []:=by
    rw[←hwo];have:=World.ownsRow_lit (e:=69) (size:=2) (base:=w.heap.size) w #[] 0 (Yag _) (by unfold maxLen;omega) rfl
    simpa using this
   have HR:=Zhd (hR.below hbo);have HO:=Zhd hown;have HBo:=Zhd hbo;have H1:=Zhd h1;have heq:=fun wx:World=>Lib.run_eql_slice_nil (P:=prog) wx 27 69 (some ad) n c 0 0 underlying27
   have HN:Hid (0+n≤1000000000):=by show _≤_;omega
   clear hR hown hbo h1;go_enter func49,ntmps49;go_wp2_with (at_builtin;(refine Zaaa rfl _ _ 27 rfl w wo 69 i0 _ 2 32 underlying27 hii hz0 hz1 hz2 rfl (by decide) (by decide) HO.out HBo.out rfl (some ad) n c xs rfl HR.out (fun h=>by cases h) H1.out HN.out ?_;intro v1 w3 hown1 hb3))
   have HO3:Hid (w3.ownsRow w.heap.size 69 2 v1 n xs):=by show World.ownsRow _ _ _ _ _ _ _;simpa using hown1
   clear hown1;go_wp2_with fail;go_ret;exact⟨⟨_,rfl,HO3.out⟩,hb3⟩
end Go.Proofs.Zq
namespace Edt
open Go Go.Lib Tre
def Zpf (L:List Line) (i:Nat):Bool:=decide (i+1=L.length)||decide (Zao L (i+1)≤Zao L i)
def Zbo (L:List Line) (k:Nat):List Nat:=(List.range k).filter (Zpf L)
theorem Zwa (L:List Line) (k:Nat):Zbo L (k+1)=if Zpf L k then Zbo L k++ [k]else Zbo L k:=by
 unfold Zbo;rw[Ydm,Yco];cases h:Zpf L k<;>simp[h]
theorem Zjz (L:List Line) (k:Nat):(Zbo L k).length≤k:=by
 have:=Yce (Zpf L) (List.range k);rw[Yes]at this;exact this
theorem Zall {L:List Line} {k:Nat} (h:k+1=L.length):Zpf L k=true:=by unfold Zpf;rw[Yal h];rfl
theorem Zavq {L:List Line} {k:Nat} (h1:k+1<L.length):Zpf L k=decide (L[k+1].depth≤(L[k]'(by omega)).depth):=by
 unfold Zpf;rw[Yah (by omega),Bool.false_or,Zau h1,Zau (by omega)]
end Edt
namespace Go.Proofs.Zq
open Tryz
open Go Go.RowKit Go.Sort Tre Lx Prs Lns Edt
theorem Zaha (A:Option Addr) (cap:Nat) (L:List Line) (w:World) (hR:Rd w 3 A L.length (lines L)) (hcap:L.length≤cap) (hc:cap≤maxLen) (hr:Zab L=true):
 Calls prog 91 #[.slice A L.length cap] w fun e w'=>(∃ v,e= .returned v∧w'.ownsRow w.heap.size 3 1 v (Zbo L L.length).length (iv (Zbo L L.length)))∧Below w.heap.size w w':=by
 obtain⟨i0,hi,hz0,hz1,hz2⟩:=info_parts Zrf;have hRi:=Zbg A cap L w hR hcap hc;rw[hr]at hRi;have HRi:=Zhd hRi;have h200:=Zas hr;have HR:=Zhd hR;clear hR hr hRi;unfold maxLen at hc;go_enter func91,ntmps91;go_wp2_with fail;refine HRi.out.mono ?_;rintro e w1 ⟨rfl,hb1⟩;have HB1:=Zhd hb1;clear HRi hb1;go_wp2;go_loopw [3,10] (fun v vi wr=> ∃ k:Nat,vi= .int .i64 k∧k≤L.length∧Hid (wr.ownsRow w.heap.size 3 1 v (Zbo L k).length (iv (Zbo L k)))∧Hid (Below w.heap.size w wr)) (fun _ vi _=>L.length-(intOf vi).toNat)
 case atStart=>exact⟨0,rfl,Yao _,World.ownsRow_nil _ _ _ _,HB1.out⟩
 case round=>
  clear HB1;obtain⟨k,rfl,hk,HO,HB⟩:=hrel;by_cases hlt:k<L.length
  · have hll:=Zjz L k;have hst:=Zhd (Zwa L k);by_cases hlast:k+1=L.length
    · have HS:Hid (Zbo L (k+1)=Zbo L k++ [k]):=by show _=_;rw[hst.out,Zall hlast];rfl
      have qe:(((k:Int)+1)==(L.length:Int))=true:=by rw[beq_iff_eq];omega
      clear hst;go_wp2_with fail;go_quiet (fail);go_wp2_with (at_builtin;refine Zfq rfl _ _ 125 rfl w _ 3 i0 _ 1 8 underlying125 hi hz0 hz1 hz2 rfl (by decide) (by decide) (Zah HO.out (Zan (Yae _ _) _)) (Zan HB.out _) rfl 1 1 [.int .i64 (k:Int)] (by show Value.slice (some ⟨_,0,none⟩) 1 1=_;simp) rfl (by simp;rfl) (by omega) ?_;intro v' w' hown' hb')
      have HO3:=Zhd (Zoq hown');have HB3:=Zhd hb';clear hown' hb';go_wp2_with fail;go_roundw
      case rel=>exact⟨k+1,by go_num,by omega,by rw[HS.out];exact HO3.out,HB3.out⟩
      case measure=>simp[intOf];omega
    · have h1:k+1<L.length:=by omega
      have qe:(((k:Int)+1)==(L.length:Int))=false:=by rw[Yai];omega
      have hk1:(k:Int)+1<(L.length:Int):=by omega
      have hk2:(0:Int)≤(k:Int)+1:=by omega
      have hla:=Zhd (Zavq h1);obtain⟨B,O,rfl,hab,hadd,x0,-,-⟩:=(HR.out.below HB.out).line hlt;obtain⟨B2,O2,e2,-,hadd2,z0,-,-⟩:=(HR.out.below HB.out).line h1;obtain⟨rfl,rfl⟩:B=B2∧O=O2:=by cases e2;exact⟨rfl,rfl⟩
      generalize L[k+1].depth=d2 at *;generalize L[k].depth=d1 at *;clear e2;by_cases hd:d2≤d1
      · have HS:Hid (Zbo L (k+1)=Zbo L k++ [k]):=by show _=_;rw[hst.out,hla.out,Yal hd];rfl
        clear hst hla;go_wp2_with fail;go_quiet (fail);go_wp2_with (at_builtin;refine Zfq rfl _ _ 125 rfl w _ 3 i0 _ 1 8 underlying125 hi hz0 hz1 hz2 rfl (by decide) (by decide) (Zah HO.out (Zan (Yae _ _) _)) (Zan HB.out _) rfl 1 1 [.int .i64 (k:Int)] (by show Value.slice (some ⟨_,0,none⟩) 1 1=_;simp) rfl (by simp;rfl) (by omega) ?_;intro v' w' hown' hb')
        have HO3:=Zhd (Zoq hown');have HB3:=Zhd hb';clear hown' hb' x0 z0;go_wp2_with fail;go_roundw
        case rel=>exact⟨k+1,by go_num,by omega,by rw[HS.out];exact HO3.out,HB3.out⟩
        case measure=>simp[intOf];omega
      · have HS:Hid (Zbo L (k+1)=Zbo L k):=by show _=_;rw[hst.out,hla.out,Yah hd];rfl
        clear hst hla;go_wp2_with fail;go_quiet (fail);go_wp2;go_roundw
        case rel=>exact⟨k+1,by go_num,by omega,by rw[HS.out];exact Zah HO.out (Zan (Yae _ _) _),Zan HB.out _⟩
        case measure=>simp[intOf];omega
  · have hke:k=L.length:=by omega
    subst hke;go_wp2;go_ret;exact⟨⟨_,rfl,HO.out⟩,HB.out⟩
end Go.Proofs.Zq
