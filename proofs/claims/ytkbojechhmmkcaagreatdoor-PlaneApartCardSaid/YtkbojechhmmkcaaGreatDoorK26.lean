import Derived.Test.YtkbojechhmmkcaaGreatDoorK25
set_option linter.unusedVariables false
set_option linter.unusedSimpArgs false
set_option maxHeartbeats 4000000
set_option maxRecDepth 100000
namespace Edt
open Go Go.Lib Tre Sch Lns
theorem Zya: ∀ {S:List (List ByteArray)} {M:List Line},S.length=M.length→(∀ (k:Nat) (h1:k<S.length) (h2:k<M.length),Zco M[k]=true∧M[k].depth=((S[k].length-1:Nat):Int)∧S[k].getLastD ⟨#[]⟩=M[k].word)→Zgr S M
 | [],[],_,_=>trivial
 | q::S,l::M,hl,h=>by
   refine⟨h 0 (by simp) (by simp),Zya (by simpa using hl) fun k h1 h2=> ?_⟩
   have:=h (k+1) (by simp;omega) (by simp;omega)
   exact this
 | [],_::_,hl,_=>by simp at hl
 |_::_,[],hl,_=>by simp at hl
theorem Zwx {L:List Line} (hr:Zab L=true) {i:Nat} (hi:i<L.length):Zab (subL L i)=true:=by
 obtain⟨hl200,hd,hsrt⟩:=Zac hr;obtain⟨e1,e2⟩:=Zbb L i hi;obtain⟨en,hen⟩: ∃ en,endB L i=en:=⟨_,rfl⟩;have hpl:=Zbz hd hi;have hdn:=Zcf hd hi;obtain⟨d,hdd⟩: ∃ d,(Zaj L i).toNat=d:=⟨_,rfl⟩;have hdI:Zaj L i=(d:Int):=by omega
 rw[hdd]at hpl;have hpre: ∀ k,i≤k→k<en→ ∃ s,pa L k=pa L i++s:=fun k h1 h2=>(Zes hr hi (by omega)).2 ⟨h1,by rw[hen];exact h2⟩
 have hfr: ∀ k,i≤k→k<en→pa L k=(pa L i).take d++(pa L k).drop d:=fun k h1 h2=>by
  obtain⟨s,hs⟩:=hpre k h1 h2;have:(pa L i).take d=(pa L k).take d:=by rw[hs,Yce (by omega)]
  rw[this,Ybk]
 have hlen:(subL L i).length=en-i:=by
  unfold subL;rw[Yay,Yah,Yan,hen];omega
 obtain⟨S,hS⟩: ∃ S,S=(List.range (en-i)).map fun j=>(pa L (i+j)).drop d:=⟨_,rfl⟩
 have hSl:S.length=en-i:=by rw[hS,Yay,Yfb]
 have hSk: ∀ j (h:j<S.length),S[j]=(pa L (i+j)).drop d:=fun j h=>by subst hS;rw[Ycz,List.getElem_range]
 have hmem: ∀ q,q∈S↔ ∃ k,i≤k∧k<en∧q=(pa L k).drop d:=fun q=>by
  rw[hS,Yct];constructor
  · rintro⟨j,hj,rfl⟩;rw[Ycm]at hj;exact⟨i+j,by omega,by omega,rfl⟩
  · rintro⟨k,h1,h2,rfl⟩;exact⟨k-i,by rw[Ycm];omega,by rw[show i+(k-i)=k by omega]⟩
 refine(Zlu (S:=S) (Zya (by rw[hSl,hlen]) fun j h1 h2=> ?_) ⟨?_,fun q hq=> ?_⟩ (by rw[hlen];omega)).1
 · have hk:i+j<L.length:=by omega
   have g1:=Zcy hd (i+j) hk;have g2:=Zbz hd hk;have g3:=Zel hr hk;have g4:=Zcf hd hk;obtain⟨s,hs⟩:=hpre (i+j) (by omega) (by omega)
   have g5:(pa L (i+j)).length=d+1+s.length:=by rw[hs,Yae,hpl]
   have hM:(subL L i)[j]=⟨L[i+j].depth-Zaj L i,L[i+j].word,L[i+j].mark⟩:=by
    have e:subL L i=((L.drop i).take (endB L i-i)).map fun l=>⟨l.depth-Zaj L i,l.word,l.mark⟩:=rfl
    rw[Yen e h2,Ycz,Ycs,Ydr]
   rw[Zbe hk]at g3;rw[Zaq hk]at g2 g4;rw[hM,hSk j h1,hdI];obtain⟨m1,m2,m3⟩:=sound_mark g1.1;refine⟨?_, ?_, ?_⟩
   · unfold Zco;simp only;rw[Yal (by omega),Yal (by omega),Yal m3,Yal m1,Yal m2];rfl
   · show L[i+j].depth-(d:Int)=_;rw[Yan];omega
   · show((pa L (i+j)).drop d).getLastD ⟨#[]⟩=L[i+j].word;rw[←g3,Ycd,Ycd,List.getLast?_drop,Yab (by omega)]
 · rw[Ydx];intro a b ha hb hab;rw[hSk a ha,hSk b hb];have h1:=Znd hr (show i+a<i+b by omega) (show i+b<L.length by omega)
   rw[hfr (i+a) (by omega) (by omega),hfr (i+b) (by omega) (by omega),Zgi]at h1
   exact h1
 · obtain⟨k,h1,h2,rfl⟩:=(hmem q).1 hq;have hk:k<L.length:=by omega
   obtain⟨s,hs⟩:=hpre k h1 h2;have hq2:(pa L k).drop d=(pa L i).drop d++s:=by rw[hs,List.drop_append_of_le_length (by omega)]
   have hdl:((pa L i).drop d).length=1:=by rw[Yan];omega
   refine⟨fun e=> ?_, ?_⟩
   · rw[hq2]at e;have:=congrArg List.length e;rw[Yae,hdl]at this;simp at this
   · by_cases hs0:s= []
     · refine .inr ?_;rw[hq2,hs0,Ybg];refine Yap ?_;rw[Ycb,hdl]
     · refine .inl ((hmem _).2 ?_);have hp:pa L k∈Zad L:=by rw[Zfu hk];exact Yaw _
       have hup:(pa L k).dropLast=pa L i++s.dropLast:=by rw[hs,Ycr hs0]
       rcases((Zcx hr).1.2 _ hp).2 with h|h
       · obtain⟨m,hm,hm2⟩:=Ybs h;rw[Zaf]at hm;have hm3:pa L m=(pa L k).dropLast:=by rw[Zfu hm];exact hm2
         obtain⟨g1,g2⟩:=(Zes hr hi hm).1 ⟨s.dropLast,by rw[hm3,hup]⟩
         refine⟨m,g1,by rw[←hen];exact g2, ?_⟩
         rw[hm3,hup,hq2,Ycr hs0,List.drop_append_of_le_length (by omega)]
       · rw[hup]at h;have:=congrArg List.length h;rw[Yae,hpl]at this;simp at this
def Zadv (L:List Line) (M:List Line) (i:Nat):List (List ByteArray):=if 1<(Zdg M i).length then Znp (Zih L) ((Zdg M i).drop 1) 0 else []
def Zjx (L:List Line) (g:ByteArray):Option (List (List ByteArray)):=
 match Zas (Zal L) [Zfc,g]with
 |none=>none
 |some k=>some ((Zbx (subL (Zal L) k) (subL (Zal L) k).length).flatMap (Zadv L (subL (Zal L) k)))
end Edt
namespace Go.Proofs.Zq
open Tryz
open Go Go.RowKit Go.Sort Tre Lx Prs Lns Edt Sch
theorem Zalm (w:World) (T:TypeId) (a b:ByteArray):Rd (w.alloc (.cells #[.string a, .string b] T)) 1 (some ⟨w.heap.size,0,none⟩) 2 (sv [a,b]):=by
 refine⟨rfl,fun _=>⟨_,rfl,by simp,fun j u hu=> ?_⟩⟩
 rw[Zag,Ybi,World.cell?_alloc_at _ _ _ _ rfl,Ycw];exact hu
theorem Zarg {w:World} {base q n c:Nat} {P:List ByteArray} (hn:P.length=n) (h:w.ownsRow base 9 1 (.slice (some ⟨q,0,none⟩) n c) n (sv P)) (h1:1<n):QOwn w (.slice (some ⟨q,1,none⟩) (n-1) (c-1),P.drop 1):=by
 obtain⟨A,c',e,g1,g2,g3⟩:=Zbj h;injection e with e1 _ e3
 subst e1;subst e3
 obtain⟨cur,hh⟩: ∃ cur,w.heap[q]?=some (.cells cur 9 (0,0)):=by
  rcases h.2 with⟨h',-⟩|⟨g',cap',cur,h',-,hh,-⟩
  · cases h'
  · injection h' with h2
    injection h2 with h2
    injection h2 with h2
    exact⟨cur,by rw[h2];exact hh⟩
 have hd:(P.drop 1).length=n-1:=by rw[Yan,hn]
 refine⟨q,1,c-1,by rw[hd],by rw[hd];show n-1≤c-1;omega,by omega,⟨by rw[Zie,Nat.mul_one],fun _=>⟨_,rfl,(Ybf.1 hh).1,fun j u hu=> ?_⟩⟩,cur,hh⟩
 have hu2:(sv P)[1+j]?=some u:=by
  unfold sv at hu⊢;rw[Ydb,Ycp]at hu;rw[Ydb];exact hu
 have:=Zuc g3 (1+j) u hu2;rw[Zag,Ybi]at this;rw[Zag];exact this
def Zafv (z:Option (List (List ByteArray))) (w:World) (e:Ending) (w':World):Prop:=
 (∃ v Q,e= .returned (.tuple #[v, .int .i64 (match z with|some _=>0|none=>3)])∧QRow w' w.heap.size v Q∧Q.map Prod.snd=z.getD [])∧Below w.heap.size w w'
theorem Zakf (v:Value) (L:List Line) (g:ByteArray) (w:World) (hL:Lr w v L) (hr:Zab L=true):
 Calls prog 56 #[v, .string g] w (Zafv (Zjx L g) w):=by
 obtain⟨i0,hi,hz0,hz1,hz2⟩:=info_parts Zix;have HA:=Zhd (Zpz v L w hL hr);have ha:=(Zfe hr).1;have hx:=(Zqh hr).1;have HEx:=Zhd (fun(W:World) (hb:Below w.heap.size w W)=>Zrb v L W (hL.below hb) hr)
 have h200:=Zau ha;have HFi:=Zhd (fun(A:Option Addr) (c:Nat) (Ap:Option Addr) (cp:Nat) (W:World) (h1:Rd W 3 A (Zal L).length (lines (Zal L))) (h2:(Zal L).length≤c) (h3:c≤maxLen) (h4:Rd W 1 Ap 2 (sv [Zfc,g])) (h5:2≤cp) (h6:cp≤maxLen)=>Zca A c (Zal L) Ap cp [Zfc,g] W h1 h2 h3 ha h4 h5 h6)
 have HAr:=Zhd (fun(W:World)=>Zalm W 9 Zfc g)
 have hG:Zjx L g=match Zas (Zal L) [Zfc,g]with
  |none=>none
  |some k=>some ((Zbx (subL (Zal L) k) (subL (Zal L) k).length).flatMap (Zadv L (subL (Zal L) k))):=rfl
 cases hf:Zas (Zal L) [Zfc,g]with
 | none=>
   rw[hf]at HFi hG;simp only at hG;rw[hG];clear hL hr ha hx HEx hG hf;generalize Zal L=a at *;go_enter func56,ntmps56;go_wp2_with fail;refine HA.out.mono ?_;rintro e w1 ⟨⟨v1,rfl,ho1⟩,hb1⟩;obtain⟨A,c,e1,g1,g2,g3⟩:=Zbj ho1;subst e1;have HB1:=Zhd (hb1.alloc hb1.size (.cells #[.string Zfc, .string g] 9));have HF1:=Zhd (HFi.out A c (some ⟨w1.heap.size,0,none⟩) 2 (w1.alloc (.cells #[.string Zfc, .string g] 9)) (g3.alloc _) g1 g2 (HAr.out w1) (Yaf _) (by unfold maxLen;omega))
   clear ho1 hb1 g3 HA HFi;go_wp2_with fail;refine HF1.out.mono ?_;rintro e w2 ⟨rfl,hb2⟩;have HB2:=Zhd (Zaa HB1.out hb2);go_wp2;go_ret2;unfold Zafv;exact⟨⟨_,[],rfl,Zrz _ _,rfl⟩,HB2.out⟩
 | some k=>
   rw[hf,show Zrd (some k)=(k:Int)from rfl]at HFi;rw[hf]at hG;simp only at hG;rw[hG];have hk:=Zcu hf;have hsr:=Zwx ha hk;obtain⟨hs1,hs2⟩:=subL_len hk;have HSb:=Zhd (fun(A:Option Addr) (c:Nat) (W:World) (h1:Rd W 3 A (Zal L).length (lines (Zal L))) (h2:(Zal L).length≤c) (h3:c≤maxLen)=>Zact A c (Zal L) k W h1 h2 h3 ha hk)
   unfold Zafw at HSb;obtain⟨M,hM⟩: ∃ M,subL (Zal L) k=M:=⟨_,rfl⟩;rw[hM]at hsr hs1 hs2 HSb⊢;have HLv:=Zhd (fun(A:Option Addr) (c:Nat) (W:World) (h1:Rd W 3 A M.length (lines M)) (h2:M.length≤c) (h3:c≤maxLen)=>Zakp A c M W h1 h2 h3 hsr)
   have HPa:=Zhd (fun(A:Option Addr) (c:Nat) (n:Nat) (W:World) (h1:Rd W 3 A M.length (lines M)) (h2:M.length≤c) (h3:c≤maxLen) (hn:n<M.length)=>Zry A c M n W h1 h2 h3 hsr hn)
   unfold Zpw at HPa;have HPl:=Zhd (fun(n:Nat) (hn:n<M.length)=>pathB_lenR hsr hn)
   have hll:=Zlp M M.length
   have HLl:Hid (∀ j (hj:j<(Zbx M M.length).length),(Zbx M M.length)[j]<M.length):=fun j hj=>by
    have:=Yaw hj;unfold Zbx at this;exact Ycm.1 (Ycu.1 this).1
   have HFd:=Zhd (fun(vt p:Value) (P:List ByteArray) (W:World) (h1:Lr W vt (Zih L)) (h2:QOwn W (p,P)) (h3:P.length≤16)=>Zvy P.length vt p (Zih L) P 0 W (by omega) h1 hx h2 (Yas _) h3)
   unfold Zjq at HFd;have HFl:=Zhd (fun P=>Zta hx P 0)
   have HfI:Hid (∀ i,Zadv L M i=if 1<(Zdg M i).length then Znp (Zih L) ((Zdg M i).drop 1) 0 else []):=fun _=>rfl
   clear hL hr ha hx hG hf hM hsr;generalize hac:Zal L=a at *;generalize Zih L=X at *;generalize hlv:Zbx M M.length=K at *;generalize Zadv L M=ff at *;clear hac hlv;go_enter func56,ntmps56;go_wp2_with fail;refine HA.out.mono ?_;rintro e w1 ⟨⟨v1,rfl,ho1⟩,hb1⟩;obtain⟨A,c,e1,g1,g2,g3⟩:=Zbj ho1;subst e1;have HB1:=Zhd (hb1.alloc hb1.size (.cells #[.string Zfc, .string g] 9));have HF1:=Zhd (HFi.out A c (some ⟨w1.heap.size,0,none⟩) 2 (w1.alloc (.cells #[.string Zfc, .string g] 9)) (g3.alloc _) g1 g2 (HAr.out w1) (Yaf _) (by unfold maxLen;omega))
   have HR1:=Zhd (g3.alloc (.cells #[.string Zfc, .string g] 9));clear ho1 hb1 g3 HA HFi HAr;go_wp2_with fail;refine HF1.out.mono ?_;rintro e w2 ⟨rfl,hb2⟩;have HB2:=Zhd (Zaa HB1.out hb2);have HR2:=Zhd (HR1.out.below hb2);have HE2:=Zhd (HEx.out w2 HB2.out);clear hb2 HF1 HB1 HR1 HEx;go_wp2_with fail;refine HE2.out.mono ?_;rintro e w3 ⟨⟨v3,rfl,ho3⟩,hb3⟩;have HX3:=Zhd (Lr.own ho3);have HB3:=Zhd (Zaa HB2.out hb3);have HS3:=Zhd (HSb.out A c w3 (HR2.out.below hb3) g1 g2);clear ho3 hb3 HE2 HB2 HR2 HSb;go_wp2_with fail;refine HS3.out.mono ?_;rintro e w4 ⟨⟨v4,rfl,ho4⟩,hb4⟩;obtain⟨As,cs,e4,f1,f2,f3⟩:=Zbj ho4;subst e4;have HX4:=Zhd (HX3.out.below hb4);have HB4:=Zhd (Zaa HB3.out hb4);have HR4:=Zhd f3;have HV4:=Zhd (HLv.out As cs w4 f3 f1 f2);clear ho4 hb4 f3 HS3 HB3 HX3 HLv;go_wp2_with fail;refine HV4.out.mono ?_;rintro e w5 ⟨⟨v5,rfl,ho5⟩,hb5⟩;obtain⟨Ak,ck,e5,-,-,hRk⟩:=Zbj ho5;subst e5;have HX5:=Zhd (HX4.out.below hb5);have HB5:=Zhd (Zaa HB4.out hb5);have HR5:=Zhd (HR4.out.below hb5);have HRk:=Zhd hRk;clear ho5 hb5 hRk HV4 HB4 HX4 HR4;go_wp2;go_loopw [13,46] (fun vo vj wr=> ∃ (j:Nat) (Q:List PV),vj= .int .i64 j∧j≤K.length∧Q.length≤200*j∧Hid (QRow wr w5.heap.size vo Q)∧Hid (Q.map Prod.snd=(K.take j).flatMap ff)∧Hid (Below w5.heap.size w5 wr)) (fun _ vj _=>K.length-(intOf vj).toNat)
   case atStart=>exact⟨0,[],rfl,Yas _,Yas _,Zrz _ _,rfl,Yag _ _⟩
   case round=>
    obtain⟨j,Q,rfl,hj',hQl,HQ,HM,HB⟩:=hrel;by_cases hlt:j<K.length
    · obtain⟨bk,ok,rfl,habk,haddk,xk⟩:=HRk.out.intAt hlt;have x0:=(HB.out.cell (p:=⟨bk,ok+j,none⟩) habk).trans xk;have HS:=Zhd (Zte ff K hlt);have hil:=HLl.out j hlt;have hfi:=HfI.out K[j];have hp16:=HPl.out _ hil;have HP:=Zhd (HPa.out As cs K[j] wr (HR5.out.below HB.out) f1 f2 hil);have hjI:(j:Int)<(K.length:Int):=by omega
      generalize Zdg M K[j]=P at *;generalize ff K[j]=Fj at *;generalize K[j]=i at *;clear xk;go_wp2_with fail;refine HP.out.mono ?_;rintro e w6 ⟨v6,rfl,ho6,hb6⟩;obtain⟨A6,c6,e6,-,hc6,-⟩:=Zbj ho6;subst e6;have HB6:=Zhd (Zaa HB.out hb6);have HQ6:=Zhd (HQ.out.below hb6);by_cases hp1:1<P.length
      · rw[Yam hp1]at hfi;obtain⟨m,hm⟩: ∃ m,P.length=m+1:=⟨P.length-1,by omega⟩
        rw[hm]at ho6;obtain⟨q,c7,e7⟩:=Zda ho6;obtain⟨rfl,rfl⟩:A6=some ⟨q,0,none⟩∧c6=c7:=by
         injection e7 with e8 _ e9
         exact⟨e8,e9⟩
        have hcm:m+1≤c6:=by
         obtain⟨A9,c9,e9,g9,-,-⟩:=Zbj ho6;injection e9 with _ _ e10
         omega
        have hq:=Zarg hm ho6 (by omega)
        rw[Yez]at hq;have HF6:=Zhd (HFd.out v3 _ (P.drop 1) w6 ((HX5.out.below HB.out).below hb6) hq (by rw[Yan];omega))
        have HFs:=HFl.out (P.drop 1);rw[←hfi]at HF6 HFs;have hmI:(1:Int)<(m:Int)+1:=by omega
        have hm0: ¬ (m=0):=by omega
        have hcI:(c6:Int)-1=((c6-1:Nat):Int):=by omega
        have hc1: ¬ (c6=1):=by omega
        have hc1': ¬ (1=c6):=by omega
        have hcI2:(1:Int)≤(c6:Int):=by omega
        unfold maxLen at hc6;rw[hm];clear ho6 hq hp1 hfi hm HQ HB HP x0;go_wp2_with fail;refine HF6.out.mono ?_;rintro e w7 ⟨⟨v7,Q7,rfl,hq7,hm7⟩,hb7⟩;obtain⟨A7,c7,e7,-,-,hR7,hnil7,-⟩:=Zcr hq7.1;subst e7;have HB7:=Zhd (Zaa HB6.out hb7);have HQ7:=Zhd (HQ6.out.below hb7);have hq7l:Q7.length≤200:=by
         have:(Q7.map Prod.snd).length≤200:=by rw[hm7];exact HFs
         rwa [Yay]at this
        have HN7:=Zhd hnil7;have HR7:=Zhd hR7;have HO7:=Zhd hq7.2
        have HM8:Hid ((Q++Q7).map Prod.snd=(K.take (j+1)).flatMap ff):=by
         show _=_;rw[HS.out,Ybv,HM.out,hm7]
        clear hb7 hq7 hm7 hnil7 hR7 HF6 HQ6 HB6 HS HM HFs;go_wp2_with (at_builtin;refine Zqb rfl _ _ 71 rfl w5 w7 34 i0 _ 1 24 underlying71 hi hz0 hz1 hz2 rfl (by decide) (by decide) HQ7.out.1 HB7.out rfl A7 Q7.length c7 (Q7.map Prod.fst) rfl HR7.out HN7.out (by intro u hu;obtain⟨y,hy,rfl⟩:=Yct.1 hu;exact(HO7.out y hy).cell) (by omega) ?_;intro v8 w8 hown8 hb8 hk8)
        have HQ8:=Zhd (Zyz hown8 HQ7.out.2 HO7.out hk8);have HB8:=Zhd hb8;clear hown8 hb8 hk8 HQ7 HB7 HR7 HN7 HO7;go_wp2_with fail;go_roundw
        case rel=>exact⟨j+1,Q++Q7,by go_num,by omega,by rw[Yae];omega,HQ8,HM8,HB8⟩
        case measure=>simp[intOf];omega
      · rw[Yab hp1]at hfi;have hp0:P.length≤1:=by omega
        have hpI: ¬ (1:Int)<(P.length:Int):=by omega
        have HM2:Hid (Q.map Prod.snd=(K.take (j+1)).flatMap ff):=by show _=_;rw[HS.out,hfi,Ybg,HM.out]
        clear ho6 hp1 hfi HQ HB HP HM x0 HS;go_wp2;go_roundw
        case rel=>exact⟨j+1,Q,by go_num,by omega,by omega,HQ6,HM2,HB6⟩
        case measure=>simp[intOf];omega
    · have hjf:K.take j=K:=Ybh (by omega)
      rw[hjf]at HM;have hnI: ¬ ((j:Int)<(K.length:Int)):=by omega
      have HBf:=Zhd (Zaa HB5.out HB.out);have hz5:=HB5.out.size;clear hjf;go_wp2;go_ret2;unfold Zafv;exact⟨⟨_,Q,rfl,⟨HQ.out.1.mono hz5,HQ.out.2⟩,HM.out⟩,HBf.out⟩
end Go.Proofs.Zq
namespace Edt
open Go Go.Lib Tre Sch Lns
def inhB (X:List Line) (P:List ByteArray):Bool:= !ownB (P.headD ⟨#[]⟩)&&(decide (P.length=1)||decide ((Zdk X P.dropLast).length=0))
def gsB (L:List Line) (g:ByteArray):List (List ByteArray):=(Zjx L g).getD []
def Zhb (X:List Line):List Line→List (List ByteArray)→List Line×Int
 |out,[]=>(out,0)
 |out,p::ps=>if inhB X p then(if(addB out p).2≠0 then([],(addB out p).2)else Zhb X (addB out p).1 ps)else Zhb X out ps
def Zdx (L:List Line):List Line×Int:=
 if(Zdk (Zal L) [Zfr]).any fun g=>(Zjx L g).isNone then([],3)
 else Zhb (Zih L) (Zih L) ((Zdk (Zal L) [Zfr]).flatMap (gsB L))
theorem Zamn {X out:List Line} {p:List ByteArray} {ps:List (List ByteArray)} (h:inhB X p=false):Zhb X out (p::ps)=Zhb X out ps:=by
 rw[Zhb,Yab (by rw[h];simp)]
theorem Zaiu {X out M:List Line} {p:List ByteArray} {ps:List (List ByteArray)} {er:Int} (h:inhB X p=true) (h2:addB out p=(M,er)) (h3:er≠0):Zhb X out (p::ps)=([],er):=by
 rw[Zhb,Yam h,h2,Yam h3]
theorem Zaiv {X out M:List Line} {p:List ByteArray} {ps:List (List ByteArray)} (h:inhB X p=true) (h2:addB out p=(M,0)):Zhb X out (p::ps)=Zhb X M ps:=by
 rw[Zhb,Yam h,h2,Yab (by simp)]
theorem Zagr {α β:Type} {f:α→List β} {c:Nat}: ∀ {l:List α},(∀ x∈l,(f x).length≤c)→(l.flatMap f).length≤c*l.length
 | [],_=>Yas _
 | x::r,h=>by
   have h1:=h x (Ycg ..);have h2:=Zagr (f:=f) (l:=r) fun y hy=>h y (Yca _ hy)
   rw[Ybl,Yae,Ybd,Nat.mul_add,Nat.mul_one];omega
section
variable {L:List Line} (hr:Zab L=true)
include hr
theorem Zbgk (g:ByteArray):(gsB L g).length≤40000:=by
 unfold gsB Zjx;cases hf:Zas (Zal L) [Zfc,g]with
 |none=>simp
 | some k=>
   simp only[Yfj];have ha:=(Zfe hr).1;have hx:=(Zqh hr).1;have hk:=Zcu hf;have h1:=Zlp (subL (Zal L) k) (subL (Zal L) k).length;have h2:=(Go.Proofs.Zq.subL_len hk).2;have h3:=(Zac ha).1
   have h4:=Zagr (f:=Zadv L (subL (Zal L) k)) (c:=200) (l:=Zbx (subL (Zal L) k) (subL (Zal L) k).length) fun i _=>by
    unfold Zadv;split
    · exact Zta hx _ _
    · exact Yas _
   omega
theorem Zbgl {g:ByteArray} {q:List ByteArray} (h:q∈gsB L g):0<q.length∧q.length≤16:=by
 unfold gsB Zjx at h;cases hf:Zas (Zal L) [Zfc,g]with
 |none=>rw[hf]at h;simp at h
 | some k=>
   rw[hf]at h;simp only[Yfj]at h;have ha:=(Zfe hr).1;have hk:=Zcu hf;obtain⟨i,hi,hq⟩:=Ydk.1 h;unfold Zbx at hi;have hil:=Ycm.1 (Ycu.1 hi).1;unfold Zadv at hq;split at hq
   · rename_i h1;have h2:=Zop _ _ _ _ _ hq;rw[Yan]at h2;have h3:=Go.Proofs.Zq.pathB_lenR (Zwx ha hk) hil;omega
   · cases hq
end
end Edt
namespace Go.Proofs.Zq
open Tryz
open Go Go.RowKit Go.Sort Tre Lx Prs Lns Edt Sch
theorem Zyk (vt p:Value) (X:List Line) (P:List ByteArray) (w:World) (hX:Lr w vt X) (hr:Zab X=true) (hP:QOwn w (p,P)) (h0:0<P.length) (h16:P.length≤16):
 Calls prog 57 #[vt,p] w fun e w'=>e= .returned (.bool (inhB X P))∧Below w.heap.size w w':=by
 obtain⟨b,o,c,e1,hc1,hc2,hR,cur,hh⟩:=hP;obtain rfl:p= .slice (some ⟨b,o,none⟩) P.length c:=e1;simp only at hc1 hR;obtain⟨m,hm⟩: ∃ m,P.length=m+1:=⟨P.length-1,by omega⟩
 have hdl:P.dropLast=P.take m:=by rw[Ydc,hm];rfl
 have hdn:P.dropLast.length=m:=by rw[Ycb,hm];rfl
 have hhd:P.headD ⟨#[]⟩=P[0]:=by
  cases P with
  |nil=>simp at h0
  |cons a r=>rfl
 obtain⟨b',o',e',-,-,x0⟩:=hR.strAt h0;cases e';rw[Ydy]at x0;have HW:=Zhd (fun(W:World) (hb:Below w.heap.size w W)=>Zvf vt (.slice (some ⟨b,o,none⟩) m c) X P.dropLast W (hX.below hb) hr ⟨_,c,by rw[hdn],by omega,hc2,by rw[hdn,hdl];exact Zgv (hR.below hb) (by omega)⟩)
 have HO:=Zhd (Zaqo P[0] w);unfold inhB;rw[hhd];generalize P[0]=s at *;generalize Zdk X P.dropLast=ws at *;rw[hm];unfold maxLen at hc2;have hcI:(m:Int)≤(c:Int):=by omega
 have hm0:(0:Int)≤(m:Int):=by omega
 have hm63:(m:Int)+1≤9223372036854775807:=by omega
 have hm1:(0:Int)<(m:Int)+1:=by omega
 clear hX hR hh hdl hdn hhd hm h0 hc1;cases ho:ownB s with
 | true=>
   rw[ho]at HO;go_enter func57,ntmps57;go_wp2_with fail;refine HO.out.mono ?_;rintro e w2 ⟨rfl,rfl⟩;go_wp2;go_ret;exact⟨rfl,Yag _ _⟩
 | false=>
   rw[ho]at HO;by_cases h1:m=0
   · subst h1;go_enter func57,ntmps57;go_wp2_with fail;refine HO.out.mono ?_;rintro e w2 ⟨rfl,rfl⟩;go_wp2;go_ret;exact⟨rfl,Yag _ _⟩
   · have hq1:(((m:Int)+1)==1)=false:=by rw[Yak];omega
     have hq2:decide (m+1=1)=false:=by rw[Yai];omega
     rw[hq2];go_enter func57,ntmps57;go_wp2_with fail;refine HO.out.mono ?_;rintro e w2 ⟨rfl,rfl⟩;have HW2:=Zhd (HW.out w2 (Yag _ _));go_wp2_with fail;refine HW2.out.mono ?_;rintro e w3 ⟨⟨v3,rfl,ho3⟩,hb3⟩;obtain⟨A3,c3,e3,-,-,-⟩:=Zbj ho3;subst e3;by_cases hw0:ws.length=0
     · have hq3:((ws.length:Int)==0)=true:=by rw[beq_iff_eq];omega
       have hq4:decide (ws.length=0)=true:=Yal hw0;clear ho3 hw0;go_wp2;go_ret;rw[hq4];exact⟨rfl,hb3⟩
     · have hq3:((ws.length:Int)==0)=false:=by rw[Yak];omega
       have hq4:decide (ws.length=0)=false:=Yai hw0;clear ho3;go_wp2;go_ret;rw[hq4];exact⟨rfl,hb3⟩
theorem Zalk (w:World) (T:TypeId) (a:ByteArray):Rd (w.alloc (.cells #[.string a] T)) 1 (some ⟨w.heap.size,0,none⟩) 1 (sv [a]):=by
 refine⟨rfl,fun _=>⟨_,rfl,by simp,fun j u hu=> ?_⟩⟩
 rw[Zag,Ybi,World.cell?_alloc_at _ _ _ _ rfl,Ycw];exact hu
theorem Zbgq {w w':World} {L:List Line} {P:List ByteArray} {e:Ending} (h:Zkm L P w e w'): ∃ v,e= .returned (.tuple #[v, .int .i64 (addB L P).2])∧Lr w' v (addB L P).1∧Below w.heap.size w w':=by
 obtain⟨A,c,h1,h2,h3,h4,h5,h6⟩:=h;exact⟨_,h1,⟨A,c,rfl,h2,h3,h4,h5⟩,h6⟩
theorem Zajy (v:Value) (L:List Line) (w:World) (hL:Lr w v L) (hr:Zab L=true):
 Calls prog 32 #[v] w (Zif (Zdx L) w):=by
 obtain⟨i0,hi,hz0,hz1,hz2⟩:=info_parts Zix;have HEx:=Zhd (Zrb v L w hL hr);have HA:=Zhd (fun(W:World) (hb:Below w.heap.size w W)=>Zpz v L W (hL.below hb) hr)
 have ha:=(Zfe hr).1;have hx:=(Zqh hr).1;have HW:=Zhd (fun(vt p:Value) (W:World) (h1:Lr W vt (Zal L)) (h2:Pr W p [Zfr])=>Zvf vt p (Zal L) [Zfr] W h1 ha h2)
 have hwl:(Zdk (Zal L) [Zfr]).length≤200:=Yat (Zadc _) (Zau ha);have HG:=Zhd (fun(g:ByteArray) (W:World) (hb:Below w.heap.size w W)=>Zakf v L g W (hL.below hb) hr)
 have HGl:=Zhd (fun g=>Zbgk hr g)
 have HGm:=Zhd (fun g q (h:q∈gsB L g)=>Zbgl hr h)
 have HGd:Hid (∀ g,gsB L g=(Zjx L g).getD []):=fun _=>rfl
 have HIn:=Zhd (fun(vt p:Value) (P:List ByteArray) (W:World) (h1:Lr W vt (Zih L)) (h2:QOwn W (p,P)) (h3:0<P.length) (h4:P.length≤16)=>Zyk vt p (Zih L) P W h1 hx h2 h3 h4)
 obtain⟨z,hz⟩: ∃ z,Zdx L=z:=⟨_,rfl⟩;have HZ:Hid (z=if(Zdk (Zal L) [Zfr]).any fun g=>(Zjx L g).isNone then([],3)else Zhb (Zih L) (Zih L) ((Zdk (Zal L) [Zfr]).flatMap (gsB L))):=hz.symm
 have HXr:=Zhd hx;rw[hz];clear hz hL hr ha hx;unfold Zafv at HG;generalize Zdk (Zal L) [Zfr]=gs at *;generalize Zal L=a at *;generalize Zih L=X at *;generalize hgp:Zjx L=gp at *;generalize hgs:gsB L=gf at *;clear hgp hgs;go_enter func32,ntmps32;go_wp2_with fail;refine HEx.out.mono ?_;rintro e w1 ⟨⟨v1,rfl,ho1⟩,hb1⟩;have HX1:=Zhd (Lr.own ho1);have HB1:=Zhd hb1;have HA1:=Zhd (HA.out w1 HB1.out);clear ho1 hb1 HEx HA;go_wp2_with fail;refine HA1.out.mono ?_;rintro e w2 ⟨⟨v2,rfl,ho2⟩,hb2⟩;have HX2:=Zhd ((HX1.out.below hb2).below ((Yag _ _).alloc (Yaf _) (.cells #[.string Zfr] 9)));have HB2:=Zhd ((Zaa HB1.out hb2).alloc (Zaa HB1.out hb2).size (.cells #[.string Zfr] 9));have HW2:=Zhd (HW.out v2 (.slice (some ⟨w2.heap.size,0,none⟩) 1 1) (w2.alloc (.cells #[.string Zfr] 9)) ((Lr.own ho2).below ((Yag _ _).alloc (Yaf _) _)) ⟨_,1,rfl,Yaf _,by unfold maxLen;omega,Zalk w2 9 Zfr⟩)
 clear ho2 hb2 HA1 HX1 HB1 HW;go_wp2_with fail;refine HW2.out.mono ?_;rintro e w3 ⟨⟨v3,rfl,ho3⟩,hb3⟩;obtain⟨Ag,cg,e3,-,-,hRg⟩:=Zbj ho3;subst e3;have HX3:=Zhd (HX2.out.below hb3);have HB3:=Zhd (Zaa HB2.out hb3);have HRg:=Zhd hRg;clear ho3 hb3 hRg HX2 HB2 HW2;go_wp2;go_loopw [8,33] (fun vo vj wr=> ∃ (j:Nat) (Q:List PV),vj= .int .i64 j∧j≤gs.length∧Q.length≤40000*j∧Hid (QRow wr w3.heap.size vo Q)∧Hid (Q.map Prod.snd=(gs.take j).flatMap gf)∧Hid ((gs.take j).any (fun g=>(gp g).isNone)=false)∧Hid (∀ x∈Q,0<x.2.length∧x.2.length≤16)∧Hid (Below w3.heap.size w3 wr)) (fun _ vj _=>gs.length-(intOf vj).toNat)
 case atStart=>exact⟨0,[],rfl,Yas _,Yas _,Zrz _ _,rfl,rfl,(show ∀ x∈([]:List PV),0<x.2.length∧x.2.length≤16 by simp),Yag _ _⟩
 case round=>
  obtain⟨j,Q,rfl,hj',hQl,HQ,HM,HN,HS,HB⟩:=hrel;by_cases hlt:j<gs.length
  · obtain⟨bg,og,rfl,habg,haddg,xg⟩:=HRg.out.strAt hlt;have x0:=(HB.out.cell (p:=⟨bg,og+j,none⟩) habg).trans xg;have HSt:=Zhd (Zte gf gs hlt);have hgl:=HGl.out gs[j];have hgm:=HGm.out gs[j];have hgd:=HGd.out gs[j];have HP:=Zhd (HG.out gs[j] wr (Zaa HB3.out HB.out))
    have HAn:Hid ((gs.take (j+1)).any (fun g=>(gp g).isNone)=(gp gs[j]).isNone):=by
     show _=_;rw[Yax hlt,List.any_append,HN.out];simp
    have HAm:Hid ((gp gs[j]).isNone=true→gs.any (fun g=>(gp g).isNone)=true):=fun h=>Yei.2 ⟨gs[j],Yaw hlt,h⟩
    have hjI:(j:Int)<(gs.length:Int):=by omega
    generalize gs[j]=g at *;clear xg;cases hgp:gp g with
    | none=>
      rw[hgp]at HP HAm;have HK:Hid (z=([],3)):=by show _=_;rw[HZ.out,Yam (HAm.out rfl)]
      clear HZ HM HN HS HQ hgm hgd hgl;go_wp2_with fail;refine HP.out.mono ?_;rintro e w4 ⟨⟨v4,Q4,rfl,-,-⟩,hb4⟩;have HB4:=Zhd (Zaa HB3.out (Zaa HB.out hb4));go_wp2;go_ret2;unfold Zif;rw[HK.out];exact⟨⟨_,rfl,Zdr _⟩,HB4.out⟩
    | some l=>
      rw[hgp]at HP HAn hgd;simp only[Yfj]at HP hgd;have HN2:=Zhd (HAn.out.trans (show(some l).isNone=false from rfl))
      have HL:=Zhd hgd;have hll:l.length≤40000:=by rw[←hgd];exact hgl
      have HLm:Hid (∀ q∈l,0<q.length∧q.length≤16):=fun q hq=>hgm q (by rw[hgd];exact hq)
      clear HAn HAm hgm hgd hgl hgp HN;go_wp2_with fail;refine HP.out.mono ?_;rintro e w4 ⟨⟨v4,Q4,rfl,hq4,hm4⟩,hb4⟩;obtain⟨A4,c4,e4,-,-,hR4,hnil4,-⟩:=Zcr hq4.1;subst e4;have HB4:=Zhd (Zaa HB.out hb4);have HQ4:=Zhd (HQ.out.below hb4);have hq4l:Q4.length=l.length:=by rw[←hm4,Yay]
      have hq4b:Q4.length≤40000:=by omega
      have HN4:=Zhd hnil4;have HR4:=Zhd hR4;have HO4:=Zhd hq4.2
      have HM4:Hid ((Q++Q4).map Prod.snd=(gs.take (j+1)).flatMap gf):=by
       show _=_;rw[HSt.out,Ybv,HM.out,hm4,HL.out]
      have HS4:Hid (∀ x∈Q++Q4,0<x.2.length∧x.2.length≤16):=fun x hx=>by
       rcases Ybn.1 hx with hx|hx
       · exact HS.out x hx
       · exact HLm.out x.2 (by rw[←hm4];exact Yct.2 ⟨x,hx,rfl⟩)
      clear hb4 hq4 hm4 hnil4 hR4 HP HQ HB HM HS HSt HL HLm hq4l hll x0;go_wp2_with (at_builtin;refine Zqb rfl _ _ 71 rfl w3 w4 34 i0 _ 1 24 underlying71 hi hz0 hz1 hz2 rfl (by decide) (by decide) HQ4.out.1 HB4.out rfl A4 Q4.length c4 (Q4.map Prod.fst) rfl HR4.out HN4.out (by intro u hu;obtain⟨y,hy,rfl⟩:=Yct.1 hu;exact(HO4.out y hy).cell) (by omega) ?_;intro v8 w8 hown8 hb8 hk8)
      have HQ8:=Zhd (Zyz hown8 HQ4.out.2 HO4.out hk8);have HB8:=Zhd hb8;clear hown8 hb8 hk8 HQ4 HB4 HR4 HN4 HO4;go_wp2_with fail;go_roundw
      case rel=>exact⟨j+1,Q++Q4,by go_num,by omega,by rw[Yae];omega,HQ8,HM4,HN2,HS4,HB8⟩
      case measure=>simp[intOf];omega
  · have hjf:gs.take j=gs:=Ybh (by omega)
    rw[hjf]at HM HN;have hnI: ¬ ((j:Int)<(gs.length:Int)):=by omega
    have HZ2:Hid (z=Zhb X X (Q.map Prod.snd)):=by show _=_;rw[HZ.out,HN.out,Yab (by simp),HM.out]
    have HB4:=Zhd (Zaa HB3.out HB.out);have HX4:=Zhd (HX3.out.below HB.out);have hQb:Q.length≤8000000:=by omega
    clear hjf HM HN HZ HG HGl HGm HGd HB HX3 HRg HB3;obtain⟨A5,c5,e5,-,-,-⟩:=Zbj HQ.out.1;subst e5;obtain⟨PS,hPS⟩: ∃ PS,Q.map Prod.snd=PS:=⟨_,rfl⟩;rw[hPS]at HZ2;have hPl:PS.length=Q.length:=by rw[←hPS,Yay]
    have HPk:Hid (∀ k (h:k<Q.length),∃ h':k<PS.length,PS[k]=Q[k].2):=fun k h=>by
     subst hPS;exact⟨by rw[Yay];exact h,by rw[Ycz]⟩
    have HPl:=Zhd hPl;clear hPS hPl;generalize wr=w4 at *;go_wp2;go_loopw [13,53] (fun vo vk wr=> ∃ (k:Nat) (O:List Line),vk= .int .i64 k∧k≤Q.length∧Hid (Lr wr vo O)∧Hid (Zab O=true)∧Hid (Zhb X X PS=Zhb X O (PS.drop k))∧Hid (Below w4.heap.size w4 wr)) (fun _ vk _=>Q.length-(intOf vk).toNat)
    case atStart=>exact⟨0,X,rfl,Yas _,HX4.out,HXr.out,rfl,Yag _ _⟩
    case round=>
     obtain⟨k,O,rfl,hk',HO,HOr,HA,HB⟩:=hrel;by_cases hlt2:k<Q.length
     · obtain⟨m0,hm0⟩: ∃ m,Q.length=m+1:=⟨Q.length-1,by omega⟩
       have ho':=HQ.out.1;rw[hm0]at ho';obtain⟨g,c',e1⟩:=Zda ho';obtain⟨rfl,rfl⟩:A5=some ⟨g,0,none⟩∧c5=c':=by
        injection e1 with e2 _ e3
        exact⟨e2,e3⟩
       clear ho' e1 hm0;have hgl:=(HQ.out.1.lt g rfl).2;have x0:wr.cell? ⟨g,k,none⟩=some Q[k].1:=by
        rw[(HB.out.cell (p:=⟨g,k,none⟩) hgl),HQ.out.1.cellAt k (by omega),Ydb,Yaj hlt2];rfl
       have hq:QOwn wr (Q[k].1,Q[k].2):=(HQ.out.2 _ (Yaw hlt2)).below HB.out;have hs:=HS.out _ (Yaw hlt2);obtain⟨hkp,hpk⟩:=HPk.out k hlt2;have hdr:PS.drop k=Q[k].2::PS.drop (k+1):=by rw[Yaz hkp,hpk]
       have hA:=HA.out;rw[hdr]at hA;have hkI:(k:Int)<(Q.length:Int):=by omega
       generalize Q[k].2=P at *;generalize Q[k].1=pv at *;obtain⟨bp,op,cp,ep,hcp1,hcp2,hRp,-⟩:=id hq;obtain rfl:pv= .slice (some ⟨bp,op,none⟩) P.length cp:=ep;simp only at hcp1 hRp;have HI:=Zhd (HIn.out v1 _ P wr (HX4.out.below HB.out) hq hs.1 hs.2);have HAd:=Zhd (fun(A:Option Addr) (cap:Nat) (W:World) (h1:Rd W 3 A O.length (lines O)) (h2:O.length≤cap) (h3:cap≤maxLen) (h4:A=none→cap=0) (h5:Rd W 1 (some ⟨bp,op,none⟩) P.length (sv P))=>Zxf A cap O (some ⟨bp,op,none⟩) cp P W h1 h2 h3 h4 HOr.out h5 hcp1 hcp2 (by omega))
       have HRp:=Zhd hRp;clear hq hRp hdr hpk HA;cases hin:inhB X P with
       | false=>
         rw[Zamn hin]at hA;rw[hin]at HI;have HA2:=Zhd hA;clear hA hin;go_wp2_with fail;refine HI.out.mono ?_;rintro e w6 ⟨rfl,hb6⟩;have HB6:=Zhd (Zaa HB.out hb6);have HO6:=Zhd (HO.out.below hb6);clear hb6;go_wp2;go_roundw
         case rel=>exact⟨k+1,O,by go_num,by omega,HO6,HOr,HA2,HB6⟩
         case measure=>simp[intOf];omega
       | true=>
         rw[hin]at HI;obtain⟨ad,had⟩: ∃ ad,addB O P=ad:=⟨_,rfl⟩;obtain⟨M,er⟩:=ad;go_wp2_with fail;refine HI.out.mono ?_;rintro e w6 ⟨rfl,hb6⟩;obtain⟨Ao,co,eo,f1,f2,f3,f4⟩:=HO.out.below hb6;subst eo;have HB6:=Zhd (Zaa HB.out hb6);have HC6:=Zhd (HAd.out Ao co w6 f3 f1 f2 f4 (HRp.out.below hb6));clear hb6 HI HAd HRp f3;go_wp2_with fail;refine HC6.out.mono ?_;intro e w7 h7;obtain⟨v7,rfl,hl7,hb7⟩:=Zbgq h7;rw[had]at hl7⊢;have HB7:=Zhd (Zaa HB6.out hb7);have HL7:=Zhd hl7;clear h7 hl7 hb7 HC6;by_cases he:er=0
         · subst he;have hMr:=Zhd (Zsg had).1;rw[Zaiv hin had]at hA;have HA2:=Zhd hA;have q00:((0:Int)!=0)=false:=rfl;clear hA hin had;go_wp2;go_roundw
           case rel=>exact⟨k+1,M,by go_num,by omega,HL7,hMr,HA2,HB7⟩
           case measure=>simp[intOf];omega
         · rw[Zaiu hin had he]at hA;have HK:Hid (z=([],er)):=by show _=_;rw[HZ2.out,hA]
           have qe:(er !=0)=true:=by rw[bne_iff_ne];exact he
           have HBf:=Zhd (Zaa HB4.out HB7.out);clear hA hin had he;go_wp2;go_ret2;unfold Zif;rw[HK.out];exact⟨⟨_,rfl,Zdr _⟩,HBf.out⟩
     · have hA:=HA.out;rw[show PS.drop k= []from Ybe (by rw[HPl.out];omega)]at hA
       have HK:Hid (z=(O,0)):=by show _=_;rw[HZ2.out,hA];rfl
       have hnI2: ¬ ((k:Int)<(Q.length:Int)):=by omega
       have HBf:=Zhd (Zaa HB4.out HB.out);clear hA HA;go_wp2;go_ret2;unfold Zif;rw[HK.out];exact⟨⟨_,rfl,HO.out⟩,HBf.out⟩
end Go.Proofs.Zq
