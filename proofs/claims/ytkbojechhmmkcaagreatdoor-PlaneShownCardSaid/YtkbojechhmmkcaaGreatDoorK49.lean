import Derived.Test.YtkbojechhmmkcaaGreatDoorK30
import Derived.Test.YtkbojechhmmkcaaGreatDoorK47
set_option linter.unusedVariables false
set_option linter.unusedSimpArgs false
namespace Prs
open Go Go.Lib Go.Sort Go.Proofs Tre Lx Sch Edt
def Zbi (n:Nat):List UInt8:=List.replicate (2*n) 32
def depN (L:List Line) (i:Nat):Nat:=if i<L.length then(Zaj L i).toNat else 0
def Zjt (d:Nat):Nat→List (List UInt8×Sg×List UInt8)
 |0=> []
 |k+1=>(Zbi (d-1), .cls,[10])::Zjt (d-1) k
def Zre (d:Nat) (m:Int) (s:List UInt8) (op:Bool):List (List UInt8×Sg×List UInt8):=
 (if m%2=1 then [(Zbi d, .off,[32])]else [])++((if 1<m then [(if m%2=1 then []else Zbi d, .keep,[32])]else [])++
  [(if m=0 then Zbi d else [], .word s,if op then [32]else []),([],if op then .opn else .fin,[10])])
def Ziz (L:List Line) (i:Nat):List (List UInt8×Sg×List UInt8):=
 Zre (depN L i) (Zck L i).mark (Zck L i).word.data.toList (decide (depN L i<depN L (i+1)))++Zjt (depN L i) (depN L i-depN L (i+1))
def Zwy (L:List Line) (k:Nat):List (List UInt8×Sg×List UInt8):=(List.range k).flatMap (Ziz L)
def Ziq (L:List Line):List UInt8:=flat (Zwy L L.length)
theorem Zyb: ∀ (a b:List (List UInt8×Sg×List UInt8)),flat (a++b)=flat a++flat b
 | [],_=>rfl
 | (x,g,y)::a,b=>by
   show x++(g.text++(y++flat (a++b)))=(x++(g.text++(y++flat a)))++flat b;rw[Zyb a b];simp
theorem Zasu (L:List Line) (k:Nat):Zwy L (k+1)=Zwy L k++Ziz L k:=by unfold Zwy;rw[Ydg,Ycf];simp
theorem Zqg (r:List UInt8):ends (32::r):=fun c r' h=>by injection h with h _;rw[←h];decide
theorem Zaob (r:List UInt8):ends (59::r):=fun c r' h=>by injection h with h _;rw[←h];decide
theorem Zqz (n:Nat): ∀ c∈Zbi n,Zeg c=true:=fun c h=>by
 rw[List.eq_of_mem_replicate h];decide
theorem Zvu: ∀ (k d:Nat) {r:List (List UInt8×Sg×List UInt8)},Fits r→Fits (Zjt d k++r)
 |0,_,_,h=>h
 |k+1,d,_,h=>⟨Zqz _,fun c hc=>by rw[Ybu]at hc;rw[hc];decide,trivial,Zvu k (d-1) h⟩
theorem Zaos {d:Nat} {m:Int} {s:List UInt8} (op:Bool) (hs:s.length≤40) {r:List (List UInt8×Sg×List UInt8)} (h:Fits r):Fits (Zre d m s op++r):=by
 have b32: ∀ c∈([32]:List UInt8),Zeg c=true:=fun c hc=>by rw[Ybu]at hc;rw[hc];decide
 have b10: ∀ c∈([10]:List UInt8),Zeg c=true:=fun c hc=>by rw[Ybu]at hc;rw[hc];decide
 have b0: ∀ c∈([]:List UInt8),Zeg c=true:=fun c hc=>by cases hc
 have hb:=Zqz d;have bi: ∀ (p:Prop) [Decidable p],(∀ c∈(if p then Zbi d else []),Zeg c=true):=fun p _=>by split;exact hb;exact b0
 have bj: ∀ (p:Prop) [Decidable p],(∀ c∈(if p then []else Zbi d),Zeg c=true):=fun p _=>by split;exact b0;exact hb
 have h2:Fits ((([]:List UInt8),(if op=true then Sg.opn else Sg.fin),([10]:List UInt8))::r):=⟨b0,b10,by cases op<;>trivial,h⟩
 have h3:Fits ((if m=0 then Zbi d else [],Sg.word s,if op=true then [32]else [])::([],(if op=true then Sg.opn else Sg.fin),[10])::r):=by
  refine⟨bi _,by cases op;exact b0;exact b32,⟨hs, ?_⟩,h2⟩
  cases op with
  |true=>exact Zqg _
  |false=>exact Zaob _
 have g4: ∀ {X},Fits X→Fits ((if 1<m then [(if m%2=1 then []else Zbi d,Sg.keep,[32])]else [])++X):=fun {X} hX=>by
  by_cases h1:1<m
  · rw[Yam h1];exact⟨bj _,b32,Zqg _,hX⟩
  · rw[Yab h1];exact hX
 have g5: ∀ {X},Fits X→Fits ((if m%2=1 then [(Zbi d,Sg.off,[32])]else [])++X):=fun {X} hX=>by
  by_cases h1:m%2=1
  · rw[Yam h1];exact⟨hb,b32,Zqg _,hX⟩
  · rw[Yab h1];exact hX
 unfold Zre;rw[Ybc,Ybc];exact g5 (g4 h3)
theorem Zacu {L:List Line} (hr:Zab L=true): ∀ (l:List Nat),(∀ i∈l,i<L.length)→Fits (l.flatMap (Ziz L))
 | [],_=>trivial
 | i::l,h=>by
   have hi:=h i (Ycg ..);rw[Ybl];unfold Ziz;rw[Ybc];refine Zaos _ ?_ (Zvu _ _ (Zacu hr l fun j hj=>h j (Yca _ hj)))
   rw[Zcd hi];have:=(Lns.sound_mark (Zcy (Zac hr).2.1 i hi).1).2.2;rw[Yau];exact this
inductive Run (en:Int):Pst→Pst→Prop
 |refl (p:Pst):Run en p p
 |step {p q:Pst}:p.l≠ []→(stB en p).2.1=0→Run en (stB en p).2.2 q→Run en p q
theorem Run.trans {en:Int} {p q r:Pst} (h:Run en p q) (k:Run en q r):Run en p r:=by
 induction h with
 |refl=>exact k
 |step a b _ ih=>exact .step a b (ih k)
theorem Zbhc {en:Int} {p q:Pst} (h:Run en p q) (hg:Good p) (hq:q.l= []):goB en p.l.length p=(0,0,q):=by
 induction h with
 |refl=>exact Zaom _ _ hq
 | step a b _ ih=>
   rw[Zagt hg a b];exact ih (Ztg hg a b).1 hq
theorem Zhe {T:List Tok} {g:Core} {l:List Core} (h:T.map Tok.core=g::l): ∃ t T',T=t::T'∧t.kind=g.kind∧t.word=g.word∧t.bit=g.bit∧T'.map Tok.core=l:=by
 cases T with
 |nil=>cases h
 | cons t T'=>
   injection h with h1 h2
   exact⟨t,T',rfl,by rw[←h1];rfl,by rw[←h1];rfl,by rw[←h1];rfl,h2⟩
theorem Zagi {T:List Tok} {a b:List Core} (h:T.map Tok.core=a++b): ∃ T1 T2,T=T1++T2∧T1.map Tok.core=a∧T2.map Tok.core=b:=by
 obtain⟨T1,T2,h1,h2,h3⟩:=List.map_eq_append_iff.1 h;exact⟨T1,T2,h1,h2,h3⟩
abbrev Zsw (l:List (List UInt8×Sg×List UInt8)):List Core:=l.map fun x=>x.2.1.core
theorem Zaak {en:Int}: ∀ (k d:Nat) {T R:List Tok} {N:List Nd} {o:List Nat},T.map Tok.core=Zsw (Zjt d k)→k≤o.length→Run en ⟨T++R,N,o⟩ ⟨R,N,o.take (o.length-k)⟩
 | 0,d,T,R,N,o,h,_=>by
   have:T= []:=by cases T with|nil=>rfl|cons _ _=>cases h
   subst this;rw[Nat.sub_zero,Ybw];exact .refl _
 | k+1,d,T,R,N,o,h,hk=>by
   obtain⟨t,T',rfl,h1,-,-,h2⟩:=Zhe h;have hk3:(Zci en ((t::T')++R)).1=3:=h1;have e:=Zsc (en:=en) (p:=⟨(t::T')++R,N,o⟩) hk3 (by show o.length≠0;omega)
   refine .step (by simp) (by rw[e]) ?_
   rw[e];have ih:=Zaak (en:=en) k (d-1) (T:=T') (R:=R) (N:=N) (o:=o.take (o.length-1)) h2 (by rw[Yah];omega)
   rw[Yah,Ycl,show min (min (o.length-1) o.length-k) (o.length-1)=o.length-(k+1) by omega]at ih
   exact ih
theorem Zapv {m:Int} (hm:0≤m∧m≤3) {d:Nat} {s:List UInt8} {op:Bool} {T R:List Tok} (h:T.map Tok.core=Zsw (Zre d m s op)):
 ∃ t u l,T=l++ [t,u]∧Zbs 0 (T++R)=(m,true,t::u::R)∧(Zci 0 (T++R)).1≠3∧t.word=⟨s.toArray⟩∧u.kind=if op then 2 else 4:=by
 have key: ∀ (b:Int) {T:List Tok},T.map Tok.core= [⟨1,⟨s.toArray⟩,0⟩,(if op=true then Sg.opn else Sg.fin).core]→ ∃ t u,T= [t,u]∧Zbs b (T++R)=(b,true,t::u::R)∧t.kind=1∧t.word=⟨s.toArray⟩∧u.kind=if op then 2 else 4:=fun b T h=>by
  obtain⟨t,T',rfl,h1,h2,-,h3⟩:=Zhe h;obtain⟨u,T',rfl,g1,-,-,g2⟩:=Zhe h3;have:T'= []:=by cases T' with|nil=>rfl|cons _ _=>cases g2
  subst this;refine⟨t,u,rfl, ?_,h1,h2,by rw[g1];cases op<;>rfl⟩
  show Zbs b (t::u::R)=_;unfold Zbs;rw[Yab (by rw[h1];show ¬ ((1:Int)=5);decide),Yal (show t.kind=1 from h1)]
 have hm4:m=0∨m=1∨m=2∨m=3:=by omega
 rcases hm4 with rfl|rfl|rfl|rfl
 · obtain⟨t,u,rfl,g1,g2,g3,g4⟩:=key 0 h;exact⟨t,u,[],rfl,g1,by show t.kind≠3;rw[g2];decide,g3,g4⟩
 · obtain⟨a,T',rfl,a1,-,a2,h⟩:=Zhe (show T.map Tok.core=⟨5,⟨#[]⟩,1⟩::_ from h);obtain⟨t,u,rfl,g1,g2,g3,g4⟩:=key 1 h;refine⟨t,u,[a],rfl, ?_,by show a.kind≠3;rw[a1];decide,g3,g4⟩
   show Zbs 0 (a::([t,u]++R))=_;unfold Zbs;rw[Yam a1,a2,Yab (by decide)]
   exact g1
 · obtain⟨a,T',rfl,a1,-,a2,h⟩:=Zhe (show T.map Tok.core=⟨5,⟨#[]⟩,2⟩::_ from h);obtain⟨t,u,rfl,g1,g2,g3,g4⟩:=key 2 h;refine⟨t,u,[a],rfl, ?_,by show a.kind≠3;rw[a1];decide,g3,g4⟩
   show Zbs 0 (a::([t,u]++R))=_;unfold Zbs;rw[Yam a1,a2,Yab (by decide)]
   exact g1
 · obtain⟨a,T',rfl,a1,-,a2,h⟩:=Zhe (show T.map Tok.core=⟨5,⟨#[]⟩,1⟩::_ from h);obtain⟨b,T',rfl,b1,-,b2,h⟩:=Zhe (show T'.map Tok.core=⟨5,⟨#[]⟩,2⟩::_ from h);obtain⟨t,u,rfl,g1,g2,g3,g4⟩:=key 3 h;refine⟨t,u,[a,b],rfl, ?_,by show a.kind≠3;rw[a1];decide,g3,g4⟩
   show Zbs 0 (a::b::([t,u]++R))=_;unfold Zbs;rw[Yam a1,a2,Yab (by decide)]
   show Zbs 1 (b::([t,u]++R))=_;unfold Zbs;rw[Yam b1,b2,Yab (by decide)]
   exact g1
theorem Zbcw (a b:Int) {l:List Tok} (h:l≠ []):Zci a l=Zci b l:=by
 cases l with
 |nil=>exact absurd rfl h
 |cons t l=>rfl
structure At (L:List Line) (i:Nat) (N:List Nd) (o:List Nat):Prop where
 len:N.length=i
 node: ∀ j,j<i→(Zav N j).line=Zck L j∧((Zav N j).up= -1∧depN L j=0∨ ∃ u:Nat,u<j∧(Zav N j).up=(u:Int)∧pa L u=(pa L j).dropLast)
 opn:o.length=depN L i
 ups:i<L.length→ ∀ k (h:k<o.length),o[k]<i∧pa L o[k]=(pa L i).take (k+1)
section
variable {L:List Line} (hr:Zab L=true)
include hr
theorem Zdf {i:Nat} (hi:i<L.length):(pa L i).length=depN L i+1∧depN L i<16∧Zaj L i=(depN L i:Int):=by
 have h1:=Zbz (Zac hr).2.1 hi;have h2:=Zcf (Zac hr).2.1 hi;have h3:=Go.Proofs.Zq.right_depth hr hi;rw[←Zaq hi]at h3;unfold depN;rw[Yam hi];exact⟨h1,by omega,by omega⟩
theorem Zoj (i:Nat):depN L (i+1)≤depN L i+1:=by
 by_cases h:i+1<L.length
 · have:=Zle (Zac hr).2.1 i h;have h1:=(Zdf hr h).2.2;have h2:=(Zdf hr (show i<L.length by omega)).2.2
   rw[Zaq h]at h1;rw[Zaq (by omega)]at h2
   omega
 · unfold depN;rw[Yab h];omega
theorem Zaqq {i:Nat} (hi:i+1<L.length):(pa L (i+1)).take (depN L (i+1))=(pa L i).take (depN L (i+1)):=by
 have h1:=Zij [] L i hi
 have e1:pa L (i+1)=nxt (pa L i) L[i+1]:=by
  rw[Zfu hi,Zfu (show i<L.length by omega)];exact h1
 have h2:=(Zdf hr hi).2.2;have h3:=(Zdf hr (show i<L.length by omega)).1
 have h4:=Zoj hr i;rw[Zaq hi]at h2;rw[e1];unfold nxt;rw[h2,Ybr,Yce (by rw[Yah];omega),Ycl,Nat.min_self]
theorem Zaxl {en:Int} {i:Nat} (hi:i<L.length) {T R:List Tok} {N:List Nd} {o:List Nat} (hT:T.map Tok.core=Zsw (Ziz L i)) (hA:At L i N o): ∃ N' o',Run en ⟨T++R,N,o⟩ ⟨R,N',o'⟩∧At L (i+1) N' o':=by
 obtain⟨hl,hn,ho,hu⟩:=hA;obtain⟨p1,p2,p3⟩:=Zdf hr hi;have hmk:=Lns.mark_at hr hi;have hd1:=Zoj hr i;have hli:=Zcd hi;unfold Ziz at hT;rw[show Zsw (Zre (depN L i) (Zck L i).mark (Zck L i).word.data.toList (decide (depN L i<depN L (i+1)))++Zjt (depN L i) (depN L i-depN L (i+1)))=Zsw (Zre (depN L i) (Zck L i).mark (Zck L i).word.data.toList (decide (depN L i<depN L (i+1))))++Zsw (Zjt (depN L i) (depN L i-depN L (i+1)))from Ybv]at hT;obtain⟨T1,T2,rfl,c1,c2⟩:=Zagi hT;obtain⟨t,u,l,e1,e2,e3,e4,e5⟩:=Zapv (by rw[hli];exact hmk) (R:=T2++R) c1
 have hTne:T1++(T2++R)≠ []:=by rw[e1];simp
 rw[Zbcw 0 en hTne]at e3;have hw:t.word=(Zck L i).word:=by rw[e4]
 have htw:Zvb N (topB o) t.word=false:=by
  unfold Zvb;rw[Yfc];intro x hx;obtain⟨j,hj,rfl⟩:=Ybs hx;have hj2:j<i:=by omega
  obtain⟨g1,g2⟩:=hn j hj2;have gx:Zav N j=N[j]:=Zfp hj;rw[gx]at g1 g2;intro hh;rw[Yaq,Yao,Yao]at hh;obtain⟨h1,h2⟩:=hh;have hjl:j<L.length:=by omega
  have hpj:=Zdf hr hjl
  have hlast:pa L j=(pa L j).dropLast++ [Zbd L j]:=by
   conv=>lhs;rw[←Zev (pa L j) (by intro e;rw[e]at hpj;simp at hpj)]
   rw[Zel hr hjl]
  have hlasti:pa L i=(pa L i).dropLast++ [Zbd L i]:=by
   conv=>lhs;rw[←Zev (pa L i) (by intro e;rw[e]at p1;simp at p1)]
   rw[Zel hr hi]
  have hwd:Zbd L j=Zbd L i:=by
   rw[g1,hw,Zcd hjl,hli]at h2;rw[Zbe hjl,Zbe hi];exact h2
  have hdl:(pa L j).dropLast=(pa L i).dropLast:=by
   have etop: ∀ (h0:0<o.length),topB o=(o[o.length-1]:Int):=fun h0=>by
    unfold topB;rw[Ydh,Yaj (by omega)]
   rcases g2 with⟨g2,g3⟩|⟨v,g2,g3,g4⟩
   · rw[g2]at h1;have h0:o.length=0:=by
      rcases Ybj o.length with h0|h0
      · exact h0
      · rw[etop h0]at h1;omega
     have a1:(pa L j).length=1:=by omega
     have a2:(pa L i).length=1:=by omega
     rw[Yap (l:=(pa L j).dropLast) (by rw[Ycb];omega),Yap (l:=(pa L i).dropLast) (by rw[Ycb];omega)]
   · rw[g3]at h1;have h0:0<o.length:=by
      rcases Ybj o.length with h0|h0
      · have:o= []:=Yap h0;subst this;have h1:(v:Int)= -1:=h1;omega
      · exact h0
     rw[etop h0]at h1;have hv:v=o[o.length-1]:=by omega
     have:=(hu hi (o.length-1) (by omega)).2
     rw[←g4,hv,this,Ydc];congr 1;omega
  have:=Zwj hr hjl hi (by rw[hlast,hlasti,hdl,hwd])
  omega
 have hN200:N.length<200:=by have:=(Zac hr).1;omega
 obtain⟨m,hm⟩: ∃ m,(Zck L i).mark=m:=⟨_,rfl⟩;rw[hm]at e2
 have hnm:nameB m ⟨t::u::(T2++R),N,o⟩=(0,⟨u::(T2++R),N++ [⟨⟨o.length,t.word,m⟩,topB o⟩],o⟩):=by
  unfold nameB;simp only;rw[Yab (by omega),htw,Yab (by simp),Yab (by omega)]
 have hst:stB en ⟨T1++(T2++R),N,o⟩=Zrn en ⟨u::(T2++R),N++ [⟨⟨o.length,t.word,m⟩,topB o⟩],o⟩:=by
  rw[Zzm e3,Zrs e2 (by rw[hnm]),hnm]
 obtain⟨N',hN'⟩: ∃ N',N++ [⟨⟨o.length,t.word,m⟩,topB o⟩]=N':=⟨_,rfl⟩;rw[hN']at hst hnm;have hN'l:N'.length=i+1:=by rw[←hN'];simp;omega
 have hline:(Zav N' i).line=Zck L i∧(Zav N' i).up=topB o:=by
  rw[←hN',←hl,Zfz];refine⟨?_,rfl⟩;show(⟨(o.length:Int),t.word,m⟩:Line)=_;rw[hw,←hm,ho,hl,hli];rw[Zaq hi]at p3;rw[←p3]
 have hnode: ∀ j,j<i+1→(Zav N' j).line=Zck L j∧((Zav N' j).up= -1∧depN L j=0∨ ∃ u:Nat,u<j∧(Zav N' j).up=(u:Int)∧pa L u=(pa L j).dropLast):=fun j hj=>by
  rcases Ybp j i with h|h
  · rw[←hN',Zds (by omega)];exact hn j h
  · obtain rfl:j=i:=by omega
    refine⟨hline.1, ?_⟩;rw[hline.2];rcases Ybj o.length with h0|h0
    · have:o= []:=Yap h0;subst this;exact .inl ⟨rfl,by rw[←ho];rfl⟩
    · obtain⟨a1,a2⟩:=hu hi (o.length-1) (by omega)
      refine .inr ⟨o[o.length-1],a1, ?_, ?_⟩
      · unfold topB;rw[Ydh,Yaj (by omega)]
      · rw[a2,Ydc];congr 1;omega
 have hTl:(⟨T1++T2++R,N,o⟩:Pst)=⟨T1++(T2++R),N,o⟩:=by rw[Ybc]
 rw[hTl];by_cases hop:depN L i<depN L (i+1)
 · 
   rw[Yal hop]at e5;have hT2:T2= []:=by
    rw[show depN L i-depN L (i+1)=0 by omega]at c2
    cases T2 with|nil=>rfl|cons _ _=>cases c2
   subst hT2
   have e6:Zrn en ⟨u::([]++R),N',o⟩=(0,0,⟨R,N',o++ [i]⟩):=by
    rw[end_open (by show u.kind=2;rw[e5];rfl)]
    show(0,0,(⟨R,N',o++ [N'.length-1]⟩:Pst))=_;rw[hN'l];rfl
   have hd:depN L (i+1)=depN L i+1:=by omega
   have hi1:i+1<L.length:=by
    refine Nat.lt_of_not_le fun h=> ?_
    have:depN L (i+1)=0:=by unfold depN;rw[Yab (by omega)]
    omega
   refine⟨N',o++ [i], .step hTne (by rw[hst,e6]) (by rw[hst,e6];exact .refl _),hN'l,hnode,by rw[Yae,ho];simp;omega,fun _ k hk=> ?_⟩
   have hpn:=Zaqq hr hi1;rw[Yae]at hk;simp only[Ybd,Ydz]at hk
   have tk: ∀ q,q≤depN L (i+1)→(pa L (i+1)).take q=(pa L i).take q:=fun q hq=>by
    have:=congrArg (List.take q) hpn
    rwa [Ycl,Ycl,Yba hq]at this
   rcases Ybp k o.length with h|h
   · rw[Ydq h,tk (k+1) (by omega)]
     obtain⟨a1,a2⟩:=hu hi k h;exact⟨by omega,a2⟩
   · obtain rfl:k=o.length:=by omega
     rw[tk _ (by omega),Ybh (by omega)]
     simp
 · rw[Yai hop]at e5
   have e6:Zrn en ⟨u::(T2++R),N',o⟩=(0,0,⟨T2++R,N',o⟩):=by
    rw[Zxu (by show u.kind=4;rw[e5];rfl)];rfl
   have hcl:=Zaak (en:=en) (depN L i-depN L (i+1)) (depN L i) (R:=R) (N:=N') (o:=o) c2 (by omega)
   refine⟨N',o.take (o.length-(depN L i-depN L (i+1))), .step hTne (by rw[hst,e6]) (by rw[hst,e6];exact hcl),hN'l,hnode,by rw[Yah];omega,fun hi1 k hk=> ?_⟩
   have hpn:=Zaqq hr hi1;rw[Yah]at hk
   have tk: ∀ q,q≤depN L (i+1)→(pa L (i+1)).take q=(pa L i).take q:=fun q hq=>by
    have:=congrArg (List.take q) hpn
    rwa [Ycl,Ycl,Yba hq]at this
   rw[Ycs,tk (k+1) (by omega)]
   obtain⟨a1,a2⟩:=hu hi k (by omega)
   exact⟨by omega,a2⟩
theorem Zain {en:Int}: ∀ (n i:Nat) {T:List Tok} {N:List Nd} {o:List Nat},i+n=L.length→T.map Tok.core=Zsw ((List.range' i n).flatMap (Ziz L))→At L i N o→ ∃ N',Run en ⟨T,N,o⟩ ⟨[],N',[]⟩∧At L L.length N' []
 | 0,i,T,N,o,hi,hT,hA=>by
   have:T= []:=by cases T with|nil=>rfl|cons _ _=>cases hT
   subst this;have hi:i=L.length:=by omega
   subst hi;have:o= []:=Yap (by rw[hA.opn];unfold depN;rw[Yab (Nat.lt_irrefl _)])
   subst this;exact⟨N, .refl _,hA⟩
 | n+1,i,T,N,o,hi,hT,hA=>by
   rw[List.range'_succ,Ybl,show Zsw (Ziz L i++(List.range' (i+1) n).flatMap (Ziz L))=Zsw (Ziz L i)++Zsw ((List.range' (i+1) n).flatMap (Ziz L))from Ybv]at hT;obtain⟨T1,T2,rfl,c1,c2⟩:=Zagi hT;obtain⟨N1,o1,h1,h2⟩:=Zaxl hr (en:=en) (show i<L.length by omega) (R:=T2) c1 hA
   obtain⟨N2,h3,h4⟩:=Zain n (i+1) (by omega) c2 h2
   exact⟨N2,h1.trans h3,h4⟩
end
theorem Zait {α β γ:Type} {f:α→List β} {g:α→List γ}: ∀ (l:List α),(∀ x∈l,(f x).length=(g x).length)→ ∀ z,z∈(l.flatMap f).zip (l.flatMap g)↔ ∃ x∈l,z∈(f x).zip (g x)
 | [],_,z=>by simp
 | x::l,h,z=>by
   rw[Ybl,Ybl,List.zip_append (h x (Ycg ..)),Ybn,Zait l (fun y hy=>h y (Yca _ hy)) z]
   simp
theorem Zuk: ∀ (k:Nat) (N:List Nd) (U:List ByteArray) (u:Int),(Zho k N U u).length=(Zin k N u).length
 |0,_,_,_=>rfl
 | k+1,N,U,u=>by
   unfold Zho Zin;rw[List.length_flatMap,List.length_flatMap];congr 1;refine Yeg fun i _=> ?_
   rw[Ybd,Ybd,Zuk k]
theorem Zgg {N:List Nd} {k:Nat} {U:List ByteArray} {u:Int} {q:List ByteArray} {i:Nat}:(q,i)∈(Zho (k+1) N U u).zip (Zin (k+1) N u)↔ ∃ c∈Zcv N u,(q=U++ [(Zav N c).line.word]∧i=c)∨(q,i)∈(Zho k N (U++ [(Zav N c).line.word]) (c:Nat)).zip (Zin k N (c:Nat)):=by
 show(q,i)∈((Zcv N u).flatMap fun i=>(U++ [(Zav N i).line.word])::Zho k N (U++ [(Zav N i).line.word]) (i:Nat)).zip ((Zcv N u).flatMap fun i=>i::Zin k N (i:Nat))↔_
 rw[Zait _ fun x _=>by rw[Ybd,Ybd,Zuk]]
 refine exists_congr fun c=>and_congr_right fun _=> ?_
 rw[List.zip_cons_cons,Yav,Prod.mk.injEq]
theorem Zatk {N:List Nd} {i j:Nat} (hi:i<N.length) (hu:(Zav N i).up=(j:Int)): ∀ {k:Nat} {U:List ByteArray} {u:Int} {q:List ByteArray},(q,j)∈(Zho k N U u).zip (Zin k N u)→(q++ [(Zav N i).line.word],i)∈(Zho (k+1) N U u).zip (Zin (k+1) N u)
 |0,_,_,_,h=>by cases h
 | k+1,U,u,q,h=>by
   obtain⟨c,hc,h⟩:=Zgg.1 h;refine Zgg.2 ⟨c,hc, .inr ?_⟩;rcases h with⟨rfl,rfl⟩|h
   · exact Zgg.2 ⟨i,Zcn.2 ⟨hi,hu⟩, .inl ⟨rfl,rfl⟩⟩
   · exact Zatk hi hu h
section
variable {L:List Line} (hr:Zab L=true) {N:List Nd} (hA:At L L.length N [])
include hr hA
theorem Zbfz {i:Nat} (hi:i<L.length):pa L i=(pa L i).dropLast++ [(Zav N i).line.word]:=by
 have h:=Zdf hr hi
 conv=>lhs;rw[←Zev (pa L i) (by intro e;rw[e]at h;simp at h)]
 rw[Zel hr hi,(hA.node i hi).1,Zcd hi,Zbe hi]
theorem Zbaw: ∀ {k:Nat} {U:List ByteArray} {u:Int} {q:List ByteArray} {i:Nat},(u= -1∧U= []∨ ∃ v:Nat,u=(v:Int)∧U=pa L v)→(q,i)∈(Zho k N U u).zip (Zin k N u)→i<L.length∧q=pa L i
 |0,_,_,_,_,_,h=>by cases h
 | k+1,U,u,q,i,hU,h=>by
   obtain⟨c,hc,h⟩:=Zgg.1 h;obtain⟨c1,c2⟩:=Zcn.1 hc;rw[hA.len]at c1
   have hp:U++ [(Zav N c).line.word]=pa L c:=by
    rw[Zbfz hr hA c1];congr 1;rcases(hA.node c c1).2 with⟨g1,g2⟩|⟨v,g1,g2,g3⟩
    · rcases hU with⟨e1,e2⟩|⟨v,e1,-⟩
      · rw[e2];have:=(Zdf hr c1).1;exact(Yap (by rw[Ycb];omega)).symm
      · omega
    · rcases hU with⟨e1,e2⟩|⟨v',e1,e2⟩
      · omega
      · rw[e2,←g3];congr 1;omega
   rcases h with⟨rfl,rfl⟩|h
   · exact⟨c1,hp⟩
   · exact Zbaw (.inr ⟨c,rfl,hp⟩) h
omit hA in
theorem Zbak: ∀ {i:Nat},i<L.length→depN L i≤i
 | 0,hi=>by
   have:=dep_zero (Zac hr).2.1 hi;have h2:=(Zdf hr hi).2.2;omega
 | i+1,hi=>by
   have h1:=Zoj hr i;have h2:=Zbak (i:=i) (by omega)
   omega
theorem Zbav: ∀ (n i:Nat),i<n→i<L.length→ ∀ k,depN L i+1≤k→(pa L i,i)∈(Zho k N [] (-1)).zip (Zin k N (-1))
 |0,_,h,_,_,_=>absurd h (Ydm _)
 | n +1,i,hn,hi,k,hk=>by
   have h1:=Zbfz hr hA hi;have hl:i<N.length:=by rw[hA.len];exact hi
   rcases(hA.node i hi).2 with⟨g1,g2⟩|⟨v,g1,g2,g3⟩
   · obtain⟨m,rfl⟩: ∃ m,k=m+1:=⟨k-1,by omega⟩
     have h0:(pa L i).dropLast= []:=Yap (by rw[Ycb,(Zdf hr hi).1];omega)
     rw[h0]at h1;rw[h1];exact Zgg.2 ⟨i,Zcn.2 ⟨hl,g1⟩, .inl ⟨rfl,rfl⟩⟩
   · have hv:v<L.length:=by omega
     have a1:=(Zdf hr hi).1;have a2:=(Zdf hr hv).1;rw[g3,Ycb]at a2;obtain⟨m,rfl⟩: ∃ m,k=m+1:=⟨k-1,by omega⟩
     rw[h1,←g3];exact Zatk hl g2 (Zbav n v (by omega) hv m (by omega))
theorem Zash (hg:Good ⟨[],N,[]⟩) (hf:Fine ⟨[],N,[]⟩):Zmd N.length N (-1)=L:=by
 obtain⟨h1,h2⟩:=Zacn hg hf N.length;obtain⟨R,hR⟩: ∃ R,Zmd N.length N (-1)=R:=⟨_,rfl⟩;have hx:R=(Zin N.length N (-1)).map fun i=>(Zav N i).line:=by rw[←hR,Zuh]
 have h1:Zab R=true:=by rw[←hR];exact h1
 have h2:Zad R=Zho N.length N [] (-1):=by rw[←hR];exact h2
 rw[hR]
 have hin: ∀ i,i<L.length→Lns.stB R (pa L i)=(Zck L i).mark∧pa L i∈Zad R:=fun i hi=>by
  have hz:=Zbav hr hA (i+1) i (by omega) hi N.length (by rw[hA.len];have:=Zbak hr hi;omega)
  have hz2:(pa L i,(Zav N i).line)∈(Zad R).zip R:=by
   rw[h2,hx,List.zip_map_right];exact Yct.2 ⟨_,hz,rfl⟩
  refine⟨?_,(List.of_mem_zip hz2).1⟩;rw[Zasm h1 hz2,(hA.node i hi).1]
 refine Lns.tree_eq h1 hr fun q=> ?_
 by_cases hq:q∈Zad L
 · obtain⟨i,hi,rfl⟩:=Zbp.1 hq;rw[(hin i hi).1,Lns.st_at hr hi,Zcd hi]
 · rw[Lns.st_none hr hq];refine Lns.st_none h1 fun hm=>hq ?_
   rw[h2]at hm;obtain⟨j,hj,e⟩:=Ybs hm;have hj2:j<(Zin N.length N (-1)).length:=by rw[←Zuk];exact hj
   have hz:(q,(Zin N.length N (-1))[j])∈(Zho N.length N [] (-1)).zip (Zin N.length N (-1)):=by
    rw[Yer];exact⟨j,by rw[List.length_zip];omega,by rw[List.getElem_zip,e]⟩
   obtain⟨a1,a2⟩:=Zbaw hr hA (.inl ⟨rfl,rfl⟩) hz;exact Zbp.2 ⟨_,a1,a2.symm⟩
end
theorem Zasx {L:List Line} (hr:Zab L=true):Zir ⟨(Ziq L).toArray⟩=(L,0,0):=by
 have hF:Fits (Zwy L L.length):=Zacu hr _ fun i hi=>Ycm.1 hi
 obtain⟨T,h1,h2⟩:=Zatq hF;have hok:=Zbab (Ziq L);have h2:allB (Ziq L)=(T,0,0):=h2;rw[h2]at hok;have h1:T.map Tok.core=Zsw ((List.range' 0 L.length).flatMap (Ziz L)):=by rw[h1,←List.range_eq_range'];rfl
 obtain⟨N,h3,h4⟩:=Zain hr (en:=((Ziq L).length:Nat)) L.length 0 (N:= []) (o:= []) (by omega) h1 ⟨rfl,fun _ h=>absurd h (Ydm _),by
  unfold depN;split
  · rename_i h;rw[dep_zero (Zac hr).2.1 h];rfl
  · rfl,fun _ _ h=>absurd h (Ydm _)⟩
 have hgo:=Zbhc h3 (good_nil T) rfl;obtain⟨g1,g2⟩:=Zye (en:=((Ziq L).length:Nat)) T.length (good_nil T) (Zagq T hok) (by rw[show goB _ T.length ⟨T,[],[]⟩=_ from hgo])
 rw[show goB _ T.length ⟨T,[],[]⟩=_ from hgo]at g1 g2;unfold Zir;simp only;rw[h2];simp only;rw[Yab (by simp)]
 have e:(⟨(Ziq L).toArray⟩:ByteArray).size=(Ziq L).length:=by simp[ByteArray.size]
 rw[e,hgo];simp only;rw[Yab (by simp),Yab (by simp),Zash hr h4 g1 g2]
end Prs
