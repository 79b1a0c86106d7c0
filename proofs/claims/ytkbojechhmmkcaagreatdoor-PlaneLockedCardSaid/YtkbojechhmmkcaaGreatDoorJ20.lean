import Derived.Test.YtkbojechhmmkcaaGreatDoorJ19
set_option linter.unusedVariables false
set_option linter.unusedSimpArgs false
set_option maxHeartbeats 4000000
set_option maxRecDepth 100000
namespace Lns
open Go Go.Lib Adr Mtr Tre Sch
theorem Zns: ∀ {A B:List (List ByteArray)},A.Pairwise pLt→B.Pairwise pLt→(∀ q,q∈A↔q∈B)→A=B
 | [],[],_,_,_=>rfl
 | [],b::B,_,_,h=>absurd ((h b).2 (by simp)) (by simp)
 |a::A,[],_,_,h=>absurd ((h a).1 (by simp)) (by simp)
 | a ::A,b::B,hA,hB,h=>by
   obtain⟨a1,a2⟩:=Ycd.1 hA;obtain⟨b1,b2⟩:=Ycd.1 hB;have hab:a=b:=by
    rcases Yax.1 ((h a).1 (by simp))with e|h1
    · exact e
    · rcases Yax.1 ((h b).2 (by simp))with e|h2
      · exact e.symm
      · exact absurd (Zcb (b1 a h1) (a1 b h2)) (Zbz _)
   subst hab;rw[Zns a2 b2 fun q=> ?_]
   constructor
   · intro hq;rcases Yax.1 ((h q).1 (by simp[hq]))with e|e
     · rw[e]at hq;exact absurd (a1 _ hq) (Zbz _)
     · exact e
   · intro hq;rcases Yax.1 ((h q).2 (by simp[hq]))with e|e
     · rw[e]at hq;exact absurd (b1 _ hq) (Zbz _)
     · exact e
theorem Zrw {L:List Line} (hr:Zab L=true) {P:List ByteArray} (hP:P≠ []): ∀ {s:List ByteArray},P++s∈Zaf L→P∈Zaf L:=by
 have hlast: ∀ (n:Nat) (s:List ByteArray),s.length=n→P++s∈Zaf L→P∈Zaf L:=by
  intro n
  induction n with
  |zero=>intro s hs h;rwa [Yar hs,Ybg]at h
  | succ n ih=>
    intro s hs h;have hne:s≠ []:=fun e=>by rw[e]at hs;simp at hs
    obtain⟨-,h2⟩:=(Zcx hr).1.2 _ h;rw[Ycn hne]at h2;rcases h2 with h2|h2
    · exact ih s.dropLast (by rw[Yci];omega) h2
    · exact absurd (Yel.1 h2).1 hP
 exact fun {s} h=>hlast s.length s rfl h
def cutB (L:List Line) (i:Nat):List Line:=L.take i++L.drop (endB L i)
def stB (L:List Line) (P:List ByteArray):Int:=match Zar L P with|some k=>(Zdv L k).mark|none=> -1
theorem Zatz {α:Type} (L:List α) {k:Nat} (x:α) (hk:k≤L.length):(L.take k++x::L.drop k)[k]?=some x:=by
 rw[Ybi (by rw[Yaf];omega),Yaf,Ybb hk,Yep];rfl
theorem Zanz {α:Type} (L:List α) {k i:Nat} (x:α) (hi:i<k) (hk:k≤L.length):(L.take k++x::L.drop k)[i]?=L[i]?:=by
 rw[Yca (by rw[Yaf];omega),Ycp,Yan hi]
theorem Zaex {α:Type} (L:List α) {k i:Nat} (x:α) (hi:k≤i) (hk:k≤L.length):(L.take k++x::L.drop k)[i+1]?=L[i]?:=by
 rw[Ybi (by rw[Yaf];omega),Yaf,Ybb hk,show i+1-k=(i-k)+1 by omega,List.getElem?_cons_succ,Ydb]
 congr 1;omega
theorem Zajp {α:Type} (L:List α) {i e j:Nat} (hj:j<i) (hi:i≤L.length):(L.take i++L.drop e)[j]?=L[j]?:=by
 rw[Yca (by rw[Yaf];omega),Ycp,Yan hj]
theorem Zadf {α:Type} (L:List α) {i e j:Nat} (hj:e≤j) (hi:i≤L.length):(L.take i++L.drop e)[i+(j-e)]?=L[j]?:=by
 rw[Ybi (by rw[Yaf];omega),Yaf,Ybb hi,Ydb]
 congr 1;omega
theorem Zou {l:Line} (h:Zbx l=true):0≤l.mark∧l.mark≤3∧l.word.size≤40:=by
 unfold Zbx at h;simp only[Yat,Yap]at h;omega
section
variable {L:List Line} (hr:Zab L=true)
include hr
theorem Ztg {k:Nat} (hk:k<L.length):stB L (pa L k)=L[k].mark:=by
 unfold stB;rw[Zvm hr hk];show(Zdv L k).mark=_;rw[Zdm hk]
theorem Zayi {P:List ByteArray} {k:Nat} (hk:k<L.length) (e:pa L k=P):stB L P=L[k].mark:=by rw[←e];exact Ztg hr hk
theorem Zsn {P:List ByteArray} {k:Nat} {l:Line} (h1:(Zaf L)[k]?=some P) (h2:L[k]?=some l):stB L P=l.mark:=by
 obtain⟨hk,e⟩:=Yba.1 h2;rw[←e];refine Zayi hr hk ?_;unfold pa;rw[Yaq,h1];rfl
theorem Zvp {P:List ByteArray} (h:P∈Zaf L): ∃ k l,(Zaf L)[k]?=some P∧L[k]?=some l∧k<L.length∧stB L P=l.mark:=by
 obtain⟨k,hk,e⟩:=Ybo h;have hk2:k<L.length:=by rw[Zae]at hk;exact hk
 have h1:(Zaf L)[k]?=some P:=by rw[Yaj hk,e]
 exact⟨k,L[k],h1,Yaj hk2,hk2,Zsn hr h1 (Yaj hk2)⟩
theorem Zrn {k:Nat} (hk:k<L.length):0≤L[k].mark∧L[k].mark≤3:=by
 have:=Zou (Zei (Zac hr).2.1 k hk).1;omega
theorem Zda {P:List ByteArray}:P∈Zaf L↔0≤stB L P:=by
 rw[←Zft hr];unfold stB;cases hf:Zar L P with
 |none=>simp
 | some k=>
   have hk:=Zce hf;have:=Zrn hr hk;show true=true↔0≤(Zdv L k).mark;rw[Zdm hk];simp;omega
theorem Zaic (P:List ByteArray): -1≤stB L P∧stB L P≤3:=by
 unfold stB;cases hf:Zar L P with
 |none=>simp
 | some k=>
   have hk:=Zce hf;have:=Zrn hr hk;show -1≤(Zdv L k).mark∧(Zdv L k).mark≤3;rw[Zdm hk];omega
theorem Zee {P:List ByteArray} (h: ¬ P∈Zaf L):stB L P= -1:=by
 have h1:=Zaic hr P;rw[Zda hr]at h;omega
theorem Zayh {P:List ByteArray}: ¬ P∈Zaf L↔stB L P= -1:=⟨Zee hr,fun h=>by rw[Zda hr,h];omega⟩
end
theorem Zawv {L M:List Line} (hL:Zab L=true) (hM:Zab M=true) (h: ∀ P,stB L P=stB M P):L=M:=by
 have hp:Zaf L=Zaf M:=Zns (Zcx hL).1.1 (Zcx hM).1.1 fun q=>by rw[Zda hL,Zda hM,h]
 have hlen:L.length=M.length:=by rw[←Zae L,←Zae M,hp]
 refine List.ext_getElem hlen fun k h1 h2=> ?_
 have e:pa L k=pa M k:=by unfold pa;rw[hp]
 have hd:=Zbt (Zac hL).2.1 h1;have hd2:=Zbt (Zac hM).2.1 h2;have n1:=Zby (Zac hL).2.1 h1;have n2:=Zby (Zac hM).2.1 h2;have w1:=Zex hL h1;have w2:=Zex hM h2;have m1:=Ztg hL h1;have m2:=Ztg hM h2;rw[h,e,m2]at m1;rw[e]at w1 hd;rw[w2,Zbj h1,Zbj h2]at w1;rw[hd2,Zau h1,Zau h2]at hd;rw[Zau h1]at n1;rw[Zau h2]at n2;have hdd:L[k].depth=M[k].depth:=by omega
 rcases hx:L[k]with⟨a,b,c⟩
 rcases hy:M[k]with⟨a',b',c'⟩
 rw[hx,hy]at hdd w1 m1;simp only at hdd w1 m1;rw[hdd,w1,m1]
theorem Zaru {S:List (List ByteArray)} {M:List Line} (hf:Zfu S M) (hs:Zzo S) (hl:M.length≤200):
 Zab M=true∧Zaf M=S∧ ∀ (k:Nat) (hk:k<M.length),∃ hk':k<S.length,stB M S[k]=M[k].mark:=by
 obtain⟨h1,h2⟩:=Zkd hf hs hl;refine⟨h1,h2,fun k hk=> ?_⟩
 have hk':k<S.length:=by rw[Zxx hf];exact hk
 refine⟨hk',Zayi h1 hk ?_⟩;rw[Zfj hk];exact List.getElem_of_eq h2 _
section
variable {L:List Line} (hr:Zab L=true) {s:ByteArray} {m:Int}
include hr
theorem Zaxv {U:List ByteArray} (hU:U= []∨U∈Zaf L) (hn: ¬ U++ [s]∈Zaf L) (hl:L.length<200) (hs:s.size≤40) (hd:U.length<16) (hm:0≤m∧m≤3):
 Zab (insB L (Zbr L U s) ⟨(U.length:Nat),s,m⟩)=true∧ ∀ q,stB (insB L (Zbr L U s) ⟨(U.length:Nat),s,m⟩) q=if q=U++ [s]then m else stB L q:=by
 obtain⟨ht,hf⟩:=Zcx hr;have hle:=Zwt hr (s:=s) hU
 have hside: ∀ q,(q∈(Zaf L).take (Zbr L U s)→pLt q (U++ [s]))∧(q∈(Zaf L).drop (Zbr L U s)→pLt (U++ [s]) q):=fun q=>by
  constructor
  · intro h;obtain⟨i,hi,e⟩:=Ybo h;rw[Yaf,Zae]at hi;rw[Ycs]at e;rw[←e,←Zfj (by omega)]
    exact Zaez hr hU hn (by omega) (by omega)
  · intro h;obtain⟨i,hi,e⟩:=Ybo h;rw[Yam,Zae]at hi;rw[Ydl]at e;rw[←e,←Zfj (by omega)]
    exact Zzk hr hU (by omega) (by omega)
 have hmem: ∀ q,q∈(Zaf L).take (Zbr L U s)++((U++ [s])::(Zaf L).drop (Zbr L U s))↔q=U++ [s]∨q∈Zaf L:=fun q=>by
  rw[Ybl,Yax]
  conv=>rhs;rhs;rw[←Ybh (Zbr L U s) (Zaf L),Ybl]
  constructor
  · rintro(h|h|h)
    · exact .inr (.inl h)
    · exact .inl h
    · exact .inr (.inr h)
  · rintro(h|h|h)
    · exact .inr (.inl h)
    · exact .inl h
    · exact .inr (.inr h)
 have hres:Zab (insB L (Zbr L U s) ⟨(U.length:Nat),s,m⟩)=true∧Zaf (insB L (Zbr L U s) ⟨(U.length:Nat),s,m⟩)=(Zaf L).take (Zbr L U s)++((U++ [s])::(Zaf L).drop (Zbr L U s)):=by
  refine Zkd (Zgi (Zhr _ hf) ⟨⟨?_, ?_, ?_⟩,Zhq _ hf⟩) ⟨?_,fun q hq=> ?_⟩ ?_
  · unfold Zbx;simp only[Yat,Yap];omega
  · simp
  · rw[Ybx,Ycr];rfl
  · rw[Yex];refine⟨List.Pairwise.sublist (List.take_sublist _ _) ht.1,Ycd.2 ⟨fun q h=>(hside q).2 h,List.Pairwise.sublist (List.drop_sublist _ _) ht.1⟩,fun a ha b hb=> ?_⟩
    rcases Yax.1 hb with e|e
    · rw[e];exact(hside a).1 ha
    · exact Zcb ((hside a).1 ha) ((hside b).2 e)
  · rcases(hmem q).1 hq with e|e
    · rw[e];refine⟨by simp, ?_⟩
      rw[Yed];rcases hU with hU|hU
      · exact .inr hU
      · exact .inl ((hmem _).2 (.inr hU))
    · obtain⟨h1,h2⟩:=ht.2 q e;exact⟨h1,h2.imp (fun h=>(hmem _).2 (.inr h)) id⟩
  · rw[Zit];omega
 refine⟨hres.1,fun q=> ?_⟩
 generalize Zbr L U s=k at *;have hp:=hres.2;by_cases hq:q=U++ [s]
 · rw[Yan hq];exact Zsn hres.1 (k:=k) (by rw[hp,hq];exact Zatz _ _ (by rw[Zae];exact hle)) (Zatz L ⟨(U.length:Nat),s,m⟩ hle)
 · rw[Yad hq];by_cases hm2:q∈Zaf L
   · obtain⟨i,l,h1,h2,hi,h3⟩:=Zvp hr hm2;rw[h3];by_cases hik:i<k
     · exact Zsn hres.1 (k:=i) (by rw[hp,Zanz _ _ hik (by rw[Zae];exact hle)];exact h1) (by unfold insB;rw[Zanz _ _ hik hle];exact h2)
     · exact Zsn hres.1 (k:=i+1) (by rw[hp,Zaex _ _ (by omega) (by rw[Zae];exact hle)];exact h1) (by unfold insB;rw[Zaex _ _ (by omega) hle];exact h2)
   · rw[Zee hr hm2];refine Zee hres.1 fun h=> ?_
     rw[hp]at h;rcases(hmem q).1 h with e|e
     · exact hq e
     · exact hm2 e
end
def markB (L:List Line) (k:Nat) (m:Int):List Line:=L.set k ⟨Zao L k,Zbf L k,m⟩
theorem Zxy: ∀ {S:List (List ByteArray)} {L:List Line} {k:Nat} {l:Line} (hk:k<L.length),Zfu S L→Zbx l=true→l.depth=L[k].depth→l.word=L[k].word→Zfu S (L.set k l)
 | [],[],_,_,hk,_,_,_,_=>absurd hk (by simp)
 |_::_,_::_,0,_,_,h,h1,h2,h3=>⟨⟨h1,by rw[h2];exact h.1.2.1,by rw[h3];exact h.1.2.2⟩,h.2⟩
 |_::_,_::_,k+1,_,hk,h,h1,h2,h3=>⟨h.1,Zxy (k:=k) (by simpa using hk) h.2 h1 (by simpa using h2) (by simpa using h3)⟩
 | [],_::_,_,_,_,h,_,_,_=>h.elim
 |_::_,[],_,_,_,h,_,_,_=>h.elim
theorem Zabk {L:List Line} (hr:Zab L=true) {k:Nat} (hk:k<L.length) {m:Int} (hm:0≤m∧m≤3):
 Zab (markB L k m)=true∧ ∀ q,stB (markB L k m) q=if q=pa L k then m else stB L q:=by
 obtain⟨ht,hf⟩:=Zcx hr;have hs:=(Zei (Zac hr).2.1 k hk).1;have hl:=(Zac hr).1;have hlen:(markB L k m).length=L.length:=by unfold markB;simp
 obtain⟨h1,h2⟩:=Zkd (S:=Zaf L) (L:=markB L k m) (Zxy hk hf (by
  unfold Zbx at hs⊢;simp only[Yat,Yap]at hs⊢;rw[Zau hk,Zbj hk];exact⟨⟨hs.1.1,hm.1⟩,hm.2⟩) (Zau hk) (Zbj hk)) ht (by omega)
 refine⟨h1,fun q=> ?_⟩
 have hpa: ∀ i,pa (markB L k m) i=pa L i:=fun i=>by unfold pa;rw[h2]
 by_cases hq:q=pa L k
 · rw[Yan hq,hq,←hpa,Ztg h1 (by omega)]
   unfold markB;rw[List.getElem_set_self]
 · rw[Yad hq];by_cases hm2:q∈Zaf L
   · obtain⟨i,hi,rfl⟩:=Zbs.1 hm2;rw[Ztg hr hi,←hpa,Ztg h1 (by omega)]
     unfold markB;rw[List.getElem_set_ne];intro e;exact hq (by rw[e])
   · rw[Zee hr hm2];exact Zee h1 (by rw[h2];exact hm2)
def preB (P Q:List ByteArray):Bool:=decide (Q.take P.length=P)
theorem Zbh {P Q:List ByteArray}:preB P Q=true↔ ∃ s,Q=P++s:=by
 unfold preB;rw[Yap];constructor
 · intro h;exact⟨Q.drop P.length,by conv=>lhs;rw[←Ybh P.length Q,h]⟩
 · rintro⟨s,rfl⟩;simp
theorem Zajq {L:List Line} (hr:Zab L=true) {i:Nat} (hi:i<L.length):
 Zab (cutB L i)=true∧ ∀ q,stB (cutB L i) q=if preB (pa L i) q then -1 else stB L q:=by
 obtain⟨ht,hf⟩:=Zcx hr;have he:=Zbc L i hi
 have hsplit: ∀ q,q∈(Zaf L).take i++(Zaf L).drop (endB L i)↔q∈Zaf L∧ ¬ preB (pa L i) q=true:=fun q=>by
  rw[Ybl];constructor
  · rintro(h|h)
    · obtain⟨k,hk,e⟩:=Ybo h;rw[Yaf,Zae]at hk;rw[Ycs,←Zfj (by omega)]at e
      refine⟨Yew h, ?_⟩;rw[Zbh,←e,Zdr hr hi (by omega)];omega
    · obtain⟨k,hk,e⟩:=Ybo h;rw[Yam,Zae]at hk;rw[Ydl,←Zfj (by omega)]at e
      refine⟨Yey h, ?_⟩;rw[Zbh,←e,Zdr hr hi (by omega)];omega
  · rintro⟨h1,h2⟩;obtain⟨k,hk,rfl⟩:=Zbs.1 h1;rw[Zbh,Zdr hr hi hk]at h2;rcases Ybr k i with h|h
    · left
      rw[Yez];exact⟨k,by rw[Yaf,Zae];omega,by rw[Ycs,←Zfj hk]⟩
    · right
      rw[Yez];refine⟨k-endB L i,by rw[Yam,Zae];omega, ?_⟩
      rw[Ydl,Zfj hk];congr 1;omega
 have hne:=(ht.2 _ (Zbs.2 ⟨i,hi,rfl⟩)).1
 have hres:Zab (cutB L i)=true∧Zaf (cutB L i)=(Zaf L).take i++(Zaf L).drop (endB L i):=by
  refine Zkd (Zgi (Zhr _ hf) (Zhq _ hf)) ⟨?_,fun q hq=> ?_⟩ ?_
  · have:((Zaf L).take i++(Zaf L).drop (endB L i)).Sublist (Zaf L):=by
     conv=>rhs;rw[←Ybh i (Zaf L)]
     refine List.Sublist.append (List.Sublist.refl _) ?_;rw[show endB L i=i+(endB L i-i) by omega,←List.drop_drop]
     exact List.drop_sublist _ _
    exact List.Pairwise.sublist this ht.1
  · obtain⟨h1,h2⟩:=(hsplit q).1 hq;obtain⟨h3,h4⟩:=ht.2 q h1;refine⟨h3,h4.imp (fun h=>(hsplit _).2 ⟨h,fun e=>h2 ?_⟩) id⟩
    rw[Zbh]at e⊢;obtain⟨s,e⟩:=e;exact⟨s++ [q.getLastD ⟨#[]⟩],by rw[←Ybm,←e,Zlp q h3]⟩
  · unfold cutB;have:=(Zac hr).1;rw[Yak,Yaf,Yam];omega
 refine⟨hres.1,fun q=> ?_⟩
 by_cases hq:preB (pa L i) q=true
 · rw[Yan hq];refine Zee hres.1 fun h=> ?_
   rw[hres.2]at h;exact((hsplit q).1 h).2 hq
 · rw[Yad hq];by_cases hm2:q∈Zaf L
   · obtain⟨k,l,h1,h2,hk,h3⟩:=Zvp hr hm2;have hk2:=hq;have hpk:pa L k=q:=by unfold pa;rw[Yaq,h1];rfl
     rw[←hpk,Zbh,Zdr hr hi hk]at hk2;rw[h3];rcases Ybr k i with h|h
     · exact Zsn hres.1 (k:=k) (by rw[hres.2,Zajp _ h (by rw[Zae];omega)];exact h1) (by unfold cutB;rw[Zajp _ h (by omega)];exact h2)
     · exact Zsn hres.1 (k:=i+(k-endB L i)) (by rw[hres.2,Zadf _ (by omega) (by rw[Zae];omega)];exact h1) (by unfold cutB;rw[Zadf _ (by omega) (by omega)];exact h2)
   · rw[Zee hr hm2];exact Zee hres.1 fun h=>hm2 ((hsplit q).1 (by rw[←hres.2];exact h)).1
end Lns
namespace Edt
open Go Go.Lib Tre Lns
def Zct (L:List Line) (P:List ByteArray) (s:ByteArray) (S:List Line):List Line×Int:=
 if(Zar L (P.dropLast++ [s])).isSome then(L,4)else if 200<L.length+S.length then(L,5)
 else if(addB L (P.dropLast++ [s])).2≠0 then(L,(addB L (P.dropLast++ [s])).2)
 else(Go.Proofs.Zq.insMB (markB (addB L (P.dropLast++ [s])).1 ((Zar (addB L (P.dropLast++ [s])).1 (P.dropLast++ [s])).getD 0) (Zdv S 0).mark) ((Zar (addB L (P.dropLast++ [s])).1 (P.dropLast++ [s])).getD 0+1) (S.drop 1),0)
theorem Zaax {L S:List Line} {P:List ByteArray} {s:ByteArray} (h:(Zar L (P.dropLast++ [s])).isSome=true):Zct L P s S=(L,4):=by unfold Zct;rw[Yan h]
theorem Zags {L S:List Line} {P:List ByteArray} {s:ByteArray} (h:(Zar L (P.dropLast++ [s])).isSome=false) (h2:200<L.length+S.length):Zct L P s S=(L,5):=by unfold Zct;rw[Yad (by rw[h];simp),Yan h2]
theorem Zakr {L S:List Line} {P:List ByteArray} {s:ByteArray} {M:List Line} {er:Int} (h:(Zar L (P.dropLast++ [s])).isSome=false) (h2: ¬ 200<L.length+S.length) (h3:addB L (P.dropLast++ [s])=(M,er)) (h4:er≠0):Zct L P s S=(L,er):=by unfold Zct;rw[Yad (by rw[h];simp),Yad h2,h3,Yan h4]
theorem Zaks {L S:List Line} {P:List ByteArray} {s:ByteArray} {M:List Line} {k:Nat} (h:(Zar L (P.dropLast++ [s])).isSome=false) (h2: ¬ 200<L.length+S.length) (h3:addB L (P.dropLast++ [s])=(M,0)) (h4:Zar M (P.dropLast++ [s])=some k):Zct L P s S=(Go.Proofs.Zq.insMB (markB M k (Zdv S 0).mark) (k+1) (S.drop 1),0):=by
 unfold Zct;rw[Yad (by rw[h];simp),Yad h2,h3,Yad (by simp),h4];rfl
theorem Zqh {L M:List Line} {T:List ByteArray} (h:addB L T=(M,0)):Zab M=true∧ ∃ k,Zar M T=some k:=by
 unfold addB at h;split at h
 · cases h
 · rename_i h1;split at h
   · cases h
   · rename_i h2;split at h
     · rename_i M' hM;injection h with h _
       subst h;have hs:Zem T=true:=by
        cases hs:Zem T with
        |true=>rfl
        |false=>exact absurd (.inr hs) h1
       have hr:Zab L=true:=by
        cases hr:Zab L with
        |true=>rfl
        |false=>exact absurd (.inl hr) h1
       obtain⟨g1,g2⟩:=Zkq hs (by omega) T.length 0 L M' (by omega) hr (.inl rfl) hM
       have h0:0<T.length:=by
        unfold Zem at hs;simp at hs;exact hs.1
       have hm:T∈Zaf M':=(g2 T).2 (.inr ⟨T.length,h0,Yag _,by rw[Ybz]⟩)
       have:=(Zft g1).2 hm;exact⟨g1,Option.isSome_iff_exists.1 this⟩
     · cases h
theorem Zahb (L:List Line): ∀ (k:Nat) (hk:k<L.length) (m:Int),lines (L.set k ⟨L[k].depth,L[k].word,m⟩)=(lines L).set (k*3+2) (.int .i64 m):=by
 induction L with
 |nil=>intro k hk;cases hk
 | cons l r ih=>
   intro k hk m;cases k with
   |zero=>rfl
   | succ k=>
     have hk2:k<r.length:=by simpa using hk
     have:=ih k hk2 m;rw[show(k+1)*3+2=(k*3+2)+1+1+1 by omega]
     show l.cells++lines (r.set k ⟨r[k].depth,r[k].word,m⟩)=_;rw[this];rfl
theorem Zarh {L:List Line} {k:Nat} (hk:k<L.length) (m:Int):markB L k m=L.set k ⟨L[k].depth,L[k].word,m⟩:=by
 unfold markB;rw[Zau hk,Zbj hk]
theorem Zyt (L:List Line) (k:Nat) (m:Int):(markB L k m).length=L.length:=by unfold markB;rw[Ycm]
end Edt
namespace Go.Proofs.Zq
open Tryz
open Go Go.RowKit Go.Sort Tre Lx Prs Lns Edt
theorem Zauj (A:Option Addr) (cap:Nat) (L:List Line) (Ap:Option Addr) (cp:Nat) (P:List ByteArray) (w:World) (hR:Rd w 3 A L.length (lines L)) (hcap:L.length≤cap) (hc:cap≤maxLen) (hnil:A=none→cap=0) (hr:Zab L=true) (hP:Rd w 1 Ap P.length (sv P)) (hcp:P.length≤cp) (hc2:cp≤maxLen) (hlP:P.length≤1000000):
 Calls prog 58 #[.slice A L.length cap, .slice Ap P.length cp] w (Zxd L P w):=by
 by_cases h:Zem P=true∧P.length≤16
 · exact Zauk A cap L Ap cp P w hR hcap hc hnil hr hP hcp hc2 h.1 h.2
 · refine(Zuq A cap L Ap cp P w hR hcap hc hnil hr hP hcp hc2 hlP).mono fun e w' he=>⟨he,fun h0=>absurd h0 ?_⟩
   unfold addB;rw[hr];cases hs:Zem P with
   | true=>
     rw[hs]at h;have:16<P.length:=by
      rcases Ybr 16 P.length with h1|h1
      · exact h1
      · exact absurd ⟨rfl,h1⟩ h
     rw[Yad (by simp),Yan this];exact(by decide:(6:Int)≠0)
   |false=>rw[Yan (.inr rfl)];exact(by decide:(1:Int)≠0)
theorem Zyd (A:Option Addr) (cap:Nat) (L:List Line) (Ap:Option Addr) (cp:Nat) (P:List ByteArray) (s:ByteArray) (As:Option Addr) (cs:Nat) (S:List Line) (w:World) (hR:Rd w 3 A L.length (lines L)) (hcap:L.length≤cap) (hc:cap≤maxLen) (hnil:A=none→cap=0) (hr:Zab L=true) (hP:Rd w 1 Ap P.length (sv P)) (hcp:P.length≤cp) (hc2:cp≤maxLen) (h0:P.length≠0) (h16:P.length≤1000000)
 (hS:Rd w 3 As S.length (lines S)) (hS0:0<S.length) (hScap:S.length≤cs) (hSc:cs≤maxLen) (hS2:S.length≤200):
 Calls prog 71 #[.slice A L.length cap, .slice Ap P.length cp, .string s, .slice As S.length cs] w (Zhc (Zct L P s S) w):=by
 have HBe:=Zhd (Ztn Ap cp P s w hP hcp hc2 h0 h16);have HL:Hid (∀ W,Below w.heap.size w W→Lr W (.slice A L.length cap) L):=fun W hb=>⟨A,cap,rfl,hcap,hc,hR.below hb,hnil⟩
 have h200:=Zas hr;have hTl:(P.dropLast++ [s]).length=P.length:=by rw[Yak,Yci,Ybv];omega
 obtain⟨z,hz⟩: ∃ z,Zct L P s S=z:=⟨_,rfl⟩;have HZ:=Zhd hz;have HZ1:=Zhd (fun h=>HZ.out.symm.trans (Zaax (L:=L) (P:=P) (s:=s) (S:=S) h))
 have HZ2:=Zhd (fun h h2=>HZ.out.symm.trans (Zags (L:=L) (P:=P) (s:=s) (S:=S) h h2))
 have HZ3:=Zhd (fun M er h h2 h3 h4=>HZ.out.symm.trans (Zakr (L:=L) (P:=P) (s:=s) (S:=S) (M:=M) (er:=er) h h2 h3 h4))
 have HZ4:=Zhd (fun M k h h2 h3 h4=>HZ.out.symm.trans (Zaks (L:=L) (P:=P) (s:=s) (S:=S) (M:=M) (k:=k) h h2 h3 h4))
 unfold Zhc;rw[hz];clear hz HZ;obtain⟨T,hT⟩: ∃ T,P.dropLast++ [s]=T:=⟨_,rfl⟩;rw[hT]at HBe hTl HZ1 HZ2 HZ3 HZ4;have HF:=Zhd (fun(W:World) (A2:Option Addr) (c2:Nat) (hb:Below w.heap.size w W) (hP2:Rd W 1 A2 P.length (sv T)) (g1:P.length≤c2) (g2:c2≤maxLen)=>Zbq A cap L A2 c2 T W (hR.below hb) hcap hc hr (by rw[hTl];exact hP2) (by rw[hTl];exact g1) g2)
 have HA:=Zhd (fun(W:World) (A2:Option Addr) (c2:Nat) (hb:Below w.heap.size w W) (hP2:Rd W 1 A2 P.length (sv T)) (g1:P.length≤c2) (g2:c2≤maxLen)=>Zauj A cap L A2 c2 T W (hR.below hb) hcap hc hnil hr (by rw[hTl];exact hP2) (by rw[hTl];exact g1) g2 (by rw[hTl];exact h16))
 rw[hTl]at HF HA;have HRS:=Zhd hS;obtain⟨B,O,rfl,hab,hadd,-,-,y2⟩:=hS.line hS0
 have HY:Hid (∀ W,Below w.heap.size w W→W.cell? ⟨B,O+2,none⟩=some (.int .i64 (Zdv S 0).mark)):=fun W hbw=>by
  have y3:=(hbw.cell (p:=⟨B,O+0*3+2,none⟩) hab).trans y2;rw[Zdm hS0];simpa using y3
 have hVl:(S.drop 1).length=S.length-1:=by rw[Yam]
 have HVR:Hid (∀ W,Below w.heap.size w W→Rd W 3 (some ⟨B,O+3,none⟩) (S.drop 1).length (lines (S.drop 1))):=fun W hb=>by
  have:=Zrz (hS.below hb) (n:=1) (by omega)
  rw[hVl];simpa using this
 have hab:B<w.heap.size:=hab;obtain⟨mk,hmk⟩: ∃ mk,(Zdv S 0).mark=mk:=⟨_,rfl⟩;rw[hmk]at HY HZ4;clear hR hP hr hS hT y2 hadd hmk;cases hf:Zar L T with
 | some k0=>
   rw[hf]at HF;have HK:Hid (z=(L,4)):=HZ1.out (by rw[hf];rfl)
   clear HZ1 HZ2 HZ3 HZ4 HA HY HVR hf;go_enter func71,ntmps71;go_wp2_with fail;refine HBe.out.mono ?_;rintro e w2 ⟨⟨v2,rfl,ho2⟩,hb2⟩;obtain⟨A2,c2,rfl,g1,g2,g3⟩:=Zbe ho2;have HF2:=Zhd (HF.out w2 A2 c2 hb2 g3 g1 g2);have HB2:=Zhd hb2;clear ho2 g3 hb2 HF HBe;go_wp2_with fail;refine HF2.out.mono ?_;rintro e w3 ⟨rfl,hb3⟩;have HB3:=Zhd (Zaa HB2.out hb3);go_wp2;go_ret2;rw[HK.out];exact⟨⟨_,rfl,HL.out _ HB3.out⟩,HB3.out⟩
 | none =>
   rw[hf]at HF;have hfi:(Zar L T).isSome=false:=by rw[hf];rfl
   have hwr:IntKind.i64.wrap ((L.length:Int)+(S.length:Int))=(L.length:Int)+(S.length:Int):=by rw[IntKind.wrap_i64];omega
   by_cases hlong:200<L.length+S.length
   · have HK:Hid (z=(L,5)):=HZ2.out hfi hlong;have hl2:(200:Int)<(L.length:Int)+(S.length:Int):=by omega
     clear HZ1 HZ2 HZ3 HZ4 HA HY HVR hf hfi;go_enter func71,ntmps71;go_wp2_with fail;refine HBe.out.mono ?_;rintro e w2 ⟨⟨v2,rfl,ho2⟩,hb2⟩;obtain⟨A2,c2,rfl,g1,g2,g3⟩:=Zbe ho2;have HF2:=Zhd (HF.out w2 A2 c2 hb2 g3 g1 g2);have HB2:=Zhd hb2;clear ho2 g3 hb2 HF HBe;go_wp2_with fail;refine HF2.out.mono ?_;rintro e w3 ⟨rfl,hb3⟩;have HB3:=Zhd (Zaa HB2.out hb3);clear hb3 HF2;go_wp2;go_ret2;rw[HK.out];exact⟨⟨_,rfl,HL.out _ HB3.out⟩,HB3.out⟩
   · have hl2: ¬ (200:Int)<(L.length:Int)+(S.length:Int):=by omega
     obtain⟨a,ha⟩: ∃ a,addB L T=a:=⟨_,rfl⟩;obtain⟨M,er⟩:=a;unfold Zxd Zje at HA;rw[ha]at HA;simp only at HA;by_cases he:er=0
     · subst he;obtain⟨hrM,k,hk⟩:=Zqh ha;have hkl:=Zce hk;have HK:Hid (z=(insMB (markB M k mk) (k+1) (S.drop 1),0)):=HZ4.out M k hfi hlong ha hk;have HFM:=Zhd (fun(W:World) (A2:Option Addr) (c2:Nat) (A3:Option Addr) (c3:Nat) (hR3:Rd W 3 A3 M.length (lines M)) (g3:M.length≤c3) (g4:c3≤maxLen) (hP2:Rd W 1 A2 P.length (sv T)) (g1:P.length≤c2) (g2:c2≤maxLen)=>Zbq A3 c3 M A2 c2 T W hR3 g3 g4 hrM (by rw[hTl];exact hP2) (by rw[hTl];exact g1) g2)
       rw[hTl,hk,show Zpd (some k)=(k:Int)from rfl]at HFM;have hM200:=Zas hrM
       have HMs:Hid (lines (markB M k mk)=(lines M).set (k*3+2) (.int .i64 mk)):=by
        show _=_;rw[Zarh hkl];exact Zahb M k hkl mk
       have hMl:=Zyt M k mk;have hml:=Zad M;have hk1:IntKind.i64.wrap ((k:Int)+1)=(k:Int)+1:=by rw[IntKind.wrap_i64];omega
       have q00:((0:Int)!=0)=false:=rfl;have hnS: ¬ (S.length=0):=by omega
       have hklI:(k:Int)<(M.length:Int):=by omega
       have hS1:(1:Int)≤(S.length:Int):=by omega
       have hc1:(1:Int)≤(cs:Int):=by omega
       unfold maxLen at hSc;have hs1:(S.length:Int)-1=((S.length-1:Nat):Int):=by omega
       have hs2:(cs:Int)-1=((cs-1:Nat):Int):=by omega
       clear HZ1 HZ2 HZ3 HZ4 hf hfi ha hk hrM;go_enter func71,ntmps71;go_wp2_with fail;refine HBe.out.mono ?_;rintro e w2 ⟨⟨v2,rfl,ho2⟩,hb2⟩;obtain⟨A2,c2,rfl,g1,g2,g3⟩:=Zbe ho2;have HF2:=Zhd (HF.out w2 A2 c2 hb2 g3 g1 g2);have HP2:=Zhd g3;have HB2:=Zhd hb2;clear ho2 g3 hb2 HF HBe;go_wp2_with fail;refine HF2.out.mono ?_;rintro e w3 ⟨rfl,hb3⟩;have HB3:=Zhd (Zaa HB2.out hb3);have HP3:=Zhd (HP2.out.below hb3);have HA3:=Zhd (HA.out w3 A2 c2 HB3.out HP3.out g1 g2);clear hb3 HF2 HA HP2;go_wp2_with fail;refine HA3.out.mono ?_;rintro e w4 ⟨⟨A4,c4,rfl,g3,g4,-,-,hb4⟩,hown⟩;obtain⟨v,e',ho4⟩:=hown trivial;obtain rfl:v= .slice A4 M.length c4:=by
        simp at e';exact e'.symm
       obtain⟨m,hm⟩: ∃ m,M.length=m+1:=⟨M.length-1,by omega⟩
       have ho4':=ho4;rw[hm]at ho4';obtain⟨q,cc,e4⟩:=Zck ho4';obtain⟨rfl,rfl⟩:A4=some ⟨q,0,none⟩∧c4=cc:=by
        injection e4 with e1 _ e3
        exact⟨e1,e3⟩
       have HB4:=Zhd (Zaa HB3.out hb4);have HB34:=Zhd hb4;have HFM4:=Zhd (HFM.out w4 A2 c2 (some ⟨q,0,none⟩) c4 (Zor ho4).1 g3 g4 (HP3.out.below hb4) g1 g2);have HO4:=Zhd ho4;clear hown e' e4 ho4' ho4 hb4 HA3 HFM hm;go_wp2_with fail;refine HFM4.out.mono ?_;rintro e w5 ⟨rfl,hb5⟩;have HB5:=Zhd (Zaa HB4.out hb5);have HB35:=Zhd (Zaa HB34.out hb5);have HO5:=Zhd (Zah HO4.out hb5)
       have x2:w5.cell? ⟨q,k*3+2,none⟩=some ((lines M)[k*3+2]'(by omega)):=by
        rw[HO5.out.cellAt (k*3+2) (by omega)]
        exact Yaj _
       have hfz:w5.frozen? ⟨q,k*3+2,none⟩=false:=HO5.out.frozenAt _;have y2:=HY.out w5 HB5.out
       have HO6:Hid ((w5.setCell ⟨q,k*3+2,none⟩ (.int .i64 mk)).ownsRow w3.heap.size 62 3 (.slice (some ⟨q,0,none⟩) (markB M k mk).length c4) (markB M k mk).length (lines (markB M k mk))):=by
        show World.ownsRow _ _ _ _ _ _ _;rw[hMl,HMs.out];exact(HO5.out.stored (k*3+2) (.int .i64 mk)).1
       have hqb:w3.heap.size≤q:=(HO5.out.lt q rfl).1;have HB36:=Zhd (HB35.out.setCell (p:=⟨q,k*3+2,none⟩) hqb (.int .i64 mk));have HB6:=Zhd (HB5.out.setCell (p:=⟨q,k*3+2,none⟩) (Yas HB3.out.size hqb) (.int .i64 mk));have HV6:=Zhd (HVR.out _ HB6.out);have hqB:q≠B:=fun e=>by have:=HB3.out.size;omega
       clear hb5 HFM4 HO4 HO5 HB4 HB34 HB35 HB5 HVR HY;obtain⟨w6,hw6⟩: ∃ w6,w5.setCell ⟨q,k*3+2,none⟩ (.int .i64 mk)=w6:=⟨_,rfl⟩;rw[hw6]at HO6 HB36 HB6 HV6;by_cases hone:S.length=1
       · have hV0:S.drop 1= []:=Ybe (by omega)
         have HK2:Hid (z=(markB M k mk,0)):=by
          show _=_;rw[HK.out,hV0];unfold insMB;rw[Ybg,Ybh]
         have HIn:=Zhd (fun Av vc=>Zabe q M.length c4 (k+1) Av vc w6 (by omega) g3 g4)
         have HRes:Hid (Lr w6 (.slice (some ⟨q,0,none⟩) M.length c4) (markB M k mk)):=by
          have:=Lr.own HO6.out
          rwa [hMl]at this
         clear HO6 HV6 HK hV0 HMs;by_cases hcs:cs=1
         · subst hcs;rw[hone];go_wp2_with (go_at_call 94;refine(HIn.out _ _).mono ?_;rintro e w7 ⟨rfl,rfl⟩);go_ret2;rw[HK2.out];exact⟨⟨_,rfl,HRes.out⟩,HB6.out⟩
         · have hcs2: ¬ (1=cs):=fun e=>hcs e.symm
           rw[hone];go_wp2_with (go_at_call 94;refine(HIn.out _ _).mono ?_;rintro e w7 ⟨rfl,rfl⟩);go_ret2;rw[HK2.out];exact⟨⟨_,rfl,HRes.out⟩,HB6.out⟩
       · have hcs: ¬ (cs=1):=by omega
         have hcs2: ¬ (1=cs):=by omega
         have HIn:=Zhd (Zabc w3 w6 _ (k+1) B (O+3) (cs-1) (markB M k mk) (S.drop 1) HB36.out HO6.out (by omega) (by omega) (by omega) (by omega) HV6.out (fun e=>hqB (by injection e)))
         rw[hMl,hVl]at HIn;clear HO6 HV6 HMs;go_wp2_with (go_at_call 94;refine HIn.out.mono ?_;rintro e w7 ⟨⟨v7,rfl,ho7⟩,hb7⟩);have HB7:=Zhd (Zaa HB3.out hb7);have HR7:=Zhd (Lr.own ho7);clear ho7 hb7;go_wp2;go_ret2;rw[HK.out];exact⟨⟨_,rfl,HR7.out⟩,HB7.out⟩
     · have HK:Hid (z=(L,er)):=HZ3.out M er hfi hlong ha he;have qe:(er !=0)=true:=by rw[bne_iff_ne];exact he
       clear HZ1 HZ2 HZ3 HZ4 HY HVR hf hfi ha;go_enter func71,ntmps71;go_wp2_with fail;refine HBe.out.mono ?_;rintro e w2 ⟨⟨v2,rfl,ho2⟩,hb2⟩;obtain⟨A2,c2,rfl,g1,g2,g3⟩:=Zbe ho2;have HF2:=Zhd (HF.out w2 A2 c2 hb2 g3 g1 g2);have HP2:=Zhd g3;have HB2:=Zhd hb2;clear ho2 g3 hb2 HF HBe;go_wp2_with fail;refine HF2.out.mono ?_;rintro e w3 ⟨rfl,hb3⟩;have HB3:=Zhd (Zaa HB2.out hb3);have HA3:=Zhd (HA.out w3 A2 c2 HB3.out (HP2.out.below hb3) g1 g2);clear hb3 HF2 HA HP2;go_wp2_with fail;refine HA3.out.mono ?_;rintro e w4 ⟨⟨A4,c4,rfl,g3,g4,-,-,hb4⟩,-⟩;have HB4:=Zhd (Zaa HB3.out hb4);clear hb4 HA3;go_wp2;go_ret2;rw[HK.out];exact⟨⟨_,rfl,HL.out _ HB4.out⟩,HB4.out⟩
end Go.Proofs.Zq
namespace Edt
open Go Go.Lib Tre Lns
def Zbw (L:List Line) (k:Nat):List Line:=(L.drop k).take (endB L k-k)
def Zjl (L:List Line) (P:List ByteArray) (s:ByteArray):List Line×Int:=
 if 40<s.size then(L,1)else if P.length=0 then(L,1)else match Zar L P with
  |none=>(L,3)
  |some k=>if Zow L P then(L,12)else Zct L P s (Zbw L k)
def renB (L:List Line) (P:List ByteArray) (s:ByteArray):List Line×Int:=
 if 40<s.size then(L,1)else if P.length=0 then(L,1)else match Zar L P with
  |none=>(L,3)
  | some k=>if Zse L P k (endB L k)then(L,12)else if(Zar L (P.dropLast++ [s])).isSome then(L,4)
    else if(Zct (L.take k++L.drop (endB L k)) P s (Zbw L k)).2≠0 then(L,(Zct (L.take k++L.drop (endB L k)) P s (Zbw L k)).2)
    else Zct (L.take k++L.drop (endB L k)) P s (Zbw L k)
theorem Zia {L:List Line} {k:Nat} (hk:k<L.length):(Zbw L k).length=endB L k-k:=by
 have:=Zbc L k hk;unfold Zbw;rw[Yaf,Yam];omega
theorem Zaxl {L:List Line} {P:List ByteArray} {s:ByteArray} (h:40<s.size):Zjl L P s=(L,1):=by unfold Zjl;rw[Yan h]
theorem Zaps {L:List Line} {P:List ByteArray} {s:ByteArray} (h: ¬ 40<s.size) (h2:P.length=0):Zjl L P s=(L,1):=by unfold Zjl;rw[Yad h,Yan h2]
theorem Zajn {L:List Line} {P:List ByteArray} {s:ByteArray} (h: ¬ 40<s.size) (h2:P.length≠0) (hf:Zar L P=none):Zjl L P s=(L,3):=by unfold Zjl;rw[Yad h,Yad h2,hf]
theorem Zajo {L:List Line} {P:List ByteArray} {s:ByteArray} {k:Nat} (h: ¬ 40<s.size) (h2:P.length≠0) (hf:Zar L P=some k):Zjl L P s=if Zow L P then(L,12)else Zct L P s (Zbw L k):=by unfold Zjl;rw[Yad h,Yad h2,hf]
theorem Zayy {L:List Line} {P:List ByteArray} {s:ByteArray} (h:40<s.size):renB L P s=(L,1):=by unfold renB;rw[Yan h]
theorem Zawk {L:List Line} {P:List ByteArray} {s:ByteArray} (h: ¬ 40<s.size) (h2:P.length=0):renB L P s=(L,1):=by unfold renB;rw[Yad h,Yan h2]
theorem Zasm {L:List Line} {P:List ByteArray} {s:ByteArray} (h: ¬ 40<s.size) (h2:P.length≠0) (hf:Zar L P=none):renB L P s=(L,3):=by unfold renB;rw[Yad h,Yad h2,hf]
theorem Zasn {L:List Line} {P:List ByteArray} {s:ByteArray} {k:Nat} (h: ¬ 40<s.size) (h2:P.length≠0) (hf:Zar L P=some k) (hs:Zse L P k (endB L k)=true):renB L P s=(L,12):=by unfold renB;rw[Yad h,Yad h2,hf];simp only;rw[Yan hs]
theorem Zanj {L:List Line} {P:List ByteArray} {s:ByteArray} {k:Nat} (h: ¬ 40<s.size) (h2:P.length≠0) (hf:Zar L P=some k) (hs:Zse L P k (endB L k)=false) (ht:(Zar L (P.dropLast++ [s])).isSome=true):renB L P s=(L,4):=by unfold renB;rw[Yad h,Yad h2,hf];simp only;rw[Yad (by rw[hs];simp),Yan ht]
theorem Zayf {L:List Line} {P:List ByteArray} {s:ByteArray} {k:Nat} (h: ¬ 40<s.size) (h2:P.length≠0) (hf:Zar L P=some k) (hs:Zse L P k (endB L k)=false) (ht:(Zar L (P.dropLast++ [s])).isSome=false) {M:List Line} {er:Int} (hg:Zct (L.take k++L.drop (endB L k)) P s (Zbw L k)=(M,er)):renB L P s=if er≠0 then(L,er)else(M,er):=by
 unfold renB;rw[Yad h,Yad h2,hf];simp only;rw[Yad (by rw[hs];simp),Yad (by rw[ht];simp),hg]
end Edt
namespace Go.Proofs.Zq
open Tryz
open Go Go.RowKit Go.Sort Tre Lx Prs Lns Edt
theorem Zapr (A:Option Addr) (cap:Nat) (L:List Line) (Ap:Option Addr) (cp:Nat) (P:List ByteArray) (s:ByteArray) (w:World) (hR:Rd w 3 A L.length (lines L)) (hcap:L.length≤cap) (hc:cap≤maxLen) (hnil:A=none→cap=0) (hr:Zab L=true) (hP:Rd w 1 Ap P.length (sv P)) (hcp:P.length≤cp) (hc2:cp≤maxLen) (h16:P.length≤1000000):
 Calls prog 39 #[.slice A L.length cap, .slice Ap P.length cp, .string s] w (Zhc (Zjl L P s) w):=by
 have HPa:=Zhd (Zpz A cap L Ap cp P w hR hcap hc hr hP hcp hc2);have HL:Hid (∀ W,Below w.heap.size w W→Lr W (.slice A L.length cap) L):=fun W hb=>⟨A,cap,rfl,hcap,hc,hR.below hb,hnil⟩
 have h200:=Zas hr;obtain⟨z,hz⟩: ∃ z,Zjl L P s=z:=⟨_,rfl⟩;have HZ:=Zhd hz;unfold Zhc;rw[hz];clear hz;by_cases hw:40<s.size
 · have HK:Hid (z=(L,1)):=by show _=_;rw[←HZ.out,Zaxl hw]
   have hwI:(40:Int)<(s.size:Int):=by omega
   clear HZ hR hP hr HPa;go_enter func39,ntmps39;go_wp2;go_ret2;rw[HK.out];exact⟨⟨_,rfl,HL.out _ (Yae _ _)⟩,Yae _ _⟩
 · have hwI: ¬ (40:Int)<(s.size:Int):=by omega
   by_cases h0:P.length=0
   · have HK:Hid (z=(L,1)):=by show _=_;rw[←HZ.out,Zaps hw h0]
     rw[Znh h0]at HPa;clear HZ hR hP hr h0;go_enter func39,ntmps39;go_wp2_with fail;refine HPa.out.mono ?_;rintro e w2 ⟨rfl,hb2⟩;go_wp2;go_ret2;rw[HK.out];exact⟨⟨_,rfl,HL.out _ hb2⟩,hb2⟩
   · cases hf:Zar L P with
     | none=>
       have HK:Hid (z=(L,3)):=by show _=_;rw[←HZ.out,Zajn hw h0 hf]
       rw[Zkg h0 hf]at HPa;clear HZ hR hP hr h0 hf;go_enter func39,ntmps39;go_wp2_with fail;refine HPa.out.mono ?_;rintro e w2 ⟨rfl,hb2⟩;go_wp2;go_ret2;rw[HK.out];exact⟨⟨_,rfl,HL.out _ hb2⟩,hb2⟩
     | some k=>
       have hk:=Zce hf;have he:=Zbc L k hk;rw[Zkh h0 hf]at HPa;have HAb:=Zhd (fun(W:World) (hbw:Below w.heap.size w W)=>Zxf A cap L Ap cp P W (hR.below hbw) hcap hc hr (hP.below hbw) hcp hc2 h0)
       have hZ2:=HZ.out.symm.trans (Zajo hw h0 hf);obtain⟨B,O,rfl,hab,hadd,-,-,-⟩:=hR.line hk;have hpl:=Zia hk
       have HG:Hid (∀ W,Below w.heap.size w W→Calls prog 71 #[.slice (some ⟨B,O,none⟩) L.length cap, .slice Ap P.length cp, .string s, .slice (some ⟨B,O+k*3,none⟩) (endB L k-k) (cap-k)] W (Zhc (Zct L P s (Zbw L k)) W)):=fun W hb=>by
        have h1:Rd w 3 (some ⟨B,O+k*3,none⟩) (endB L k-k) (lines (Zbw L k)):=Zwm (by rw[Yam];exact Zrz hR (Yeb hk)) (by rw[Yam];omega)
        have h:=Zyd (some ⟨B,O,none⟩) cap L Ap cp P s (some ⟨B,O+k*3,none⟩) (cap-k) (Zbw L k) W (hR.below hb) hcap hc hnil hr (hP.below hb) hcp hc2 h0 h16 (by rw[hpl];exact h1.below hb) (by omega) (by omega) (by omega) (by omega)
        rw[hpl]at h;exact h
       unfold Zhc at HG;generalize endB L k=E at *;generalize Zct L P s (Zbw L k)=G at *;unfold maxLen at hc;have hsub:(E:Int)-(k:Int)=((E-k:Nat):Int):=by omega
       have hsub2:(cap:Int)-(k:Int)=((cap-k:Nat):Int):=by omega
       have hnE:(k:Int)≤(E:Int):=by omega
       have hEc:(E:Int)≤(cap:Int):=by omega
       have hnc: ¬ (cap=k):=by omega
       have hnc2: ¬ (k=cap):=by omega
       cases hab2:Zow L P with
       | true=>
         rw[hab2]at HAb hZ2;have HK:Hid (z=(L,12)):=hZ2;clear hZ2 HZ hR hP hr h0 hf hk HG hab2 hadd;go_enter func39,ntmps39;go_wp2_with fail;refine HPa.out.mono ?_;rintro e w2 ⟨rfl,hb2⟩;have HA2:=Zhd (HAb.out w2 hb2);have HB2:=Zhd hb2;clear hb2;go_wp2_with fail;refine HA2.out.mono ?_;rintro e w3 ⟨rfl,hb3⟩;have HB3:=Zhd (Zaa HB2.out hb3);clear hb3;go_wp2;go_ret2;rw[HK.out];exact⟨⟨_,rfl,HL.out _ HB3.out⟩,HB3.out⟩
       | false=>
         rw[hab2]at HAb hZ2;have HK:Hid (z=G):=hZ2;clear hZ2 HZ hR hP hr h0 hf hk hab2 hadd;go_enter func39,ntmps39;go_wp2_with fail;refine HPa.out.mono ?_;rintro e w2 ⟨rfl,hb2⟩;have HA2:=Zhd (HAb.out w2 hb2);have HB2:=Zhd hb2;clear hb2;go_wp2_with fail;refine HA2.out.mono ?_;rintro e w3 ⟨rfl,hb3⟩;have HB3:=Zhd (Zaa HB2.out hb3);have HG3:=Zhd (HG.out w3 HB3.out);clear hb3 HG;go_wp2_with fail;refine HG3.out.mono ?_;rintro e w4 ⟨⟨v4,rfl,hv4⟩,hb4⟩;have HB4:=Zhd (Zaa HB3.out hb4);have HV4:=Zhd hv4;clear hb4 hv4;go_wp2;go_ret2;rw[HK.out];exact⟨⟨_,rfl,HV4.out⟩,HB4.out⟩
end Go.Proofs.Zq
