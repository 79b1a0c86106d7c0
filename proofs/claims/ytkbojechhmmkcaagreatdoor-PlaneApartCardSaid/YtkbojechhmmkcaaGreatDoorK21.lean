import Derived.Test.YtkbojechhmmkcaaGreatDoorK20
set_option linter.unusedVariables false
set_option linter.unusedSimpArgs false
set_option maxHeartbeats 4000000
set_option maxRecDepth 100000
namespace Lns
open Go Go.Lib Adr Mtr Tre Sch
theorem Zpp: ∀ {A B:List (List ByteArray)},A.Pairwise pLt→B.Pairwise pLt→(∀ q,q∈A↔q∈B)→A=B
 | [],[],_,_,_=>rfl
 | [],b::B,_,_,h=>absurd ((h b).2 (by simp)) (by simp)
 |a::A,[],_,_,h=>absurd ((h a).1 (by simp)) (by simp)
 | a ::A,b::B,hA,hB,h=>by
   obtain⟨a1,a2⟩:=Ycj.1 hA;obtain⟨b1,b2⟩:=Ycj.1 hB;have hab:a=b:=by
    rcases Yav.1 ((h a).1 (by simp))with e|h1
    · exact e
    · rcases Yav.1 ((h b).2 (by simp))with e|h2
      · exact e.symm
      · exact absurd (Zcl (b1 a h1) (a1 b h2)) (Zby _)
   subst hab;rw[Zpp a2 b2 fun q=> ?_]
   constructor
   · intro hq;rcases Yav.1 ((h q).1 (by simp[hq]))with e|e
     · rw[e]at hq;exact absurd (a1 _ hq) (Zby _)
     · exact e
   · intro hq;rcases Yav.1 ((h q).2 (by simp[hq]))with e|e
     · rw[e]at hq;exact absurd (b1 _ hq) (Zby _)
     · exact e
theorem Zty {L:List Line} (hr:Zab L=true) {P:List ByteArray} (hP:P≠ []): ∀ {s:List ByteArray},P++s∈Zad L→P∈Zad L:=by
 have hlast: ∀ (n:Nat) (s:List ByteArray),s.length=n→P++s∈Zad L→P∈Zad L:=by
  intro n
  induction n with
  |zero=>intro s hs h;rwa [Yap hs,Ybg]at h
  | succ n ih=>
    intro s hs h;have hne:s≠ []:=fun e=>by rw[e]at hs;simp at hs
    obtain⟨-,h2⟩:=(Zcx hr).1.2 _ h;rw[Ycr hne]at h2;rcases h2 with h2|h2
    · exact ih s.dropLast (by rw[Ycb];omega) h2
    · exact absurd (Yey.1 h2).1 hP
 exact fun {s} h=>hlast s.length s rfl h
def cutB (L:List Line) (i:Nat):List Line:=L.take i++L.drop (endB L i)
def stB (L:List Line) (P:List ByteArray):Int:=match Zas L P with|some k=>(Zck L k).mark|none=> -1
theorem Zbas {α:Type} (L:List α) {k:Nat} (x:α) (hk:k≤L.length):(L.take k++x::L.drop k)[k]?=some x:=by
 rw[Ybm (by rw[Yah];omega),Yah,Yba hk,Yel];rfl
theorem Zasi {α:Type} (L:List α) {k i:Nat} (x:α) (hi:i<k) (hk:k≤L.length):(L.take k++x::L.drop k)[i]?=L[i]?:=by
 rw[Ych (by rw[Yah];omega),Ycv,Yam hi]
theorem Zaih {α:Type} (L:List α) {k i:Nat} (x:α) (hi:k≤i) (hk:k≤L.length):(L.take k++x::L.drop k)[i+1]?=L[i]?:=by
 rw[Ybm (by rw[Yah];omega),Yah,Yba hk,show i+1-k=(i-k)+1 by omega,List.getElem?_cons_succ,Ycp]
 congr 1;omega
theorem Zanl {α:Type} (L:List α) {i e j:Nat} (hj:j<i) (hi:i≤L.length):(L.take i++L.drop e)[j]?=L[j]?:=by
 rw[Ych (by rw[Yah];omega),Ycv,Yam hj]
theorem Zagk {α:Type} (L:List α) {i e j:Nat} (hj:e≤j) (hi:i≤L.length):(L.take i++L.drop e)[i+(j-e)]?=L[j]?:=by
 rw[Ybm (by rw[Yah];omega),Yah,Yba hi,Ycp]
 congr 1;omega
theorem sound_mark {l:Line} (h:Zco l=true):0≤l.mark∧l.mark≤3∧l.word.size≤40:=by
 unfold Zco at h;simp only[Yaq,Yao]at h;omega
section
variable {L:List Line} (hr:Zab L=true)
include hr
theorem st_at {k:Nat} (hk:k<L.length):stB L (pa L k)=L[k].mark:=by
 unfold stB;rw[Zrq hr hk];show(Zck L k).mark=_;rw[Zcd hk]
theorem Zbhe {P:List ByteArray} {k:Nat} (hk:k<L.length) (e:pa L k=P):stB L P=L[k].mark:=by rw[←e];exact st_at hr hk
theorem Zuq {P:List ByteArray} {k:Nat} {l:Line} (h1:(Zad L)[k]?=some P) (h2:L[k]?=some l):stB L P=l.mark:=by
 obtain⟨hk,e⟩:=Ybb.1 h2;rw[←e];refine Zbhe hr hk ?_;unfold pa;rw[Yar,h1];rfl
theorem Zyc {P:List ByteArray} (h:P∈Zad L): ∃ k l,(Zad L)[k]?=some P∧L[k]?=some l∧k<L.length∧stB L P=l.mark:=by
 obtain⟨k,hk,e⟩:=Ybs h;have hk2:k<L.length:=by rw[Zaf]at hk;exact hk
 have h1:(Zad L)[k]?=some P:=by rw[Yaj hk,e]
 exact⟨k,L[k],h1,Yaj hk2,hk2,Zuq hr h1 (Yaj hk2)⟩
theorem mark_at {k:Nat} (hk:k<L.length):0≤L[k].mark∧L[k].mark≤3:=by
 have:=sound_mark (Zcy (Zac hr).2.1 k hk).1;omega
theorem Zdt {P:List ByteArray}:P∈Zad L↔0≤stB L P:=by
 rw[←Zcz hr];unfold stB;cases hf:Zas L P with
 |none=>simp
 | some k=>
   have hk:=Zcu hf;have:=mark_at hr hk;show true=true↔0≤(Zck L k).mark;rw[Zcd hk];simp;omega
theorem Zacq (P:List ByteArray): -1≤stB L P∧stB L P≤3:=by
 unfold stB;cases hf:Zas L P with
 |none=>simp
 | some k=>
   have hk:=Zcu hf;have:=mark_at hr hk;show -1≤(Zck L k).mark∧(Zck L k).mark≤3;rw[Zcd hk];omega
theorem st_none {P:List ByteArray} (h: ¬ P∈Zad L):stB L P= -1:=by
 have h1:=Zacq hr P;rw[Zdt hr]at h;omega
theorem Zbhd {P:List ByteArray}: ¬ P∈Zad L↔stB L P= -1:=⟨st_none hr,fun h=>by rw[Zdt hr,h];omega⟩
end
theorem tree_eq {L M:List Line} (hL:Zab L=true) (hM:Zab M=true) (h: ∀ P,stB L P=stB M P):L=M:=by
 have hp:Zad L=Zad M:=Zpp (Zcx hL).1.1 (Zcx hM).1.1 fun q=>by rw[Zdt hL,Zdt hM,h]
 have hlen:L.length=M.length:=by rw[←Zaf L,←Zaf M,hp]
 refine List.ext_getElem hlen fun k h1 h2=> ?_
 have e:pa L k=pa M k:=by unfold pa;rw[hp]
 have hd:=Zbz (Zac hL).2.1 h1;have hd2:=Zbz (Zac hM).2.1 h2;have n1:=Zcf (Zac hL).2.1 h1;have n2:=Zcf (Zac hM).2.1 h2;have w1:=Zel hL h1;have w2:=Zel hM h2;have m1:=st_at hL h1;have m2:=st_at hM h2;rw[h,e,m2]at m1;rw[e]at w1 hd;rw[w2,Zbe h1,Zbe h2]at w1;rw[hd2,Zaq h1,Zaq h2]at hd;rw[Zaq h1]at n1;rw[Zaq h2]at n2;have hdd:L[k].depth=M[k].depth:=by omega
 rcases hx:L[k]with⟨a,b,c⟩
 rcases hy:M[k]with⟨a',b',c'⟩
 rw[hx,hy]at hdd w1 m1;simp only at hdd w1 m1;rw[hdd,w1,m1]
theorem Zaye {S:List (List ByteArray)} {M:List Line} (hf:Zgr S M) (hs:Zacv S) (hl:M.length≤200):
 Zab M=true∧Zad M=S∧ ∀ (k:Nat) (hk:k<M.length),∃ hk':k<S.length,stB M S[k]=M[k].mark:=by
 obtain⟨h1,h2⟩:=Zlu hf hs hl;refine⟨h1,h2,fun k hk=> ?_⟩
 have hk':k<S.length:=by rw[Zaav hf];exact hk
 refine⟨hk',Zbhe h1 hk ?_⟩;rw[Zfu hk];exact Yen h2 _
section
variable {L:List Line} (hr:Zab L=true) {s:ByteArray} {m:Int}
include hr
theorem Zbgo {U:List ByteArray} (hU:U= []∨U∈Zad L) (hn: ¬ U++ [s]∈Zad L) (hl:L.length<200) (hs:s.size≤40) (hd:U.length<16) (hm:0≤m∧m≤3):
 Zab (insB L (Zcc L U s) ⟨(U.length:Nat),s,m⟩)=true∧ ∀ q,stB (insB L (Zcc L U s) ⟨(U.length:Nat),s,m⟩) q=if q=U++ [s]then m else stB L q:=by
 obtain⟨ht,hf⟩:=Zcx hr;have hle:=Zzl hr (s:=s) hU
 have hside: ∀ q,(q∈(Zad L).take (Zcc L U s)→pLt q (U++ [s]))∧(q∈(Zad L).drop (Zcc L U s)→pLt (U++ [s]) q):=fun q=>by
  constructor
  · intro h;obtain⟨i,hi,e⟩:=Ybs h;rw[Yah,Zaf]at hi;rw[Ycs]at e;rw[←e,←Zfu (by omega)]
    exact Zaij hr hU hn (by omega) (by omega)
  · intro h;obtain⟨i,hi,e⟩:=Ybs h;rw[Yan,Zaf]at hi;rw[Ydr]at e;rw[←e,←Zfu (by omega)]
    exact Zacp hr hU (by omega) (by omega)
 have hmem: ∀ q,q∈(Zad L).take (Zcc L U s)++((U++ [s])::(Zad L).drop (Zcc L U s))↔q=U++ [s]∨q∈Zad L:=fun q=>by
  rw[Ybn,Yav]
  conv=>rhs;rhs;rw[←Ybk (Zcc L U s) (Zad L),Ybn]
  constructor
  · rintro(h|h|h)
    · exact .inr (.inl h)
    · exact .inl h
    · exact .inr (.inr h)
  · rintro(h|h|h)
    · exact .inr (.inl h)
    · exact .inl h
    · exact .inr (.inr h)
 have hres:Zab (insB L (Zcc L U s) ⟨(U.length:Nat),s,m⟩)=true∧Zad (insB L (Zcc L U s) ⟨(U.length:Nat),s,m⟩)=(Zad L).take (Zcc L U s)++((U++ [s])::(Zad L).drop (Zcc L U s)):=by
  refine Zlu (Zhi (Ziw _ hf) ⟨⟨?_, ?_, ?_⟩,Ziv _ hf⟩) ⟨?_,fun q hq=> ?_⟩ ?_
  · unfold Zco;simp only[Yaq,Yao];omega
  · simp
  · rw[Ycd,Ycy];rfl
  · rw[Yfg];refine⟨List.Pairwise.sublist (List.take_sublist _ _) ht.1,Ycj.2 ⟨fun q h=>(hside q).2 h,List.Pairwise.sublist (List.drop_sublist _ _) ht.1⟩,fun a ha b hb=> ?_⟩
    rcases Yav.1 hb with e|e
    · rw[e];exact(hside a).1 ha
    · exact Zcl ((hside a).1 ha) ((hside b).2 e)
  · rcases(hmem q).1 hq with e|e
    · rw[e];refine⟨by simp, ?_⟩
      rw[Yeq];rcases hU with hU|hU
      · exact .inr hU
      · exact .inl ((hmem _).2 (.inr hU))
    · obtain⟨h1,h2⟩:=ht.2 q e;exact⟨h1,h2.imp (fun h=>(hmem _).2 (.inr h)) id⟩
  · rw[Zjy];omega
 refine⟨hres.1,fun q=> ?_⟩
 generalize Zcc L U s=k at *;have hp:=hres.2;by_cases hq:q=U++ [s]
 · rw[Yam hq];exact Zuq hres.1 (k:=k) (by rw[hp,hq];exact Zbas _ _ (by rw[Zaf];exact hle)) (Zbas L ⟨(U.length:Nat),s,m⟩ hle)
 · rw[Yab hq];by_cases hm2:q∈Zad L
   · obtain⟨i,l,h1,h2,hi,h3⟩:=Zyc hr hm2;rw[h3];by_cases hik:i<k
     · exact Zuq hres.1 (k:=i) (by rw[hp,Zasi _ _ hik (by rw[Zaf];exact hle)];exact h1) (by unfold insB;rw[Zasi _ _ hik hle];exact h2)
     · exact Zuq hres.1 (k:=i+1) (by rw[hp,Zaih _ _ (by omega) (by rw[Zaf];exact hle)];exact h1) (by unfold insB;rw[Zaih _ _ (by omega) hle];exact h2)
   · rw[st_none hr hm2];refine st_none hres.1 fun h=> ?_
     rw[hp]at h;rcases(hmem q).1 h with e|e
     · exact hq e
     · exact hm2 e
end
def markB (L:List Line) (k:Nat) (m:Int):List Line:=L.set k ⟨Zaj L k,Zbd L k,m⟩
theorem Zaaw: ∀ {S:List (List ByteArray)} {L:List Line} {k:Nat} {l:Line} (hk:k<L.length),Zgr S L→Zco l=true→l.depth=L[k].depth→l.word=L[k].word→Zgr S (L.set k l)
 | [],[],_,_,hk,_,_,_,_=>absurd hk (by simp)
 |_::_,_::_,0,_,_,h,h1,h2,h3=>⟨⟨h1,by rw[h2];exact h.1.2.1,by rw[h3];exact h.1.2.2⟩,h.2⟩
 |_::_,_::_,k+1,_,hk,h,h1,h2,h3=>⟨h.1,Zaaw (k:=k) (by simpa using hk) h.2 h1 (by simpa using h2) (by simpa using h3)⟩
 | [],_::_,_,_,_,h,_,_,_=>h.elim
 |_::_,[],_,_,_,h,_,_,_=>h.elim
theorem Zaem {L:List Line} (hr:Zab L=true) {k:Nat} (hk:k<L.length) {m:Int} (hm:0≤m∧m≤3):
 Zab (markB L k m)=true∧ ∀ q,stB (markB L k m) q=if q=pa L k then m else stB L q:=by
 obtain⟨ht,hf⟩:=Zcx hr;have hs:=(Zcy (Zac hr).2.1 k hk).1;have hl:=(Zac hr).1;have hlen:(markB L k m).length=L.length:=by unfold markB;simp
 obtain⟨h1,h2⟩:=Zlu (S:=Zad L) (L:=markB L k m) (Zaaw hk hf (by
  unfold Zco at hs⊢;simp only[Yaq,Yao]at hs⊢;rw[Zaq hk,Zbe hk];exact⟨⟨hs.1.1,hm.1⟩,hm.2⟩) (Zaq hk) (Zbe hk)) ht (by omega)
 refine⟨h1,fun q=> ?_⟩
 have hpa: ∀ i,pa (markB L k m) i=pa L i:=fun i=>by unfold pa;rw[h2]
 by_cases hq:q=pa L k
 · rw[Yam hq,hq,←hpa,st_at h1 (by omega)]
   unfold markB;rw[List.getElem_set_self]
 · rw[Yab hq];by_cases hm2:q∈Zad L
   · obtain⟨i,hi,rfl⟩:=Zbp.1 hm2;rw[st_at hr hi,←hpa,st_at h1 (by omega)]
     unfold markB;rw[List.getElem_set_ne];intro e;exact hq (by rw[e])
   · rw[st_none hr hm2];exact st_none h1 (by rw[h2];exact hm2)
def preB (P Q:List ByteArray):Bool:=decide (Q.take P.length=P)
theorem Zbn {P Q:List ByteArray}:preB P Q=true↔ ∃ s,Q=P++s:=by
 unfold preB;rw[Yao];constructor
 · intro h;exact⟨Q.drop P.length,by conv=>lhs;rw[←Ybk P.length Q,h]⟩
 · rintro⟨s,rfl⟩;simp
theorem Zanm {L:List Line} (hr:Zab L=true) {i:Nat} (hi:i<L.length):
 Zab (cutB L i)=true∧ ∀ q,stB (cutB L i) q=if preB (pa L i) q then -1 else stB L q:=by
 obtain⟨ht,hf⟩:=Zcx hr;have he:=Zbb L i hi
 have hsplit: ∀ q,q∈(Zad L).take i++(Zad L).drop (endB L i)↔q∈Zad L∧ ¬ preB (pa L i) q=true:=fun q=>by
  rw[Ybn];constructor
  · rintro(h|h)
    · obtain⟨k,hk,e⟩:=Ybs h;rw[Yah,Zaf]at hk;rw[Ycs,←Zfu (by omega)]at e
      refine⟨Yff h, ?_⟩;rw[Zbn,←e,Zes hr hi (by omega)];omega
    · obtain⟨k,hk,e⟩:=Ybs h;rw[Yan,Zaf]at hk;rw[Ydr,←Zfu (by omega)]at e
      refine⟨Yfh h, ?_⟩;rw[Zbn,←e,Zes hr hi (by omega)];omega
  · rintro⟨h1,h2⟩;obtain⟨k,hk,rfl⟩:=Zbp.1 h1;rw[Zbn,Zes hr hi hk]at h2;rcases Ybp k i with h|h
    · left
      rw[Yer];exact⟨k,by rw[Yah,Zaf];omega,by rw[Ycs,←Zfu hk]⟩
    · right
      rw[Yer];refine⟨k-endB L i,by rw[Yan,Zaf];omega, ?_⟩
      rw[Ydr,Zfu hk];congr 1;omega
 have hne:=(ht.2 _ (Zbp.2 ⟨i,hi,rfl⟩)).1
 have hres:Zab (cutB L i)=true∧Zad (cutB L i)=(Zad L).take i++(Zad L).drop (endB L i):=by
  refine Zlu (Zhi (Ziw _ hf) (Ziv _ hf)) ⟨?_,fun q hq=> ?_⟩ ?_
  · have:((Zad L).take i++(Zad L).drop (endB L i)).Sublist (Zad L):=by
     conv=>rhs;rw[←Ybk i (Zad L)]
     refine List.Sublist.append (List.Sublist.refl _) ?_;rw[show endB L i=i+(endB L i-i) by omega,←List.drop_drop]
     exact List.drop_sublist _ _
    exact List.Pairwise.sublist this ht.1
  · obtain⟨h1,h2⟩:=(hsplit q).1 hq;obtain⟨h3,h4⟩:=ht.2 q h1;refine⟨h3,h4.imp (fun h=>(hsplit _).2 ⟨h,fun e=>h2 ?_⟩) id⟩
    rw[Zbn]at e⊢;obtain⟨s,e⟩:=e;exact⟨s++ [q.getLastD ⟨#[]⟩],by rw[←Ybc,←e,Zev q h3]⟩
  · unfold cutB;have:=(Zac hr).1;rw[Yae,Yah,Yan];omega
 refine⟨hres.1,fun q=> ?_⟩
 by_cases hq:preB (pa L i) q=true
 · rw[Yam hq];refine st_none hres.1 fun h=> ?_
   rw[hres.2]at h;exact((hsplit q).1 h).2 hq
 · rw[Yab hq];by_cases hm2:q∈Zad L
   · obtain⟨k,l,h1,h2,hk,h3⟩:=Zyc hr hm2;have hk2:=hq;have hpk:pa L k=q:=by unfold pa;rw[Yar,h1];rfl
     rw[←hpk,Zbn,Zes hr hi hk]at hk2;rw[h3];rcases Ybp k i with h|h
     · exact Zuq hres.1 (k:=k) (by rw[hres.2,Zanl _ h (by rw[Zaf];omega)];exact h1) (by unfold cutB;rw[Zanl _ h (by omega)];exact h2)
     · exact Zuq hres.1 (k:=i+(k-endB L i)) (by rw[hres.2,Zagk _ (by omega) (by rw[Zaf];omega)];exact h1) (by unfold cutB;rw[Zagk _ (by omega) (by omega)];exact h2)
   · rw[st_none hr hm2];exact st_none hres.1 fun h=>hm2 ((hsplit q).1 (by rw[←hres.2];exact h)).1
end Lns
namespace Edt
open Go Go.Lib Tre Lns
def Zdp (L:List Line) (P:List ByteArray) (s:ByteArray) (S:List Line):List Line×Int:=
 if(Zas L (P.dropLast++ [s])).isSome then(L,4)else if 200<L.length+S.length then(L,5)
 else if(addB L (P.dropLast++ [s])).2≠0 then(L,(addB L (P.dropLast++ [s])).2)
 else(Go.Proofs.Zq.insMB (markB (addB L (P.dropLast++ [s])).1 ((Zas (addB L (P.dropLast++ [s])).1 (P.dropLast++ [s])).getD 0) (Zck S 0).mark) ((Zas (addB L (P.dropLast++ [s])).1 (P.dropLast++ [s])).getD 0+1) (S.drop 1),0)
theorem Zaea {L S:List Line} {P:List ByteArray} {s:ByteArray} (h:(Zas L (P.dropLast++ [s])).isSome=true):Zdp L P s S=(L,4):=by unfold Zdp;rw[Yam h]
theorem Zakh {L S:List Line} {P:List ByteArray} {s:ByteArray} (h:(Zas L (P.dropLast++ [s])).isSome=false) (h2:200<L.length+S.length):Zdp L P s S=(L,5):=by unfold Zdp;rw[Yab (by rw[h];simp),Yam h2]
theorem Zaoq {L S:List Line} {P:List ByteArray} {s:ByteArray} {M:List Line} {er:Int} (h:(Zas L (P.dropLast++ [s])).isSome=false) (h2: ¬ 200<L.length+S.length) (h3:addB L (P.dropLast++ [s])=(M,er)) (h4:er≠0):Zdp L P s S=(L,er):=by unfold Zdp;rw[Yab (by rw[h];simp),Yab h2,h3,Yam h4]
theorem Zaor {L S:List Line} {P:List ByteArray} {s:ByteArray} {M:List Line} {k:Nat} (h:(Zas L (P.dropLast++ [s])).isSome=false) (h2: ¬ 200<L.length+S.length) (h3:addB L (P.dropLast++ [s])=(M,0)) (h4:Zas M (P.dropLast++ [s])=some k):Zdp L P s S=(Go.Proofs.Zq.insMB (markB M k (Zck S 0).mark) (k+1) (S.drop 1),0):=by
 unfold Zdp;rw[Yab (by rw[h];simp),Yab h2,h3,Yab (by simp),h4];rfl
theorem Zsg {L M:List Line} {T:List ByteArray} (h:addB L T=(M,0)):Zab M=true∧ ∃ k,Zas M T=some k:=by
 unfold addB at h;split at h
 · cases h
 · rename_i h1;split at h
   · cases h
   · rename_i h2;split at h
     · rename_i M' hM;injection h with h _
       subst h;have hs:Zfj T=true:=by
        cases hs:Zfj T with
        |true=>rfl
        |false=>exact absurd (.inr hs) h1
       have hr:Zab L=true:=by
        cases hr:Zab L with
        |true=>rfl
        |false=>exact absurd (.inl hr) h1
       obtain⟨g1,g2⟩:=Zmg hs (by omega) T.length 0 L M' (by omega) hr (.inl rfl) hM
       have h0:0<T.length:=by
        unfold Zfj at hs;simp at hs;exact hs.1
       have hm:T∈Zad M':=(g2 T).2 (.inr ⟨T.length,h0,Yaf _,by rw[Ybw]⟩)
       have:=(Zcz g1).2 hm;exact⟨g1,Option.isSome_iff_exists.1 this⟩
     · cases h
theorem Zakr (L:List Line): ∀ (k:Nat) (hk:k<L.length) (m:Int),lines (L.set k ⟨L[k].depth,L[k].word,m⟩)=(lines L).set (k*3+2) (.int .i64 m):=by
 induction L with
 |nil=>intro k hk;cases hk
 | cons l r ih=>
   intro k hk m;cases k with
   |zero=>rfl
   | succ k=>
     have hk2:k<r.length:=by simpa using hk
     have:=ih k hk2 m;rw[show(k+1)*3+2=(k*3+2)+1+1+1 by omega]
     show l.cells++lines (r.set k ⟨r[k].depth,r[k].word,m⟩)=_;rw[this];rfl
theorem Zaxq {L:List Line} {k:Nat} (hk:k<L.length) (m:Int):markB L k m=L.set k ⟨L[k].depth,L[k].word,m⟩:=by
 unfold markB;rw[Zaq hk,Zbe hk]
theorem Zabu (L:List Line) (k:Nat) (m:Int):(markB L k m).length=L.length:=by unfold markB;rw[Ycq]
end Edt
namespace Go.Proofs.Zq
open Tryz
open Go Go.RowKit Go.Sort Tre Lx Prs Lns Edt
theorem Zbbb (A:Option Addr) (cap:Nat) (L:List Line) (Ap:Option Addr) (cp:Nat) (P:List ByteArray) (w:World) (hR:Rd w 3 A L.length (lines L)) (hcap:L.length≤cap) (hc:cap≤maxLen) (hnil:A=none→cap=0) (hr:Zab L=true) (hP:Rd w 1 Ap P.length (sv P)) (hcp:P.length≤cp) (hc2:cp≤maxLen) (hlP:P.length≤1000000):
 Calls prog 58 #[.slice A L.length cap, .slice Ap P.length cp] w (Zzv L P w):=by
 by_cases h:Zfj P=true∧P.length≤16
 · exact Zbbc A cap L Ap cp P w hR hcap hc hnil hr hP hcp hc2 h.1 h.2
 · refine(Zxf A cap L Ap cp P w hR hcap hc hnil hr hP hcp hc2 hlP).mono fun e w' he=>⟨he,fun h0=>absurd h0 ?_⟩
   unfold addB;rw[hr];cases hs:Zfj P with
   | true=>
     rw[hs]at h;have:16<P.length:=by
      rcases Ybp 16 P.length with h1|h1
      · exact h1
      · exact absurd ⟨rfl,h1⟩ h
     rw[Yab (by simp),Yam this];exact(by decide:(6:Int)≠0)
   |false=>rw[Yam (.inr rfl)];exact(by decide:(1:Int)≠0)
theorem Zabc (A:Option Addr) (cap:Nat) (L:List Line) (Ap:Option Addr) (cp:Nat) (P:List ByteArray) (s:ByteArray) (As:Option Addr) (cs:Nat) (S:List Line) (w:World) (hR:Rd w 3 A L.length (lines L)) (hcap:L.length≤cap) (hc:cap≤maxLen) (hnil:A=none→cap=0) (hr:Zab L=true) (hP:Rd w 1 Ap P.length (sv P)) (hcp:P.length≤cp) (hc2:cp≤maxLen) (h0:P.length≠0) (h16:P.length≤1000000)
 (hS:Rd w 3 As S.length (lines S)) (hS0:0<S.length) (hScap:S.length≤cs) (hSc:cs≤maxLen) (hS2:S.length≤200):
 Calls prog 71 #[.slice A L.length cap, .slice Ap P.length cp, .string s, .slice As S.length cs] w (Zif (Zdp L P s S) w):=by
 have HBe:=Zhd (Zvs Ap cp P s w hP hcp hc2 h0 h16);have HL:Hid (∀ W,Below w.heap.size w W→Lr W (.slice A L.length cap) L):=fun W hb=>⟨A,cap,rfl,hcap,hc,hR.below hb,hnil⟩
 have h200:=Zau hr;have hTl:(P.dropLast++ [s]).length=P.length:=by rw[Yae,Ycb,Ybz];omega
 obtain⟨z,hz⟩: ∃ z,Zdp L P s S=z:=⟨_,rfl⟩;have HZ:=Zhd hz;have HZ1:=Zhd (fun h=>HZ.out.symm.trans (Zaea (L:=L) (P:=P) (s:=s) (S:=S) h))
 have HZ2:=Zhd (fun h h2=>HZ.out.symm.trans (Zakh (L:=L) (P:=P) (s:=s) (S:=S) h h2))
 have HZ3:=Zhd (fun M er h h2 h3 h4=>HZ.out.symm.trans (Zaoq (L:=L) (P:=P) (s:=s) (S:=S) (M:=M) (er:=er) h h2 h3 h4))
 have HZ4:=Zhd (fun M k h h2 h3 h4=>HZ.out.symm.trans (Zaor (L:=L) (P:=P) (s:=s) (S:=S) (M:=M) (k:=k) h h2 h3 h4))
 unfold Zif;rw[hz];clear hz HZ;obtain⟨T,hT⟩: ∃ T,P.dropLast++ [s]=T:=⟨_,rfl⟩;rw[hT]at HBe hTl HZ1 HZ2 HZ3 HZ4;have HF:=Zhd (fun(W:World) (A2:Option Addr) (c2:Nat) (hb:Below w.heap.size w W) (hP2:Rd W 1 A2 P.length (sv T)) (g1:P.length≤c2) (g2:c2≤maxLen)=>Zca A cap L A2 c2 T W (hR.below hb) hcap hc hr (by rw[hTl];exact hP2) (by rw[hTl];exact g1) g2)
 have HA:=Zhd (fun(W:World) (A2:Option Addr) (c2:Nat) (hb:Below w.heap.size w W) (hP2:Rd W 1 A2 P.length (sv T)) (g1:P.length≤c2) (g2:c2≤maxLen)=>Zbbb A cap L A2 c2 T W (hR.below hb) hcap hc hnil hr (by rw[hTl];exact hP2) (by rw[hTl];exact g1) g2 (by rw[hTl];exact h16))
 rw[hTl]at HF HA;have HRS:=Zhd hS;obtain⟨B,O,rfl,hab,hadd,-,-,y2⟩:=hS.line hS0
 have HY:Hid (∀ W,Below w.heap.size w W→W.cell? ⟨B,O+2,none⟩=some (.int .i64 (Zck S 0).mark)):=fun W hbw=>by
  have y3:=(hbw.cell (p:=⟨B,O+0*3+2,none⟩) hab).trans y2;rw[Zcd hS0];simpa using y3
 have hVl:(S.drop 1).length=S.length-1:=by rw[Yan]
 have HVR:Hid (∀ W,Below w.heap.size w W→Rd W 3 (some ⟨B,O+3,none⟩) (S.drop 1).length (lines (S.drop 1))):=fun W hb=>by
  have:=Zub (hS.below hb) (n:=1) (by omega)
  rw[hVl];simpa using this
 have hab:B<w.heap.size:=hab;obtain⟨mk,hmk⟩: ∃ mk,(Zck S 0).mark=mk:=⟨_,rfl⟩;rw[hmk]at HY HZ4;clear hR hP hr hS hT y2 hadd hmk;cases hf:Zas L T with
 | some k0=>
   rw[hf]at HF;have HK:Hid (z=(L,4)):=HZ1.out (by rw[hf];rfl)
   clear HZ1 HZ2 HZ3 HZ4 HA HY HVR hf;go_enter func71,ntmps71;go_wp2_with fail;refine HBe.out.mono ?_;rintro e w2 ⟨⟨v2,rfl,ho2⟩,hb2⟩;obtain⟨A2,c2,rfl,g1,g2,g3⟩:=Zbj ho2;have HF2:=Zhd (HF.out w2 A2 c2 hb2 g3 g1 g2);have HB2:=Zhd hb2;clear ho2 g3 hb2 HF HBe;go_wp2_with fail;refine HF2.out.mono ?_;rintro e w3 ⟨rfl,hb3⟩;have HB3:=Zhd (Zaa HB2.out hb3);go_wp2;go_ret2;rw[HK.out];exact⟨⟨_,rfl,HL.out _ HB3.out⟩,HB3.out⟩
 | none =>
   rw[hf]at HF;have hfi:(Zas L T).isSome=false:=by rw[hf];rfl
   have hwr:IntKind.i64.wrap ((L.length:Int)+(S.length:Int))=(L.length:Int)+(S.length:Int):=by rw[IntKind.wrap_i64];omega
   by_cases hlong:200<L.length+S.length
   · have HK:Hid (z=(L,5)):=HZ2.out hfi hlong;have hl2:(200:Int)<(L.length:Int)+(S.length:Int):=by omega
     clear HZ1 HZ2 HZ3 HZ4 HA HY HVR hf hfi;go_enter func71,ntmps71;go_wp2_with fail;refine HBe.out.mono ?_;rintro e w2 ⟨⟨v2,rfl,ho2⟩,hb2⟩;obtain⟨A2,c2,rfl,g1,g2,g3⟩:=Zbj ho2;have HF2:=Zhd (HF.out w2 A2 c2 hb2 g3 g1 g2);have HB2:=Zhd hb2;clear ho2 g3 hb2 HF HBe;go_wp2_with fail;refine HF2.out.mono ?_;rintro e w3 ⟨rfl,hb3⟩;have HB3:=Zhd (Zaa HB2.out hb3);clear hb3 HF2;go_wp2;go_ret2;rw[HK.out];exact⟨⟨_,rfl,HL.out _ HB3.out⟩,HB3.out⟩
   · have hl2: ¬ (200:Int)<(L.length:Int)+(S.length:Int):=by omega
     obtain⟨a,ha⟩: ∃ a,addB L T=a:=⟨_,rfl⟩;obtain⟨M,er⟩:=a;unfold Zzv Zkm at HA;rw[ha]at HA;simp only at HA;by_cases he:er=0
     · subst he;obtain⟨hrM,k,hk⟩:=Zsg ha;have hkl:=Zcu hk;have HK:Hid (z=(insMB (markB M k mk) (k+1) (S.drop 1),0)):=HZ4.out M k hfi hlong ha hk;have HFM:=Zhd (fun(W:World) (A2:Option Addr) (c2:Nat) (A3:Option Addr) (c3:Nat) (hR3:Rd W 3 A3 M.length (lines M)) (g3:M.length≤c3) (g4:c3≤maxLen) (hP2:Rd W 1 A2 P.length (sv T)) (g1:P.length≤c2) (g2:c2≤maxLen)=>Zca A3 c3 M A2 c2 T W hR3 g3 g4 hrM (by rw[hTl];exact hP2) (by rw[hTl];exact g1) g2)
       rw[hTl,hk,show Zrd (some k)=(k:Int)from rfl]at HFM;have hM200:=Zau hrM
       have HMs:Hid (lines (markB M k mk)=(lines M).set (k*3+2) (.int .i64 mk)):=by
        show _=_;rw[Zaxq hkl];exact Zakr M k hkl mk
       have hMl:=Zabu M k mk;have hml:=Zae M;have hk1:IntKind.i64.wrap ((k:Int)+1)=(k:Int)+1:=by rw[IntKind.wrap_i64];omega
       have q00:((0:Int)!=0)=false:=rfl;have hnS: ¬ (S.length=0):=by omega
       have hklI:(k:Int)<(M.length:Int):=by omega
       have hS1:(1:Int)≤(S.length:Int):=by omega
       have hc1:(1:Int)≤(cs:Int):=by omega
       unfold maxLen at hSc;have hs1:(S.length:Int)-1=((S.length-1:Nat):Int):=by omega
       have hs2:(cs:Int)-1=((cs-1:Nat):Int):=by omega
       clear HZ1 HZ2 HZ3 HZ4 hf hfi ha hk hrM;go_enter func71,ntmps71;go_wp2_with fail;refine HBe.out.mono ?_;rintro e w2 ⟨⟨v2,rfl,ho2⟩,hb2⟩;obtain⟨A2,c2,rfl,g1,g2,g3⟩:=Zbj ho2;have HF2:=Zhd (HF.out w2 A2 c2 hb2 g3 g1 g2);have HP2:=Zhd g3;have HB2:=Zhd hb2;clear ho2 g3 hb2 HF HBe;go_wp2_with fail;refine HF2.out.mono ?_;rintro e w3 ⟨rfl,hb3⟩;have HB3:=Zhd (Zaa HB2.out hb3);have HP3:=Zhd (HP2.out.below hb3);have HA3:=Zhd (HA.out w3 A2 c2 HB3.out HP3.out g1 g2);clear hb3 HF2 HA HP2;go_wp2_with fail;refine HA3.out.mono ?_;rintro e w4 ⟨⟨A4,c4,rfl,g3,g4,-,-,hb4⟩,hown⟩;obtain⟨v,e',ho4⟩:=hown trivial;obtain rfl:v= .slice A4 M.length c4:=by
        simp at e';exact e'.symm
       obtain⟨m,hm⟩: ∃ m,M.length=m+1:=⟨M.length-1,by omega⟩
       have ho4':=ho4;rw[hm]at ho4';obtain⟨q,cc,e4⟩:=Zda ho4';obtain⟨rfl,rfl⟩:A4=some ⟨q,0,none⟩∧c4=cc:=by
        injection e4 with e1 _ e3
        exact⟨e1,e3⟩
       have HB4:=Zhd (Zaa HB3.out hb4);have HB34:=Zhd hb4;have HFM4:=Zhd (HFM.out w4 A2 c2 (some ⟨q,0,none⟩) c4 (Zqs ho4).1 g3 g4 (HP3.out.below hb4) g1 g2);have HO4:=Zhd ho4;clear hown e' e4 ho4' ho4 hb4 HA3 HFM hm;go_wp2_with fail;refine HFM4.out.mono ?_;rintro e w5 ⟨rfl,hb5⟩;have HB5:=Zhd (Zaa HB4.out hb5);have HB35:=Zhd (Zaa HB34.out hb5);have HO5:=Zhd (Zai HO4.out hb5)
       have x2:w5.cell? ⟨q,k*3+2,none⟩=some ((lines M)[k*3+2]'(by omega)):=by
        rw[HO5.out.cellAt (k*3+2) (by omega)]
        exact Yaj _
       have hfz:w5.frozen? ⟨q,k*3+2,none⟩=false:=HO5.out.frozenAt _;have y2:=HY.out w5 HB5.out
       have HO6:Hid ((w5.setCell ⟨q,k*3+2,none⟩ (.int .i64 mk)).ownsRow w3.heap.size 62 3 (.slice (some ⟨q,0,none⟩) (markB M k mk).length c4) (markB M k mk).length (lines (markB M k mk))):=by
        show World.ownsRow _ _ _ _ _ _ _;rw[hMl,HMs.out];exact(HO5.out.stored (k*3+2) (.int .i64 mk)).1
       have hqb:w3.heap.size≤q:=(HO5.out.lt q rfl).1;have HB36:=Zhd (HB35.out.setCell (p:=⟨q,k*3+2,none⟩) hqb (.int .i64 mk));have HB6:=Zhd (HB5.out.setCell (p:=⟨q,k*3+2,none⟩) (Yat HB3.out.size hqb) (.int .i64 mk));have HV6:=Zhd (HVR.out _ HB6.out);have hqB:q≠B:=fun e=>by have:=HB3.out.size;omega
       clear hb5 HFM4 HO4 HO5 HB4 HB34 HB35 HB5 HVR HY;obtain⟨w6,hw6⟩: ∃ w6,w5.setCell ⟨q,k*3+2,none⟩ (.int .i64 mk)=w6:=⟨_,rfl⟩;rw[hw6]at HO6 HB36 HB6 HV6;by_cases hone:S.length=1
       · have hV0:S.drop 1= []:=Ybe (by omega)
         have HK2:Hid (z=(markB M k mk,0)):=by
          show _=_;rw[HK.out,hV0];unfold insMB;rw[Ybg,Ybk]
         have HIn:=Zhd (fun Av vc=>Zaeg q M.length c4 (k+1) Av vc w6 (by omega) g3 g4)
         have HRes:Hid (Lr w6 (.slice (some ⟨q,0,none⟩) M.length c4) (markB M k mk)):=by
          have:=Lr.own HO6.out
          rwa [hMl]at this
         clear HO6 HV6 HK hV0 HMs;by_cases hcs:cs=1
         · subst hcs;rw[hone];go_wp2_with (go_at_call 94;refine(HIn.out _ _).mono ?_;rintro e w7 ⟨rfl,rfl⟩);go_ret2;rw[HK2.out];exact⟨⟨_,rfl,HRes.out⟩,HB6.out⟩
         · have hcs2: ¬ (1=cs):=fun e=>hcs e.symm
           rw[hone];go_wp2_with (go_at_call 94;refine(HIn.out _ _).mono ?_;rintro e w7 ⟨rfl,rfl⟩);go_ret2;rw[HK2.out];exact⟨⟨_,rfl,HRes.out⟩,HB6.out⟩
       · have hcs: ¬ (cs=1):=by omega
         have hcs2: ¬ (1=cs):=by omega
         have HIn:=Zhd (Zaee w3 w6 _ (k+1) B (O+3) (cs-1) (markB M k mk) (S.drop 1) HB36.out HO6.out (by omega) (by omega) (by omega) (by omega) HV6.out (fun e=>hqB (by injection e)))
         rw[hMl,hVl]at HIn;clear HO6 HV6 HMs;go_wp2_with (go_at_call 94;refine HIn.out.mono ?_;rintro e w7 ⟨⟨v7,rfl,ho7⟩,hb7⟩);have HB7:=Zhd (Zaa HB3.out hb7);have HR7:=Zhd (Lr.own ho7);clear ho7 hb7;go_wp2;go_ret2;rw[HK.out];exact⟨⟨_,rfl,HR7.out⟩,HB7.out⟩
     · have HK:Hid (z=(L,er)):=HZ3.out M er hfi hlong ha he;have qe:(er !=0)=true:=by rw[bne_iff_ne];exact he
       clear HZ1 HZ2 HZ3 HZ4 HY HVR hf hfi ha;go_enter func71,ntmps71;go_wp2_with fail;refine HBe.out.mono ?_;rintro e w2 ⟨⟨v2,rfl,ho2⟩,hb2⟩;obtain⟨A2,c2,rfl,g1,g2,g3⟩:=Zbj ho2;have HF2:=Zhd (HF.out w2 A2 c2 hb2 g3 g1 g2);have HP2:=Zhd g3;have HB2:=Zhd hb2;clear ho2 g3 hb2 HF HBe;go_wp2_with fail;refine HF2.out.mono ?_;rintro e w3 ⟨rfl,hb3⟩;have HB3:=Zhd (Zaa HB2.out hb3);have HA3:=Zhd (HA.out w3 A2 c2 HB3.out (HP2.out.below hb3) g1 g2);clear hb3 HF2 HA HP2;go_wp2_with fail;refine HA3.out.mono ?_;rintro e w4 ⟨⟨A4,c4,rfl,g3,g4,-,-,hb4⟩,-⟩;have HB4:=Zhd (Zaa HB3.out hb4);clear hb4 HA3;go_wp2;go_ret2;rw[HK.out];exact⟨⟨_,rfl,HL.out _ HB4.out⟩,HB4.out⟩
end Go.Proofs.Zq
namespace Edt
open Go Go.Lib Tre Lns
def Zcg (L:List Line) (k:Nat):List Line:=(L.drop k).take (endB L k-k)
def Zkv (L:List Line) (P:List ByteArray) (s:ByteArray):List Line×Int:=
 if 40<s.size then(L,1)else if P.length=0 then(L,1)else match Zas L P with
  |none=>(L,3)
  |some k=>if Zqv L P then(L,12)else Zdp L P s (Zcg L k)
def renB (L:List Line) (P:List ByteArray) (s:ByteArray):List Line×Int:=
 if 40<s.size then(L,1)else if P.length=0 then(L,1)else match Zas L P with
  |none=>(L,3)
  | some k=>if Zuf L P k (endB L k)then(L,12)else if(Zas L (P.dropLast++ [s])).isSome then(L,4)
    else if(Zdp (L.take k++L.drop (endB L k)) P s (Zcg L k)).2≠0 then(L,(Zdp (L.take k++L.drop (endB L k)) P s (Zcg L k)).2)
    else Zdp (L.take k++L.drop (endB L k)) P s (Zcg L k)
theorem Zjf {L:List Line} {k:Nat} (hk:k<L.length):(Zcg L k).length=endB L k-k:=by
 have:=Zbb L k hk;unfold Zcg;rw[Yah,Yan];omega
theorem Zbge {L:List Line} {P:List ByteArray} {s:ByteArray} (h:40<s.size):Zkv L P s=(L,1):=by unfold Zkv;rw[Yam h]
theorem Zawa {L:List Line} {P:List ByteArray} {s:ByteArray} (h: ¬ 40<s.size) (h2:P.length=0):Zkv L P s=(L,1):=by unfold Zkv;rw[Yab h,Yam h2]
theorem Zanj {L:List Line} {P:List ByteArray} {s:ByteArray} (h: ¬ 40<s.size) (h2:P.length≠0) (hf:Zas L P=none):Zkv L P s=(L,3):=by unfold Zkv;rw[Yab h,Yab h2,hf]
theorem Zank {L:List Line} {P:List ByteArray} {s:ByteArray} {k:Nat} (h: ¬ 40<s.size) (h2:P.length≠0) (hf:Zas L P=some k):Zkv L P s=if Zqv L P then(L,12)else Zdp L P s (Zcg L k):=by unfold Zkv;rw[Yab h,Yab h2,hf]
theorem Zbhx {L:List Line} {P:List ByteArray} {s:ByteArray} (h:40<s.size):renB L P s=(L,1):=by unfold renB;rw[Yam h]
theorem Zbdm {L:List Line} {P:List ByteArray} {s:ByteArray} (h: ¬ 40<s.size) (h2:P.length=0):renB L P s=(L,1):=by unfold renB;rw[Yab h,Yam h2]
theorem Zayx {L:List Line} {P:List ByteArray} {s:ByteArray} (h: ¬ 40<s.size) (h2:P.length≠0) (hf:Zas L P=none):renB L P s=(L,3):=by unfold renB;rw[Yab h,Yab h2,hf]
theorem Zayy {L:List Line} {P:List ByteArray} {s:ByteArray} {k:Nat} (h: ¬ 40<s.size) (h2:P.length≠0) (hf:Zas L P=some k) (hs:Zuf L P k (endB L k)=true):renB L P s=(L,12):=by unfold renB;rw[Yab h,Yab h2,hf];simp only;rw[Yam hs]
theorem Zars {L:List Line} {P:List ByteArray} {s:ByteArray} {k:Nat} (h: ¬ 40<s.size) (h2:P.length≠0) (hf:Zas L P=some k) (hs:Zuf L P k (endB L k)=false) (ht:(Zas L (P.dropLast++ [s])).isSome=true):renB L P s=(L,4):=by unfold renB;rw[Yab h,Yab h2,hf];simp only;rw[Yab (by rw[hs];simp),Yam ht]
theorem Zbgz {L:List Line} {P:List ByteArray} {s:ByteArray} {k:Nat} (h: ¬ 40<s.size) (h2:P.length≠0) (hf:Zas L P=some k) (hs:Zuf L P k (endB L k)=false) (ht:(Zas L (P.dropLast++ [s])).isSome=false) {M:List Line} {er:Int} (hg:Zdp (L.take k++L.drop (endB L k)) P s (Zcg L k)=(M,er)):renB L P s=if er≠0 then(L,er)else(M,er):=by
 unfold renB;rw[Yab h,Yab h2,hf];simp only;rw[Yab (by rw[hs];simp),Yab (by rw[ht];simp),hg]
end Edt
namespace Go.Proofs.Zq
open Tryz
open Go Go.RowKit Go.Sort Tre Lx Prs Lns Edt
theorem Zavz (A:Option Addr) (cap:Nat) (L:List Line) (Ap:Option Addr) (cp:Nat) (P:List ByteArray) (s:ByteArray) (w:World) (hR:Rd w 3 A L.length (lines L)) (hcap:L.length≤cap) (hc:cap≤maxLen) (hnil:A=none→cap=0) (hr:Zab L=true) (hP:Rd w 1 Ap P.length (sv P)) (hcp:P.length≤cp) (hc2:cp≤maxLen) (h16:P.length≤1000000):
 Calls prog 39 #[.slice A L.length cap, .slice Ap P.length cp, .string s] w (Zif (Zkv L P s) w):=by
 have HPa:=Zhd (Zrx A cap L Ap cp P w hR hcap hc hr hP hcp hc2);have HL:Hid (∀ W,Below w.heap.size w W→Lr W (.slice A L.length cap) L):=fun W hb=>⟨A,cap,rfl,hcap,hc,hR.below hb,hnil⟩
 have h200:=Zau hr;obtain⟨z,hz⟩: ∃ z,Zkv L P s=z:=⟨_,rfl⟩;have HZ:=Zhd hz;unfold Zif;rw[hz];clear hz;by_cases hw:40<s.size
 · have HK:Hid (z=(L,1)):=by show _=_;rw[←HZ.out,Zbge hw]
   have hwI:(40:Int)<(s.size:Int):=by omega
   clear HZ hR hP hr HPa;go_enter func39,ntmps39;go_wp2;go_ret2;rw[HK.out];exact⟨⟨_,rfl,HL.out _ (Yag _ _)⟩,Yag _ _⟩
 · have hwI: ¬ (40:Int)<(s.size:Int):=by omega
   by_cases h0:P.length=0
   · have HK:Hid (z=(L,1)):=by show _=_;rw[←HZ.out,Zawa hw h0]
     rw[Zpe h0]at HPa;clear HZ hR hP hr h0;go_enter func39,ntmps39;go_wp2_with fail;refine HPa.out.mono ?_;rintro e w2 ⟨rfl,hb2⟩;go_wp2;go_ret2;rw[HK.out];exact⟨⟨_,rfl,HL.out _ hb2⟩,hb2⟩
   · cases hf:Zas L P with
     | none=>
       have HK:Hid (z=(L,3)):=by show _=_;rw[←HZ.out,Zanj hw h0 hf]
       rw[Zlx h0 hf]at HPa;clear HZ hR hP hr h0 hf;go_enter func39,ntmps39;go_wp2_with fail;refine HPa.out.mono ?_;rintro e w2 ⟨rfl,hb2⟩;go_wp2;go_ret2;rw[HK.out];exact⟨⟨_,rfl,HL.out _ hb2⟩,hb2⟩
     | some k=>
       have hk:=Zcu hf;have he:=Zbb L k hk;rw[Zly h0 hf]at HPa;have HAb:=Zhd (fun(W:World) (hbw:Below w.heap.size w W)=>Zzx A cap L Ap cp P W (hR.below hbw) hcap hc hr (hP.below hbw) hcp hc2 h0)
       have hZ2:=HZ.out.symm.trans (Zank hw h0 hf);obtain⟨B,O,rfl,hab,hadd,-,-,-⟩:=hR.line hk;have hpl:=Zjf hk
       have HG:Hid (∀ W,Below w.heap.size w W→Calls prog 71 #[.slice (some ⟨B,O,none⟩) L.length cap, .slice Ap P.length cp, .string s, .slice (some ⟨B,O+k*3,none⟩) (endB L k-k) (cap-k)] W (Zif (Zdp L P s (Zcg L k)) W)):=fun W hb=>by
        have h1:Rd w 3 (some ⟨B,O+k*3,none⟩) (endB L k-k) (lines (Zcg L k)):=Zzb (by rw[Yan];exact Zub hR (Yem hk)) (by rw[Yan];omega)
        have h:=Zabc (some ⟨B,O,none⟩) cap L Ap cp P s (some ⟨B,O+k*3,none⟩) (cap-k) (Zcg L k) W (hR.below hb) hcap hc hnil hr (hP.below hb) hcp hc2 h0 h16 (by rw[hpl];exact h1.below hb) (by omega) (by omega) (by omega) (by omega)
        rw[hpl]at h;exact h
       unfold Zif at HG;generalize endB L k=E at *;generalize Zdp L P s (Zcg L k)=G at *;unfold maxLen at hc;have hsub:(E:Int)-(k:Int)=((E-k:Nat):Int):=by omega
       have hsub2:(cap:Int)-(k:Int)=((cap-k:Nat):Int):=by omega
       have hnE:(k:Int)≤(E:Int):=by omega
       have hEc:(E:Int)≤(cap:Int):=by omega
       have hnc: ¬ (cap=k):=by omega
       have hnc2: ¬ (k=cap):=by omega
       cases hab2:Zqv L P with
       | true=>
         rw[hab2]at HAb hZ2;have HK:Hid (z=(L,12)):=hZ2;clear hZ2 HZ hR hP hr h0 hf hk HG hab2 hadd;go_enter func39,ntmps39;go_wp2_with fail;refine HPa.out.mono ?_;rintro e w2 ⟨rfl,hb2⟩;have HA2:=Zhd (HAb.out w2 hb2);have HB2:=Zhd hb2;clear hb2;go_wp2_with fail;refine HA2.out.mono ?_;rintro e w3 ⟨rfl,hb3⟩;have HB3:=Zhd (Zaa HB2.out hb3);clear hb3;go_wp2;go_ret2;rw[HK.out];exact⟨⟨_,rfl,HL.out _ HB3.out⟩,HB3.out⟩
       | false=>
         rw[hab2]at HAb hZ2;have HK:Hid (z=G):=hZ2;clear hZ2 HZ hR hP hr h0 hf hk hab2 hadd;go_enter func39,ntmps39;go_wp2_with fail;refine HPa.out.mono ?_;rintro e w2 ⟨rfl,hb2⟩;have HA2:=Zhd (HAb.out w2 hb2);have HB2:=Zhd hb2;clear hb2;go_wp2_with fail;refine HA2.out.mono ?_;rintro e w3 ⟨rfl,hb3⟩;have HB3:=Zhd (Zaa HB2.out hb3);have HG3:=Zhd (HG.out w3 HB3.out);clear hb3 HG;go_wp2_with fail;refine HG3.out.mono ?_;rintro e w4 ⟨⟨v4,rfl,hv4⟩,hb4⟩;have HB4:=Zhd (Zaa HB3.out hb4);have HV4:=Zhd hv4;clear hb4 hv4;go_wp2;go_ret2;rw[HK.out];exact⟨⟨_,rfl,HV4.out⟩,HB4.out⟩
end Go.Proofs.Zq
