import Derived.Lib.Repeat
import Derived.Lib.SlTrimSet
import Derived.Laws.FloatArith
import Derived.Test.YtkbojechhmmkcaaGreatDoorK10
set_option linter.unusedVariables false
set_option linter.unusedSimpArgs false
set_option maxHeartbeats 4000000
namespace Tre
open Go
theorem Zac {L:List Line} (h:Zab L=true):L.length≤200∧Zdm [] L=true∧Zkj [] L=true:=by
 rw[Zue]at h;simpa using h
theorem Zki (L:List Line):Zad L=(List.range L.length).map (pa L):=by
 apply List.ext_getElem
 · rw[Zaf];simp
 · intro i h1 h2;rw[Ycz,List.getElem_range,Zfu (by rwa [Zaf]at h1)]
theorem Zxv {L:List Line} {D:Int}: ∀ (n k:Nat),n=L.length-k→k≤L.length→(∀ m,k≤m→m<Zcp L D k→D<Zaj L m)∧(Zcp L D k<L.length→Zaj L (Zcp L D k)≤D)
 | 0,k,h,hk=>by
   obtain rfl:k=L.length:=by omega
   rw[Zno];exact⟨fun m a b=>by omega,fun h=>by omega⟩
 | n +1,k,h,hk=>by
   have hlt:k<L.length:=by omega
   by_cases hd:D<L[k].depth
   · rw[Zlg hlt hd];obtain⟨a,b⟩:=Zxv (L:=L) (D:=D) n (k+1) (by omega) (by omega)
     refine⟨fun m x y=> ?_,b⟩
     rcases Nat.eq_or_lt_of_le x with rfl|x
     · rw[Zaq hlt];exact hd
     · exact a m x y
   · rw[Zlh hlt hd];exact⟨fun m x y=>by omega,fun _=>by rw[Zaq hlt];omega⟩
theorem Zra {L:List Line} {i k:Nat} (hi:i<L.length) (h1:i<k) (h2:k<endB L i):Zaj L i<Zaj L k:=
 (Zxv (L:=L) (D:=Zaj L i) _ (i+1) rfl (by omega)).1 k h1 h2
theorem Zli {L:List Line} {i:Nat} (hi:i<L.length) (h:endB L i<L.length):Zaj L (endB L i)≤Zaj L i:=
 (Zxv (L:=L) (D:=Zaj L i) _ (i+1) rfl (by omega)).2 h
theorem Zaat {f:Nat→Bool} {n:Nat}: ∀ {m:Nat},n≤m→(∀ k,n≤k→k<m→f k=false)→(List.range m).filter f=(List.range n).filter f:=by
 intro m
 induction m with
 |zero=>intro h _;rw[show n=0 by omega]
 | succ m ih=>
   intro h hf;by_cases e:n=m+1
   · rw[e]
   · rw[Ydg,Yco,ih (by omega) (fun k a b=>hf k a (by omega))]
     simp[hf m (by omega) (by omega)]
def isKid (p q:List ByteArray):Bool:=decide (q.length=p.length+1)&&decide (q.take p.length=p)
def kw (S:List (List ByteArray)) (p:List ByteArray):List ByteArray:=(S.filter (isKid p)).map fun q=>q.getLastD ⟨#[]⟩
theorem Ziy {p q:List ByteArray}:isKid p q=true↔ ∃ w,q=p++ [w]:=by
 unfold isKid;simp only[Yaq,Yao];constructor
 · rintro⟨h1,h2⟩;have h3:(q.drop p.length).length=1:=by rw[Yan];omega
   obtain⟨w,hw⟩:=Yex.1 h3
   exact ⟨w, by conv=>lhs;rw[←Ybk p.length q]
                rw[h2,hw]⟩
 · rintro⟨w,rfl⟩;simp
section
variable {L:List Line} (hr:Zab L=true)
include hr
theorem Znd {i k:Nat} (h:i<k) (hk:k<L.length):pLt (pa L i) (pa L k):=by
 obtain⟨-,hd,hs⟩:=Zac hr;have:=(Zlz hd hs).2;rw[Zfu (by omega:i<L.length),Zfu hk]
 exact Ydx.1 this i k _ _ h
theorem Zwj {i k:Nat} (hi:i<L.length) (hk:k<L.length) (e:pa L i=pa L k):i=k:=by
 rcases Nat.lt_trichotomy i k with h|h|h
 · have:=Znd hr h hk;rw[e]at this;exact absurd this (Zby _)
 · exact h
 · have:=Znd hr h hi;rw[e]at this;exact absurd this (Zby _)
theorem Zes {i k:Nat} (hi:i<L.length) (hk:k<L.length):(∃ s,pa L k=pa L i++s)↔i≤k∧k<endB L i:=by
 obtain⟨-,hd,-⟩:=Zac hr;have hb:=Zbb L i hi;have hl:=Zbz hd hi;have hn:=Zcf hd hi;constructor
 · rintro⟨s,hs⟩;have h1:i≤k:=by
    rcases Ybp k i with h|h
    · exfalso;have hu:=Znd hr h hi;rw[hs]at hu;cases s with
      |nil=>rw[Ybg]at hu;exact Zby _ hu
      |cons x s=>exact Zby _ (Zcl hu (Zms _ _ _))
    · exact h
   refine⟨h1, ?_⟩;rcases Ybp k (endB L i)with h|h
   · exact h
   · exfalso;have he:endB L i<L.length:=by omega
     have ho:=Zli hi he;have hl2:=Zbz hd he;have hn2:=Zcf hd he;have hu:=Znd hr (by omega:i<endB L i) he
     obtain⟨t,ht⟩:=Zamw hu (t:=s) (by
      rw[←hs];rcases Nat.eq_or_lt_of_le h with h|h
      · exact .inr (by rw[h])
      · exact .inl (Znd hr h hk))
     have hlen:(pa L (endB L i)).length≤(pa L i).length:=by omega
     rw[ht,Yae]at hlen;have:t= []:=Yap (by omega)
     rw[this,Ybg]at ht;rw[ht]at hu;exact Zby _ hu
 · rintro⟨h1,h2⟩
   have hk2:=Ztw hd (D:=(pa L i).length) h1 hk (fun m a b=>by
    have:=Zra hi a (by omega)
    rw[hl];omega)
   rw[Ybw]at hk2;exact⟨(pa L k).drop (pa L i).length,by conv=>lhs;rw[←Ybk (pa L i).length (pa L k),hk2]⟩
theorem Ztl {i k:Nat} (hi:i<L.length) (hk:k<L.length):isKid (pa L i) (pa L k)=true↔i+1≤k∧k<endB L i∧Zaj L k=Zaj L i+1:=by
 obtain⟨-,hd,-⟩:=Zac hr;have hl:=Zbz hd hi;have hn:=Zcf hd hi;have hl2:=Zbz hd hk;have hn2:=Zcf hd hk;rw[Ziy];constructor
 · rintro⟨w,hw⟩;obtain⟨a,b⟩:=(Zes hr hi hk).1 ⟨_,hw⟩;have hlen:(pa L k).length=(pa L i).length+1:=by rw[hw];simp
   refine⟨?_,b,by omega⟩
   rcases Nat.eq_or_lt_of_le a with rfl|h
   · omega
   · exact h
 · rintro⟨a,b,c⟩;obtain⟨s,hs⟩:=(Zes hr hi hk).2 ⟨by omega,b⟩
   have hlen:(pa L k).length=(pa L i).length+s.length:=by rw[hs];simp
   obtain⟨w,rfl⟩:=Yex.1 (by omega:s.length=1)
   exact⟨w,hs⟩
theorem Zabo {i:Nat} (hi:i<L.length):kidsB L i=(List.range L.length).filter fun k=>isKid (pa L i) (pa L k):=by
 have hb:=Zbb L i hi
 rw[Zaat (n:=endB L i) hb.2 (fun k a b=>by
  rw[Yda];intro h;have:=(Ztl hr hi b).1 h;omega)]
 unfold kidsB kidsTo;apply List.filter_congr;intro k hk;have hk':k<endB L i:=Ycm.1 hk;rw[Yby,Ztl hr hi (by omega)]
 simp only[Yaq,Yao];exact⟨fun h=>⟨h.1,hk',h.2⟩,fun h=>⟨h.1,h.2.2⟩⟩
theorem Zel {k:Nat} (hk:k<L.length):(pa L k).getLastD ⟨#[]⟩=Zbd L k:=by
 obtain⟨-,hd,-⟩:=Zac hr;rcases Ybj k with rfl|hp
 · rw[Ztx hd hk];rfl
 · have:=Zkg (L:=L) (i:=k-1) (by omega)
   rw[show k-1+1=k by omega]at this
   rw[this];simp
theorem Zwf {i:Nat} (hi:i<L.length):(kidsB L i).map (Zbd L)=kw (Zad L) (pa L i):=by
 rw[Zabo hr hi];unfold kw;rw[Zki,List.filter_map,Yes];apply Yeg;intro k hk;have hk':k<L.length:=Ycm.1 (Ycu.1 hk).1;exact(Zel hr hk').symm
theorem Zhh {P:List ByteArray}: ∀ (n i p:Nat),n=L.length-i→i≤L.length→p<P.length→(∀ k,k<i→pa L k≠P.take (p+1))→
 (p=0∨ ∃ j,j<i∧pa L j=P.take p∧ ∀ m,j<m→m<i→(p:Int)≤Zaj L m)→
 (∀ k,Zfm P p i (L.drop i)=some k→k<L.length∧pa L k=P)∧(Zfm P p i (L.drop i)=none→ ∀ k,k<L.length→pa L k≠P)
 | 0,i,p,hn,hi,hp,ha,hb=>by
   obtain⟨-,hd,-⟩:=Zac hr;obtain rfl:i=L.length:=by omega
   rw[Ydo];unfold Zfm;refine⟨fun k h=>(by cases h),fun _ k hk e=> ?_⟩
   obtain⟨m,hm,hm2⟩:=Zqi hd hk (q:=p+1) (by omega) (by rw[e];omega)
   exact ha m (by omega) (by rw[hm2,e])
 | n + 1, i, p,hn,hi,hp,ha,hb=>by
   obtain⟨-,hd,-⟩:=Zac hr;have hlt:i<L.length:=by omega
   have hl:=Zbz hd hlt;have hnn:=Zcf hd hlt;rw[Yaz hlt];unfold Zfm;rw[←Zaq hlt,←Zbe hlt];have htake:(P.take (p+1)).length=p+1:=by rw[Yah];omega
   by_cases h1:Zaj L i<(p:Int)
   · rw[Yam h1];refine⟨fun k h=>(by cases h),fun _ k hk e=> ?_⟩
     obtain⟨m,hm,hm2⟩:=Zqi hd hk (q:=p+1) (by omega) (by rw[e];omega)
     have hmi: ¬ m<i:=fun h=>ha m h (by rw[hm2,e])
     rcases hb with rfl|⟨j,hj,hj2,hj3⟩
     · omega
     · obtain⟨-,hke⟩:=(Zes hr (i:=j) (k:=k) (by omega) hk).1 ⟨P.drop p,by rw[e,hj2,Ybk]⟩
       have hlj:=Zbz hd (i:=j) (by omega)
       have hnj:=Zcf hd (i:=j) (by omega)
       have hpl:(P.take p).length=p:=by rw[Yah];omega
       rw[hj2,hpl]at hlj;have:=Zra (L:=L) (i:=j) (k:=i) (by omega) hj (by omega)
       omega
   · rw [Yab h1]
     have hkeep:p=0∨ ∃ j,j<i+1∧pa L j=P.take p∧ ∀ m,j<m→m<i+1→(p:Int)≤Zaj L m:=by
      rcases hb with h|⟨j,a,b,c⟩
      · exact .inl h
      · refine .inr ⟨j,by omega,b,fun m x y=> ?_⟩
        rcases Ybp m i with h|h
        · exact c m x h
        · rw[show m=i by omega];omega
     by_cases h2:(p:Int)<Zaj L i
     · rw[Yam h2];refine Zhh n (i+1) p (by clear ha hb hkeep;omega) (by clear ha hb hkeep;omega) hp (fun k hk=> ?_) hkeep
       rcases Ybp k i with h|h
       · exact ha k h
       · rw[show k=i by omega]
         intro e;rw[e,htake]at hl;omega
     · rw [Yab h2];have hdp:Zaj L i=(p:Int):=by omega
       have hpa:pa L i=P.take p++ [Zbd L i]:=by
        by_cases h0:p=0
        · subst h0;rcases Ybj i with rfl|hpos
          · rw[Ztx hd hlt];rfl
          · have:=Zkg (L:=L) (i:=i-1) (by omega)
            rw[show i-1+1=i by omega,hdp]at this
            rw[this];rfl
        · obtain⟨j,a,b,c⟩:=hb.resolve_left h0;have:=Zkg (L:=L) (i:=i-1) (by omega)
          rw[show i-1+1=i by omega,hdp,Ybr]at this
          rw[this,Ztw hd (D:=p) (i:=j) (k:=i-1) (by omega) (by omega) (fun m x y=>c m x (by omega)),b,Ycl,Nat.min_self]
       have hgetD:P.getD p ⟨#[]⟩=P[p]:=by rw[Yar,Yaj hp];rfl
       rw[hgetD];by_cases h3:Zbd L i=P[p]
       · rw [Yab (by rw[h3];simp)]
         have hpa2:pa L i=P.take (p+1):=by rw[hpa,h3,Yax hp]
         by_cases h4:p+1=P.length
         · rw[Yam h4];have hP:pa L i=P:=by rw[hpa2,h4,Ybw]
           exact⟨fun k h=>(by cases h;exact⟨hlt,hP⟩),fun h=>(by cases h)⟩
         · rw[Yab h4];refine Zhh n (i+1) (p+1) (by clear ha hb hkeep;omega) (by omega) (by omega) (fun k hk e=> ?_) (.inr ⟨i,by omega,hpa2,fun m x y=>by omega⟩)
           rcases Ybp k i with h|h
           · obtain⟨m,hm,hm2⟩:=Zqi hd (i:=k) (by omega) (q:=p+1) (by omega) (by rw[e,Yah];omega)
             refine ha m (by omega) ?_
             rw[hm2,e,Ycl,Yba (by omega)]
           · rw[show k=i by omega]at e
             rw[e,Yah]at hl;omega
       · have hb2:((Zbd L i).toList==P[p].toList)=false:=by
          rw[Yak];intro e;exact h3 (Zlc e)
         rw[Yam hb2];refine Zhh n (i+1) p (by clear ha hb hkeep;omega) (by clear ha hb hkeep;omega) hp (fun k hk=> ?_) hkeep
         rcases Ybp k i with h|h
         · exact ha k h
         · rw[show k=i by omega,hpa,Yax hp]
           intro e;have:=List.append_cancel_left e;simp only[List.cons.injEq,and_true]at this;exact h3 this
theorem Zdn {P:List ByteArray} {k:Nat} (h:Zas L P=some k):k<L.length∧pa L k=P:=by
 unfold Zas at h;split at h
 · cases h
 · exact(Zhh hr (P:=P) _ 0 0 rfl (Yas _) (by omega) (fun k hk=>by omega) (.inl rfl)).1 k (by rw[Yeu];exact h)
theorem Zaka {P:List ByteArray} (h:Zas L P=none) {k:Nat} (hk:k<L.length):pa L k≠P:=by
 obtain⟨-,hd,-⟩:=Zac hr;unfold Zas at h;split at h
 · intro e;have:=Zbz hd hk;have:=Zcf hd hk;rw[e]at *;omega
 · exact(Zhh hr (P:=P) _ 0 0 rfl (Yas _) (by omega) (fun k hk=>by omega) (.inl rfl)).2 (by rw[Yeu];exact h) k hk
theorem Zrq {k:Nat} (hk:k<L.length):Zas L (pa L k)=some k:=by
 cases h:Zas L (pa L k)with
 |none=>exact absurd rfl (Zaka hr h hk)
 | some j=>
   obtain⟨hj,e⟩:=Zdn hr h;rw[Zwj hr hj hk e]
theorem Zcz {P:List ByteArray}:(Zas L P).isSome=true↔P∈Zad L:=by
 rw[Zki,Yct];constructor
 · intro h;obtain⟨k,hk⟩:=Option.isSome_iff_exists.1 h;obtain⟨a,b⟩:=Zdn hr hk;exact⟨k,by simpa using a,b⟩
 · rintro⟨k,hk,rfl⟩;rw[Zrq hr (by simpa using hk)];rfl
theorem Zwq {P:List ByteArray} {k:Nat} (hk:k<L.length):Zwp L P k=true↔pa L k=P:=by
 obtain⟨-,hd,-⟩:=Zac hr;unfold Zwp;rw[Zkh hd hk];simp only[Yaq,Yao];refine⟨fun h=>h.2,fun h=>⟨?_,h⟩⟩
 have:=Zbz hd hk;have:=Zcf hd hk;rw[h]at *;omega
theorem Zrj {P:List ByteArray}: ∀ (n i:Nat),n=L.length-i→i≤L.length→(∀ k,k<i→pa L k≠P)→Zcs L P i n=match Zas L P with|some k=>(k:Int)|none=> -1
 | 0,i,hn,hi,ha=>by
   unfold Zcs;cases h:Zas L P with
   |none=>rfl
   | some k=>
     obtain⟨hk,e⟩:=Zdn hr h;exact absurd e (ha k (by omega))
 | n +1,i,hn,hi,ha=>by
   unfold Zcs;by_cases h:pa L i=P
   · rw[Yam ((Zwq hr (by omega)).2 h),←h,Zrq hr (by omega)]
   · rw[Yab (fun h2=>h ((Zwq hr (by omega)).1 h2))]
     refine Zrj n (i+1) (by omega) (by omega) (fun k hk=> ?_)
     rcases Ybp k i with h2|h2
     · exact ha k h2
     · rw[show k=i by omega];exact h
theorem Zqt (P:List ByteArray):Zcj L P=match Zas L P with|some k=>(k:Int)|none=> -1:=
 Zrj hr _ 0 rfl (Yas _) (fun k hk=>by omega)
end
end Tre
namespace Mtr
open Go Go.Lib Adr
def Zgf (b:List UInt8):Bool:=decide (1≤b.length)&&decide (b.length≤3)&&b.all Zdy&& !(hasSuffix b [48])
def Zky (a:List UInt8):Bool:=Zld a&&decide (a.length≤6)
def frac (b:List UInt8):Nat:=val b*10^(3-b.length)
def dec (t:List UInt8):Option Nat:=
 match t.dropWhile Zdy with
 | []=>if Zky (t.takeWhile Zdy)then some (1000*val (t.takeWhile Zdy))else none
 |c::b=>if Zky (t.takeWhile Zdy)&&(c==46&&Zgf b)then some (1000*val (t.takeWhile Zdy)+frac b)else none
theorem Zafz {p:UInt8→Bool}: ∀ {l:List UInt8},l.all p=true→l.takeWhile p=l∧l.dropWhile p= []
 | [],_=>⟨rfl,rfl⟩
 | c::r,h=>by
   simp only[Ydd,Yaq]at h;rw[List.takeWhile_cons,List.dropWhile_cons,h.1];have:=Zafz h.2;exact⟨by simp[this.1],by simp[this.2]⟩
theorem Zqx {p:UInt8→Bool} {c:UInt8} {b:List UInt8} (hc:p c=false): ∀ {l:List UInt8},l.all p=true→(l++c::b).takeWhile p=l∧(l++c::b).dropWhile p=c::b
 | [],_=>by simp[hc]
 | d::r,h=>by
   simp only[Ydd,Yaq]at h;have:=Zqx (b:=b) hc h.2;simp[h.1,this.1,this.2]
theorem Zhq {p:UInt8→Bool}: ∀ (l:List UInt8),l=l.takeWhile p++l.dropWhile p:=fun _l=>List.takeWhile_append_dropWhile.symm
theorem Zql {a:List UInt8} (h:Zky a=true):a.all Zdy=true:=by
 unfold Zky at h;simp only[Yaq]at h;exact((Zit a).1 h.1).2.2.1
theorem Zbgi:Zdy 46=false:=by decide
theorem Zant (t:List UInt8) (h:(46:UInt8)∉t):dec t=if Zky t then some (1000*val t)else none:=by
 unfold dec;split
 · rename_i hd;have ht:t.takeWhile Zdy=t:=by have:=Zhq (p:=Zdy) t;rw[hd,Ybg]at this;exact this.symm
   rw[ht]
 · rename_i c b hd
   have hc:(c==46)=false:=by
    rw[Yak];rintro rfl;refine h ?_;rw[Zhq (p:=Zdy) t,hd];simp
   have hn:Zky t=false:=by
    rw[Yda];intro ht;have:=(Zafz (Zql ht)).2;rw[this]at hd;cases hd
   rw[hc,hn];simp
theorem Zaap (b:List UInt8): ∀ a:List UInt8,(46:UInt8)∉a→a.all Zdy=false→ ∃ c r,(a++46::b).dropWhile Zdy=c::r∧c≠46
 | [],_,h=>by simp at h
 | d::a,hn,h=>by
   rw[Yav,not_or]at hn;by_cases hd:Zdy d=true
   · rw[Ydd,hd,Ydw]at h;obtain⟨c,r,e,hc⟩:=Zaap b a hn.2 h;exact⟨c,r,by rw[Ycn,List.dropWhile_cons,hd];exact e,hc⟩
   · exact⟨d,a++46::b,by rw[Ycn,List.dropWhile_cons,Yab hd],fun e=>hn.1 e.symm⟩
theorem Zanq (a b:List UInt8) (h:(46:UInt8)∉a):dec (a++46::b)=if Zky a&&Zgf b then some (1000*val a+frac b)else none:=by
 by_cases ha:a.all Zdy=true
 · have:=Zqx (b:=b) Zbgi ha;unfold dec;rw[this.2,this.1];simp
 · have hn:Zky a=false:=by
    rw[Yda];exact fun e=>ha (Zql e)
   rw[hn,Yfi,Yab (by decide)]
   obtain⟨c,r,hd,hc⟩:=Zaap b a h (by simpa using ha)
   unfold dec;rw[hd];show(if Zky _&&(c==46&&Zgf r)then _ else none)=none
   rw[Yak.2 hc];simp
theorem Zadg (l:List UInt8) (hne:l≠ []) (hlen:l.length≤10) (hd:l.all Zdy=true):atoiAll l= .ok (val l):=by
 cases l with
 |nil=>exact absurd rfl hne
 | cons c r=>
   have hc:=(Zhj c).1 (by simp only[Ydd,Yaq]at hd;exact hd.1)
   have hp:10^(c::r).length≤10^10:=Yfe (by decide) hlen
   have hv:=Zais (c::r) hd;have e:parseUint10 0 (c::r)= .ok (val (c::r)):=Zri (c::r) 0 hd (by simpa using hp)
   unfold atoiAll;simp only;rw[Yab (by omega)]
   unfold parseMag;rw[Yab (by simp),e]
   simp only;rw[Yab (by omega),Yab (by omega),Yab (by omega)]
theorem Zwr (n:Nat):(repeatL [48] n).all Zdy=true∧(repeatL [48] n).length=n:=by
 induction n with
 |zero=>exact⟨rfl,rfl⟩
 |succ n ih=>unfold repeatL;simp[ih.1,ih.2,Zdy]
theorem Zvn (a n:Nat):Zgo a (repeatL [48] n)=a*10^n:=by
 induction n generalizing a with
 |zero=>simp[repeatL,Zgb]
 | succ n ih=>
   unfold repeatL;rw[List.singleton_append,Zgm,ih];show(10*a+(48-48))*10^n=_;rw[Nat.pow_succ,Yel,Ydy,Yfa 10 a,Nat.mul_assoc,Yfa 10]
theorem Zbfp (b:List UInt8) (n:Nat):val (b++repeatL [48] n)=val b*10^n:=by
 unfold val;rw[Zis,Zvn]
theorem Zaaz {b:List UInt8} (h1:1≤b.length) (h3:b.length≤3) (hd:b.all Zdy=true):atoiAll (b++repeatL [48] (3-b.length))= .ok (frac b):=by
 have hr:=Zwr (3-b.length);rw[Zadg _ (by intro e;have:=congrArg List.length e;rw[Yae,hr.2,Ydz]at this;omega) (by rw[Yae,hr.2];omega) (by rw[List.all_append,hd,hr.1];rfl),Zbfp]
 rfl
def Zhg:List UInt8:= [48,49,50,51,52,53,54,55,56,57]
theorem Zaju (c:UInt8):Zhg.contains c=Zdy c:=by
 have: ∀ n:Fin 256,Zhg.contains (UInt8.ofNat n)=Zdy (UInt8.ofNat n):=by decide+kernel
 have h:=this ⟨c.toNat,c.toNat_lt⟩;simpa using h
theorem Zok {p:UInt8→Bool} (l:List UInt8):l.dropWhile p= []↔l.all p=true:=by
 induction l with
 |nil=>simp
 | cons c r ih=>
   rw[List.dropWhile_cons,Ydd];by_cases h:p c=true
   · rw[Yam h,ih,h,Ydw]
   · rw[Yab h];simp[h]
theorem Zaiq (cs l:List UInt8):trimS l cs= []↔l.all (cs.contains ·)=true:=by
 unfold trimS trimLeftS;rw[Zok];unfold trimRightS;rw[List.all_reverse];constructor
 · intro h;have h2:(l.reverse.dropWhile (cs.contains ·)).all (cs.contains ·)=true:=h;have e:=Zhq (p:=(cs.contains ·)) l.reverse
   have:l.reverse.all (cs.contains ·)=true:=by
    rw[e,List.all_append,h2,Bool.and_true];exact List.all_takeWhile
   simpa using this
 · intro h;have:l.reverse.dropWhile (cs.contains ·)= []:=by rw[Zok];simpa using h
   rw[this];rfl
theorem Zva (l:List UInt8):trimS l Zhg= []↔l.all Zdy=true:=by
 rw[Zaiq];rw[show(fun x=>Zhg.contains x)=Zdy from funext Zaju]
theorem Zbgp {l:List UInt8} {v:Int} (h:atoiAll l= .ok v):(Zky l=true∧l.length≤6∧0≤v∧v=(val l:Int)∧itoa v=l)∨(Zky l=false∧(6<l.length∨v<0∨itoa v≠l)):=by
 unfold Zky;rcases num_ok l v h with⟨h1,h2,h3,h4⟩|⟨h1,h2⟩
 · have hc:Zld l=true:=by
    cases hc:Zld l with
    |true=>rfl
    |false=>rw[Zmq hc]at h1;omega
   rw[Zls hc]at h1;by_cases h6:l.length≤6
   · left;rw[hc,Yal h6];exact⟨rfl,h6,h3,h1.symm,h4⟩
   · right;rw[Yai h6,Yeo];exact⟨rfl, .inl (by omega)⟩
 · right
   have hc:Zld l=false:=by
    cases hc:Zld l with
    |false=>rfl
    |true=>rw[Zls hc]at h1;omega
   rw[hc];refine⟨rfl, ?_⟩;rcases h2 with h2|h2
   · exact .inl (by omega)
   · exact .inr h2
theorem Zbcm {l:List UInt8} (h: ∀ v,atoiAll l≠ .ok v):Zky l=false:=by
 unfold Zky;cases hc:Zld l with
 |false=>rfl
 |true=>exact absurd (Zqc l hc) (h _)
theorem Zaws {b:List UInt8} (h: ∀ v,atoiAll (b++repeatL [48] (3-b.length))≠ .ok v):Zgf b=false:=by
 rw[Yda];intro e;unfold Zgf at e;simp only[Yaq,Yao]at e;exact h _ (Zaaz e.1.1.1 e.1.1.2 e.1.2)
theorem Zbcf {b:List UInt8} {k:Int} (h:atoiAll (b++repeatL [48] (3-b.length))= .ok k):
 (Zgf b=true∧1≤b.length∧b.length≤3∧trimS b Zhg= []∧hasSuffix b [48]=false∧k=(frac b:Int))∨(Zgf b=false∧(b.length<1∨3<b.length∨trimS b Zhg≠ []∨hasSuffix b [48]=true)):=by
 by_cases h1:1≤b.length
 · by_cases h3:b.length≤3
   · by_cases hd:b.all Zdy=true
     · cases hs:hasSuffix b [48]with
       | false=>
         left
         rw[Zaaz h1 h3 hd]at h;injection h with h
         refine⟨?_,h1,h3,(Zva b).2 hd,rfl,h.symm⟩;unfold Zgf;rw[Yal h1,Yal h3,hd,hs];rfl
       |true=>right;refine⟨?_, .inr (.inr (.inr rfl))⟩;unfold Zgf;rw[hs];simp
     · right;refine⟨?_, .inr (.inr (.inl fun e=>hd ((Zva b).1 e)))⟩;unfold Zgf;rw[show b.all Zdy=false by simpa using hd];simp
   · right;refine⟨?_, .inr (.inl (by omega))⟩;unfold Zgf;rw[Yai h3];simp
 · right;refine⟨?_, .inl (by omega)⟩;unfold Zgf;rw[Yai h1];rfl
theorem Zate {a:List UInt8} (h:Zky a=true):val a<1000000:=by
 have hd:=Zql h;unfold Zky at h;simp only[Yaq,Yao]at h;have h1:=Zais a hd;have h2:10^a.length≤10^6:=Yfe (by decide) h.2
 omega
theorem Zakc {b:List UInt8} (h:Zgf b=true):frac b<1000:=by
 unfold Zgf at h;simp only[Yaq,Yao]at h;have h1:=Zais b h.1.2;unfold frac;have:b.length=1∨b.length=2∨b.length=3:=by omega
 rcases this with e|e|e<;>rw[e]at h1⊢ <;>simp at * <;>omega
end Mtr
namespace Go.Proofs.Zq
open Tryz
open Go Go.RowKit Mtr
def Zbai (o:Option Nat):Value:= .tuple #[.int .i64 (match o with|some n=>(n:Int)|none=>0), .bool o.isSome]
theorem Zbbr (s:ByteArray) (w:World) (hE:Env w) (hs:s.size≤100000000):
 ∃ (a b:List UInt8) (pt:Bool),(Calls prog 212 #[.string s, .string ⟨#[46]⟩] w fun e w'=>e= .returned (.tuple #[.string ⟨a.toArray⟩, .string ⟨b.toArray⟩, .bool pt])∧Below w.heap.size w w')∧a.length≤100000000∧b.length≤100000000∧
   dec s.data.toList=if pt then(if Zky a&&Zgf b then some (1000*Adr.val a+frac b)else none)else(if Zky a then some (1000*Adr.val a)else none):=by
 have hz:=Zak s;by_cases h:(46:UInt8)∈s.data.toList
 · obtain⟨a,b,e,ha⟩:=List.eq_append_cons_of_mem h;have hl:=congrArg List.length e;rw[Yae,Ybd]at hl;exact⟨a,b,true,Zsy s 46 a b w hE hs e ha,by omega,by omega,by rw[e,Zanq a b ha];rfl⟩
 · refine⟨s.data.toList,[],false, ?_,by omega,by simp,by rw[Zant _ h];rfl⟩
   rw[mk_data];exact Zbag s 46 w hE hs h
theorem Zmm (l:List UInt8):(⟨l.toArray⟩:ByteArray).toList.isEmpty=l.isEmpty:=by rw[Lib.toList_data,Zcw]
theorem Zadr (s:ByteArray) (w:World) (hE:Env w) (hs:s.size≤100000000):
 Calls prog 236 #[.string s] w fun e w'=>e= .returned (Zbai (dec s.data.toList))∧Below w.heap.size w w':=by
 obtain⟨a,b,pt,hC,hal,hbl,hD⟩:=Zbbr s w hE hs;have HC:=Zhd hC;have HE:=Zhd hE;clear hC hE;generalize dec s.data.toList=D at *;by_cases hok: ∃ v,Lib.atoiAll a= .ok v
 · obtain ⟨v,hv⟩:=hok;have HA:=Zhd (show ∀ W,Env W→_ from fun W _=>Zig ⟨a.toArray⟩ W v (by rw[Zfs];omega) (by rw[Zcw];exact hv))
   have hvb:=Lib.atoiAll_bounds hv;have HI:=Zhd (show ∀ W,Env W→_ from fun W hW=>Zyl v W hW hvb.1 hvb.2)
   rcases Zbgp hv with⟨hi,h6,hv0,hve,hit⟩|⟨hi,hbad⟩
   · rw [hi] at hD;rw[hit]at HI;have hvs:=Zate hi;cases pt with
     | false=>
       have HD:Hid (D=some (1000*Adr.val a)):=hD;have hz6: ¬ (6:Int)<(a.length:Int):=by omega
       have HV:Hid (v=(Adr.val a:Int)):=hve;have hv1:v<1000000:=by omega
       clear hD hi hit hv hve hvb hvs;go_enter func236,ntmps236;go_wp2_with fail;refine HC.out.mono ?_;rintro e w1 ⟨rfl,hb1⟩;go_wp2_with fail;refine(HA.out _ (HE.out.below hb1)).mono ?_;rintro e w2 ⟨rfl,hb2⟩;have hb3:=Zaa hb1 hb2;clear hb1 hb2;go_wp2_with fail;refine(HI.out _ (HE.out.below hb3)).mono ?_;rintro e w3 ⟨rfl,hb4⟩;have hb5:=Zaa hb3 hb4;clear hb3 hb4 HA HI HC;go_wp2;go_ret2;exact⟨by rw[HD.out,HV.out];rfl,hb5⟩
     | true=>
       have hz6: ¬ (6:Int)<(a.length:Int):=by omega
       have HV:Hid (v=(Adr.val a:Int)):=hve;have hv1:v<1000000:=by omega
       have hD1:D=if Zgf b then some (1000*Adr.val a+frac b)else none:=by rw[hD];rfl
       obtain⟨m,hm⟩: ∃ m,3-b.length=m:=⟨_,rfl⟩;have HRp:=fun W=>Tryz.strings_Repeat ⟨#[48]⟩ m W (by omega) (by show 1*m≤_;omega)
       have hmx:max (3-(b.length:Int)) 0=(m:Int):=by omega
       have hmi:(3-(b.length:Int)).toNat=m:=by omega
       have hcat:(⟨b.toArray⟩:ByteArray)++(⟨(Lib.repeatL (⟨#[48]⟩:ByteArray).data.toList m).toArray⟩:ByteArray)=⟨(b++Lib.repeatL [48] m).toArray⟩:=Zww b (Lib.repeatL [48] m);have hrl:=(Zwr m).2;by_cases hok2: ∃ k,Lib.atoiAll (b++Lib.repeatL [48] m)= .ok k
       · obtain ⟨k,hk⟩:=hok2;have HA2:=Zhd (show ∀ W,Env W→_ from fun W _=>Zig ⟨(b++Lib.repeatL [48] m).toArray⟩ W k (by rw[Zfs,Yae,hrl];omega) (by rw[Zcw];exact hk))
         have HT:=Zhd (fun W=>Zaip ⟨b.toArray⟩ ⟨#[48,49,50,51,52,53,54,55,56,57]⟩ W (by rw[Zfs];omega) (by decide) (by decide))
         have HS:=Zhd (fun W=>Tryz.strings_HasSuffix ⟨b.toArray⟩ ⟨#[48]⟩ W (by rw[Zfs];omega))
         rw[Zcw]at HT HS;rw[←hm]at hk;have hfr:=Zbcf hk;rcases hfr with⟨hf,f1,f3,ft,fs,fk⟩|⟨hf,hbad⟩
         · have HD:Hid (D=some (1000*Adr.val a+frac b)):=by show _=_;rw[hD1,hf];rfl
           have hfs:=Zakc hf;have HK:Hid (k=(frac b:Int)):=fk;have hk0:0≤k:=by omega
           have hk1:k<1000:=by omega
           have ft2:(⟨(Lib.trimS b Zhg).toArray⟩:ByteArray).toList.isEmpty=true:=by rw[Zmm,ft];rfl
           have HT2:Hid (∀ W,Calls prog 228 #[.string ⟨b.toArray⟩, .string ⟨#[48,49,50,51,52,53,54,55,56,57]⟩] W fun e w'=>e= .returned (.string ⟨(Lib.trimS b Zhg).toArray⟩)∧Below W.heap.size W w'):=HT.out
           have HS2:Hid (∀ W,Calls prog 98 #[.string ⟨b.toArray⟩, .string ⟨#[48]⟩] W fun e w'=>e= .returned (.bool false)∧w'=W):=fun W=>by rw[←fs];exact HS.out W
           have z1: ¬ (b.length:Int)<1:=by omega
           have z3: ¬ (3:Int)<(b.length:Int):=by omega
           clear hD hD1 hi hit hv hve hvb hvs hk hf ft fs fk hfs HT HS hm;generalize (⟨(Lib.trimS b Zhg).toArray⟩:ByteArray)=tr at *;go_enter func236,ntmps236;go_wp2_with fail;refine HC.out.mono ?_;rintro e w1 ⟨rfl,hb1⟩;go_wp2_with fail;refine(HA.out _ (HE.out.below hb1)).mono ?_;rintro e w2 ⟨rfl,hb2⟩;have hb3:=Zaa hb1 hb2;clear hb1 hb2;go_wp2_with fail;refine(HI.out _ (HE.out.below hb3)).mono ?_;rintro e w3 ⟨rfl,hb4⟩;have hb5:=Zaa hb3 hb4;clear hb3 hb4 HA HI HC;go_wp2_with fail;refine(HRp w3).mono ?_;rintro e w4 ⟨rfl,hb6⟩;have hb7:=Zaa hb5 hb6;clear hb5 hb6;go_wp2_with fail;refine(HA2.out _ (HE.out.below hb7)).mono ?_;rintro e w5 ⟨rfl,hb8⟩;have hb9:=Zaa hb7 hb8;clear hb7 hb8;go_wp2_with fail;refine(HT2.out _).mono ?_;rintro e w6 ⟨rfl,hb10⟩;have hb11:=Zaa hb9 hb10;clear hb9 hb10;go_wp2_with fail;refine(HS2.out _).mono ?_;rintro e w7 ⟨rfl,rfl⟩;go_wp2;go_ret2;exact⟨by rw[HD.out,HV.out,HK.out];rfl,hb11⟩
         · have HD:Hid (D=none):=by show _=_;rw[hD1,hf];rfl
           have HT2:Hid (∀ W,Calls prog 228 #[.string ⟨b.toArray⟩, .string ⟨#[48,49,50,51,52,53,54,55,56,57]⟩] W fun e w'=>e= .returned (.string ⟨(Lib.trimS b Zhg).toArray⟩)∧Below W.heap.size W w'):=HT.out
           by_cases z1:(b.length:Int)<1
           · clear hD hD1 hi hit hv hve hvb hvs hk hf HT HS HT2 hm hbad;go_enter func236,ntmps236;go_wp2_with fail;refine HC.out.mono ?_;rintro e w1 ⟨rfl,hb1⟩;go_wp2_with fail;refine(HA.out _ (HE.out.below hb1)).mono ?_;rintro e w2 ⟨rfl,hb2⟩;have hb3:=Zaa hb1 hb2;clear hb1 hb2;go_wp2_with fail;refine(HI.out _ (HE.out.below hb3)).mono ?_;rintro e w3 ⟨rfl,hb4⟩;have hb5:=Zaa hb3 hb4;clear hb3 hb4 HA HI HC;go_wp2_with fail;refine(HRp w3).mono ?_;rintro e w4 ⟨rfl,hb6⟩;have hb7:=Zaa hb5 hb6;clear hb5 hb6;go_wp2_with fail;refine(HA2.out _ (HE.out.below hb7)).mono ?_;rintro e w5 ⟨rfl,hb8⟩;have hb9:=Zaa hb7 hb8;clear hb7 hb8;go_wp2;go_ret2;exact⟨by rw[HD.out];rfl,hb9⟩
           · by_cases z3:(3:Int)<(b.length:Int)
             · clear hD hD1 hi hit hv hve hvb hvs hk hf HT HS HT2 hm hbad;go_enter func236,ntmps236;go_wp2_with fail;refine HC.out.mono ?_;rintro e w1 ⟨rfl,hb1⟩;go_wp2_with fail;refine(HA.out _ (HE.out.below hb1)).mono ?_;rintro e w2 ⟨rfl,hb2⟩;have hb3:=Zaa hb1 hb2;clear hb1 hb2;go_wp2_with fail;refine(HI.out _ (HE.out.below hb3)).mono ?_;rintro e w3 ⟨rfl,hb4⟩;have hb5:=Zaa hb3 hb4;clear hb3 hb4 HA HI HC;go_wp2_with fail;refine(HRp w3).mono ?_;rintro e w4 ⟨rfl,hb6⟩;have hb7:=Zaa hb5 hb6;clear hb5 hb6;go_wp2_with fail;refine(HA2.out _ (HE.out.below hb7)).mono ?_;rintro e w5 ⟨rfl,hb8⟩;have hb9:=Zaa hb7 hb8;clear hb7 hb8;go_wp2;go_ret2;exact⟨by rw[HD.out];rfl,hb9⟩
             · by_cases ft:Lib.trimS b Zhg= []
               · have fs:Lib.hasSuffix b [48]=true:=((hbad.resolve_left (by omega)).resolve_left (by omega)).resolve_left (fun e=>e ft)
                 have ft2:(⟨(Lib.trimS b Zhg).toArray⟩:ByteArray).toList.isEmpty=true:=by rw[Zmm,ft];rfl
                 have HS2:Hid (∀ W,Calls prog 98 #[.string ⟨b.toArray⟩, .string ⟨#[48]⟩] W fun e w'=>e= .returned (.bool true)∧w'=W):=fun W=>by rw[←fs];exact HS.out W
                 clear hD hD1 hi hit hv hve hvb hvs hk hf ft fs HT HS hm hbad;generalize (⟨(Lib.trimS b Zhg).toArray⟩:ByteArray)=tr at *;go_enter func236,ntmps236;go_wp2_with fail;refine HC.out.mono ?_;rintro e w1 ⟨rfl,hb1⟩;go_wp2_with fail;refine(HA.out _ (HE.out.below hb1)).mono ?_;rintro e w2 ⟨rfl,hb2⟩;have hb3:=Zaa hb1 hb2;clear hb1 hb2;go_wp2_with fail;refine(HI.out _ (HE.out.below hb3)).mono ?_;rintro e w3 ⟨rfl,hb4⟩;have hb5:=Zaa hb3 hb4;clear hb3 hb4 HA HI HC;go_wp2_with fail;refine(HRp w3).mono ?_;rintro e w4 ⟨rfl,hb6⟩;have hb7:=Zaa hb5 hb6;clear hb5 hb6;go_wp2_with fail;refine(HA2.out _ (HE.out.below hb7)).mono ?_;rintro e w5 ⟨rfl,hb8⟩;have hb9:=Zaa hb7 hb8;clear hb7 hb8;go_wp2_with fail;refine(HT2.out _).mono ?_;rintro e w6 ⟨rfl,hb10⟩;have hb11:=Zaa hb9 hb10;clear hb9 hb10;go_wp2_with fail;refine(HS2.out _).mono ?_;rintro e w7 ⟨rfl,rfl⟩;go_wp2;go_ret2;exact⟨by rw[HD.out];rfl,hb11⟩
               · have ft2:(⟨(Lib.trimS b Zhg).toArray⟩:ByteArray).toList.isEmpty=false:=by rw[Zmm,List.isEmpty_eq_false_iff];exact ft
                 clear hD hD1 hi hit hv hve hvb hvs hk hf ft HT HS hm hbad;generalize (⟨(Lib.trimS b Zhg).toArray⟩:ByteArray)=tr at *;go_enter func236,ntmps236;go_wp2_with fail;refine HC.out.mono ?_;rintro e w1 ⟨rfl,hb1⟩;go_wp2_with fail;refine(HA.out _ (HE.out.below hb1)).mono ?_;rintro e w2 ⟨rfl,hb2⟩;have hb3:=Zaa hb1 hb2;clear hb1 hb2;go_wp2_with fail;refine(HI.out _ (HE.out.below hb3)).mono ?_;rintro e w3 ⟨rfl,hb4⟩;have hb5:=Zaa hb3 hb4;clear hb3 hb4 HA HI HC;go_wp2_with fail;refine(HRp w3).mono ?_;rintro e w4 ⟨rfl,hb6⟩;have hb7:=Zaa hb5 hb6;clear hb5 hb6;go_wp2_with fail;refine(HA2.out _ (HE.out.below hb7)).mono ?_;rintro e w5 ⟨rfl,hb8⟩;have hb9:=Zaa hb7 hb8;clear hb7 hb8;go_wp2_with fail;refine(HT2.out _).mono ?_;rintro e w6 ⟨rfl,hb10⟩;have hb11:=Zaa hb9 hb10;clear hb9 hb10;go_wp2;go_ret2;exact⟨by rw[HD.out];rfl,hb11⟩
       · have hf:Zgf b=false:=Zaws (fun k e=>hok2 ⟨k,by rw[←hm];exact e⟩)
         have HD:Hid (D=none):=by show _=_;rw[hD1,hf];rfl
         have HA2:=Zhd (show ∀ W,Env W→_ from fun W hW=>Zxj ⟨(b++Lib.repeatL [48] m).toArray⟩ W hW (by rw[Zfs,Yae,hrl];omega) (by rw[Zcw];exact fun k e=>hok2 ⟨k,e⟩))
         clear hD hD1 hi hit hv hve hvb hvs hf hm hok2;go_enter func236,ntmps236;go_wp2_with fail;refine HC.out.mono ?_;rintro e w1 ⟨rfl,hb1⟩;go_wp2_with fail;refine(HA.out _ (HE.out.below hb1)).mono ?_;rintro e w2 ⟨rfl,hb2⟩;have hb3:=Zaa hb1 hb2;clear hb1 hb2;go_wp2_with fail;refine(HI.out _ (HE.out.below hb3)).mono ?_;rintro e w3 ⟨rfl,hb4⟩;have hb5:=Zaa hb3 hb4;clear hb3 hb4 HA HI HC;go_wp2_with fail;refine(HRp w3).mono ?_;rintro e w4 ⟨rfl,hb6⟩;have hb7:=Zaa hb5 hb6;clear hb5 hb6;go_wp2_with fail;refine(HA2.out _ (HE.out.below hb7)).mono ?_;rintro e w5 ⟨v',ap,rfl,hb8⟩;have hb9:=Zaa hb7 hb8;clear hb7 hb8;go_wp2;go_ret2;exact⟨by rw[HD.out];rfl,hb9⟩
   · have HD:Hid (D=none):=by
      show _=_;rw[hD,hi];cases pt<;>simp
     by_cases h6:6<a.length
     · have hz6:(6:Int)<(a.length:Int):=by omega
       clear hD hi hbad hv hvb HI;go_enter func236,ntmps236;go_wp2_with fail;refine HC.out.mono ?_;rintro e w1 ⟨rfl,hb1⟩;go_wp2_with fail;refine(HA.out _ (HE.out.below hb1)).mono ?_;rintro e w2 ⟨rfl,hb2⟩;have hb3:=Zaa hb1 hb2;clear hb1 hb2;go_wp2;go_ret2;exact⟨by rw[HD.out];rfl,hb3⟩
     · have hz6: ¬ (6:Int)<(a.length:Int):=by omega
       by_cases hv0:v<0
       · clear hD hi hbad hv hvb HI;go_enter func236,ntmps236;go_wp2_with fail;refine HC.out.mono ?_;rintro e w1 ⟨rfl,hb1⟩;go_wp2_with fail;refine(HA.out _ (HE.out.below hb1)).mono ?_;rintro e w2 ⟨rfl,hb2⟩;have hb3:=Zaa hb1 hb2;clear hb1 hb2;go_wp2;go_ret2;exact⟨by rw[HD.out];rfl,hb3⟩
       · have hne:(Lib.itoa v==a)=false:=by
          rw[Yak];exact(hbad.resolve_left (by omega)).resolve_left hv0
         have hne2:((⟨(Lib.itoa v).toArray⟩:ByteArray).toList==(⟨a.toArray⟩:ByteArray).toList)=false:=by rw[Lib.toList_data,Lib.toList_data,Zcw,Zcw];exact hne
         have HNE:=Zhd hne2;clear hD hi hbad hv hvb;generalize Lib.itoa v=it at *;go_enter func236,ntmps236;go_wp2_with fail;refine HC.out.mono ?_;rintro e w1 ⟨rfl,hb1⟩;go_wp2_with fail;refine(HA.out _ (HE.out.below hb1)).mono ?_;rintro e w2 ⟨rfl,hb2⟩;have hb3:=Zaa hb1 hb2;clear hb1 hb2;go_wp2_with fail;refine(HI.out _ (HE.out.below hb3)).mono ?_;rintro e w3 ⟨rfl,hb4⟩;have hb5:=Zaa hb3 hb4;clear hb3 hb4 HA HI HC;have hne3:=HNE.out;go_wp2;go_ret2;exact⟨by rw[HD.out];rfl,hb5⟩
 · have HD:Hid (D=none):=by
    show _=_;rw[hD,Zbcm (fun v e=>hok ⟨v,e⟩)];cases pt<;>simp
   have HA:=Zhd (show ∀ W,Env W→_ from fun W hW=>Zxj ⟨a.toArray⟩ W hW (by rw[Zfs];omega) (by rw[Zcw];exact fun v e=>hok ⟨v,e⟩))
   clear hD hok;go_enter func236,ntmps236;go_wp2_with fail;refine HC.out.mono ?_;rintro e w1 ⟨rfl,hb1⟩;go_wp2_with fail;refine(HA.out _ (HE.out.below hb1)).mono ?_;rintro e w2 ⟨v,ap,rfl,hb2⟩;have hb3:=Zaa hb1 hb2;clear hb1 hb2;go_wp2;go_ret2;exact⟨by rw[HD.out];rfl,hb3⟩
end Go.Proofs.Zq
namespace Mtr
open Go Ieee
theorem Zacf (f:Format) (neg:Bool) (rung:Nat) (h:rung≤f.infRung):(∃ s m p,f.read (f.word neg rung)= .number s m p)∨(∃ s,f.read (f.word neg rung)= .infinity s):=by
 have hlt:=f.infRung_lt;have hm:f.word neg rung%f.signWeight=rung:=by
  unfold Format.word;split
  · rw[Nat.add_mod_left,Nat.mod_eq_of_lt (by omega)]
  · rw[Nat.mod_eq_of_lt (by omega)]
 unfold Format.read;simp only[hm];split
 · exact .inl ⟨_,_,_,rfl⟩
 · split
   · exact .inl ⟨_,_,_,rfl⟩
   · rw[Yam (by omega)];exact .inr ⟨_,rfl⟩
theorem Zace (f:Format) (neg:Bool) (mag:Nat) (place:Int):(∃ s m p,f.read (f.nearest neg mag place)= .number s m p)∨(∃ s,f.read (f.nearest neg mag place)= .infinity s):=by
 unfold Format.nearest;dsimp only;split
 · exact Zacf f _ _ (Yas _)
 · exact Zacf f _ _ (Nat.min_le_right ..)
theorem Zzc: ∃ s m p,double.read 4652007308841189376= .number s (m+1) p:=⟨false,8796093022207999,-43,by decide+kernel⟩
theorem Zaao (n:Int): ∃ r,floatBits .quo .f64 (floatOfInt .f64 n) 4652007308841189376=some r:=by
 obtain⟨s,m,p,h⟩:=Zzc;show ∃ r,double.div (double.nearest (n<0) n.natAbs 0) 4652007308841189376=some r;unfold Format.div;rw[h];rcases Zace double (n<0) n.natAbs 0 with⟨s',m',p',h'⟩|⟨s',h'⟩
 · rw[h'];unfold Datum.quotient;exact⟨_,rfl⟩
 · rw[h'];unfold Datum.quotient;exact⟨_,rfl⟩
theorem Zacj {P:Program} (t:TypeId) (n:Int): ∃ r,∀ w,(binOp .quo t (.float .f64 (floatOfInt .f64 n)) (.float .f64 4652007308841189376)).run P w= .ok (.float .f64 r) w:=by
 obtain⟨r,h⟩:=Zaao n;exact⟨r,fun w=>run_float_arith w .quo t .f64 _ _ r h⟩
end Mtr
