import Derived.StillTailTactics
import Derived.Shelf.Spec.SlicesInsert
import Derived.Lib.AppendZerosOnto
import Derived.Laws.CopyRow
import Derived.Test.YtkbojechhmmkcaaGreatDoorJ14
set_option linter.unusedVariables false
set_option linter.unusedSimpArgs false
set_option maxHeartbeats 4000000
set_option maxRecDepth 100000
namespace Lns
open Go Go.Lib Adr Mtr Tre Sch
def Zbr (L:List Line) (U:List ByteArray) (s:ByteArray):Nat:=
 match Zar L U with
 |some a=>atOf (gtAt L s) (endB L a) (kidsB L a)
 |none=>atOf (gtAt L s) L.length (Zaq L)
def wAt (P:List ByteArray) (d:Nat):ByteArray:=P.getD d ⟨#[]⟩
def Zdq (P:List ByteArray):Nat→Nat→List Line→Option (List Line)
 |0,_,out=>some out
 | f+1,d,out=>
   if(Zar out (P.take (d+1))).isSome then Zdq P f (d+1) out
   else if 200≤out.length then none
   else Zdq P f (d+1) (insB out (Zbr out (P.take d) (wAt P d)) ⟨d,wAt P d,0⟩)
def Zem (P:List ByteArray):Bool:=decide (0<P.length)&&P.all fun s=>decide (s.size≤40)
def addB (L:List Line) (P:List ByteArray):List Line×Int:=
 if Zab L=false∨Zem P=false then(L,1)
 else if 16<P.length then(L,6)
 else match Zdq P P.length 0 L with
  |some M=>(M,0)
  |none=>(L,5)
theorem beside: ∀ {U b:List ByteArray} (t:List ByteArray),pLt U b→(∀ s,b≠U++s)→pLt (U++t) b
 | [],b,_,_,h=>absurd rfl (h b)
 |x::U,[],_,h,_=>absurd h (Zja _)
 | x::U,y::b,t,h,hn=>by
   rw[Ycj,Zel];rcases Zel.1 h with h1|⟨rfl,h1⟩
   · exact .inl h1
   · exact .inr ⟨rfl,beside t h1 fun s e=>hn s (by rw[e,Ycj])⟩
theorem Zri (L:List Line) (i:Nat):(kidsB L i).Pairwise (· < ·):=by
 unfold kidsB kidsTo;exact List.Pairwise.filter _ List.pairwise_lt_range
section
variable {L:List Line} (hr:Zab L=true) {s:ByteArray}
include hr
omit hr in
theorem Zsk (U:List ByteArray) (h:U= []):Zbr L U s=atW L s:=by
 subst h;unfold Zbr;have:Zar L []=none:=by unfold Zar;rw[Yan (.inl rfl)]
 rw[this];rfl
theorem Zsl {a:Nat} (ha:a<L.length):Zbr L (pa L a) s=atOf (gtAt L s) (endB L a) (kidsB L a):=by
 unfold Zbr;rw[Zvm hr ha]
theorem Zaob {a:Nat} (ha:a<L.length):Zbr L (pa L a) s≤endB L a:=by
 rw[Zsl hr ha];rcases Zqk (f:=gtAt L s) (d:=endB L a) (kidsB L a)with e|⟨h1,-⟩
 · omega
 · have:=(Zbb.1 h1).1;omega
theorem Zwt {U:List ByteArray} (hU:U= []∨U∈Zaf L):Zbr L U s≤L.length:=by
 rcases hU with hU|hU
 · rw[Zsk U hU];exact Zaxh L s
 · obtain⟨a,ha,rfl⟩:=Zbs.1 hU;have:=Zaob hr (s:=s) ha;have:=Zbc L a ha;omega
theorem Zaez {U:List ByteArray} (hU:U= []∨U∈Zaf L) (hn: ¬ U++ [s]∈Zaf L) {i:Nat} (hi:i<L.length) (h:i<Zbr L U s):pLt (pa L i) (U++ [s]):=by
 rcases hU with hU|hU
 · rw[Zsk U hU]at h;subst hU;exact Zard hr hn hi h
 · obtain⟨a,ha,rfl⟩:=Zbs.1 hU;have hle:=Zaob hr (s:=s) ha;rw[Zsl hr ha]at h hle;by_cases h1:i≤a
   · have hp:pLt (pa L a) (pa L a++ [s]):=Zld _ _ _;rcases Ybr i a with g|g
     · exact Zcb (Zos hr g ha) hp
     · obtain rfl:i=a:=by omega
       exact hp
   · obtain⟨t,ht⟩:=(Zdr hr ha hi).2 ⟨by omega,by omega⟩
     cases t with
     |nil=>rw[Ybg]at ht;exact absurd (Zael hr hi ha ht) (by omega)
     | cons x t=>
       have hd:=(Zac hr).2.1;obtain⟨m,hm,e⟩:=Zoh hd hi (q:=(pa L a).length+1) (by omega) (by rw[ht];simp)
       have e2:pa L m=pa L a++ [x]:=by
        rw[e,ht,List.take_append,Ybk (by omega)];simp
       have hml:m<L.length:=by omega
       have hk:=(Zabj hr ha hml).1 (Zmx.2 ⟨x,e2⟩);have hf:=Zus (f:=gtAt L s) (d:=endB L a) (Zri L a) m (Zbb.2 ⟨hk.2.1,hk.1,hk.2.2⟩) (by omega)
       have hw:=Zex hr hml;rw[e2,Ybx,Ycr]at hw;have hw:x=Zbf L m:=hw;unfold gtAt at hf;rw[←hw,Proofs.bytesLess_eq,decide_eq_false_iff_not]at hf;have hne:x≠s:=fun ee=>hn (Zbs.2 ⟨m,hml,by rw[e2,ee]⟩)
       rw[ht];refine Zfi.2 (Ziz ?_);rcases List.le_iff_lt_or_eq.1 (List.not_lt.1 hf)with h|h
       · exact h
       · exact absurd (Zjq h) hne
theorem Zzk {U:List ByteArray} (hU:U= []∨U∈Zaf L) {i:Nat} (hi:i<L.length) (h:Zbr L U s≤i):pLt (U++ [s]) (pa L i):=by
 rcases hU with hU|hU
 · rw[Zsk U hU]at h;subst hU;exact Zaku hr hi h
 · obtain⟨a,ha,rfl⟩:=Zbs.1 hU;rw[Zsl hr ha]at h;rcases Zqk (f:=gtAt L s) (d:=endB L a) (kidsB L a)with e|⟨h1,h2⟩
   · rw[e]at h;have:=Zbc L a ha
     exact beside _ (Zos hr (by omega) hi) fun t ht=>by
      have:=(Zdr hr ha hi).1 ⟨t,ht⟩;omega
   · obtain⟨m,hm⟩: ∃ m,atOf (gtAt L s) (endB L a) (kidsB L a)=m:=⟨_,rfl⟩;rw[hm]at h h1 h2;have hk:=Zbb.1 h1;have hml:m<L.length:=by omega
     obtain⟨x,e2⟩:=Zmx.1 ((Zabj hr ha hml).2 ⟨hk.2.1,hk.1,hk.2.2⟩);have hw:=Zex hr hml;rw[e2,Ybx,Ycr]at hw;have hw:x=Zbf L m:=hw;unfold gtAt at h2;rw[←hw,Proofs.bytesLess_eq,Yap]at h2;have h3:pLt (pa L a++ [s]) (pa L m):=by rw[e2];exact Zfi.2 (Ziz h2)
     rcases Ybr m i with g|g
     · exact Zcb h3 (Zos hr g hi)
     · obtain rfl:m=i:=by omega
       exact h3
theorem Zald {U:List ByteArray} (hU:U= []∨U∈Zaf L) (hn: ¬ U++ [s]∈Zaf L) (hl:L.length<200) (hs:s.size≤40) (hd:U.length<16):
 Zab (insB L (Zbr L U s) ⟨(U.length:Nat),s,0⟩)=true∧ ∀ q,q∈Zaf (insB L (Zbr L U s) ⟨(U.length:Nat),s,0⟩)↔q=U++ [s]∨q∈Zaf L:=by
 obtain⟨ht,hf⟩:=Zcx hr;have hle:=Zwt hr (s:=s) hU
 have hside: ∀ q,(q∈(Zaf L).take (Zbr L U s)→pLt q (U++ [s]))∧(q∈(Zaf L).drop (Zbr L U s)→pLt (U++ [s]) q):=fun q=>by
  constructor
  · intro h;obtain⟨i,hi,e⟩:=Ybo h;rw[Yaf,Zae]at hi;rw[Ycs]at e;rw[←e,←Zfj (by omega)]
    exact Zaez hr hU hn (by omega) (by omega)
  · intro h;obtain⟨i,hi,e⟩:=Ybo h;rw[Yam,Zae]at hi;rw[Ydl]at e;rw[←e,←Zfj (by omega)]
    exact Zzk hr hU (by omega) (by omega)
 have hmem: ∀ q,q∈(Zaf L).take (Zbr L U s)++((U++ [s])::(Zaf L).drop (Zbr L U s))↔q=U++ [s]∨q∈Zaf L:=fun q=>by
  rw[Ybl,Yax]
  conv=>rhs;rhs;rw[←Ybh (Zbr L U s) (Zaf L),Ybl]
  constructor
  · rintro(h|h|h)
    · exact .inr (.inl h)
    · exact .inl h
    · exact .inr (.inr h)
  · rintro(h|h|h)
    · exact .inr (.inl h)
    · exact .inl h
    · exact .inr (.inr h)
 have hres:Zab (insB L (Zbr L U s) ⟨(U.length:Nat),s,0⟩)=true∧Zaf (insB L (Zbr L U s) ⟨(U.length:Nat),s,0⟩)=(Zaf L).take (Zbr L U s)++((U++ [s])::(Zaf L).drop (Zbr L U s)):=by
  refine Zkd (Zgi (Zhr _ hf) ⟨⟨?_, ?_, ?_⟩,Zhq _ hf⟩) ⟨?_,fun q hq=> ?_⟩ ?_
  · unfold Zbx;simp only[Yat,Yap];omega
  · simp
  · rw[Ybx,Ycr];rfl
  · rw[Yex];refine⟨List.Pairwise.sublist (List.take_sublist _ _) ht.1,Ycd.2 ⟨fun q h=>(hside q).2 h,List.Pairwise.sublist (List.drop_sublist _ _) ht.1⟩,fun a ha b hb=> ?_⟩
    rcases Yax.1 hb with e|e
    · rw[e];exact(hside a).1 ha
    · exact Zcb ((hside a).1 ha) ((hside b).2 e)
  · rcases(hmem q).1 hq with e|e
    · rw[e];refine⟨by simp, ?_⟩
      rw[Yed];rcases hU with hU|hU
      · exact .inr hU
      · exact .inl ((hmem _).2 (.inr hU))
    · obtain⟨h1,h2⟩:=ht.2 q e;exact⟨h1,h2.imp (fun h=>(hmem _).2 (.inr h)) id⟩
  · rw[Zit];omega
 exact⟨hres.1,fun q=>by rw[hres.2];exact hmem q⟩
end
theorem Zss {P:List ByteArray} {d:Nat} (h:d<P.length):P.take (d+1)=P.take d++ [wAt P d]:=by
 rw[Yaw h];unfold wAt;rw[Yaq,Yaj h];rfl
theorem Zqg {P:List ByteArray} (hP:Zem P=true) {d:Nat} (h:d<P.length):(wAt P d).size≤40:=by
 unfold Zem at hP;rw[Yat,Ybq]at hP;have:=hP.2 P[d] (Yau h);unfold wAt;rw[Yaq,Yaj h];simpa using this
theorem Zur {P:List ByteArray} (hP:Zem P=true) (h16:P.length≤16) {out:List Line} (hr:Zab out=true) {d:Nat} (hd:d<P.length) (hU:d=0∨P.take d∈Zaf out) (hf:Zar out (P.take (d+1))=none) (hl:out.length<200):
 Zab (insB out (Zbr out (P.take d) (wAt P d)) ⟨d,wAt P d,0⟩)=true∧Zbr out (P.take d) (wAt P d)≤out.length∧ ∀ q,q∈Zaf (insB out (Zbr out (P.take d) (wAt P d)) ⟨d,wAt P d,0⟩)↔q=P.take (d+1)∨q∈Zaf out:=by
 have hU2:P.take d= []∨P.take d∈Zaf out:=hU.imp (fun e=>by rw[e];rfl) id
 have hn: ¬ P.take d++ [wAt P d]∈Zaf out:=by
  rw[←Zss hd];intro h;have:=Zft hr|>.2 h
  rw[hf]at this;cases this
 have hl2:(P.take d).length=d:=by rw[Yaf];omega
 have:=Zald hr hU2 hn hl (Zqg hP hd) (by omega)
 rw[hl2]at this;exact⟨this.1,Zwt hr hU2,fun q=>by rw[this.2 q,Zss hd]⟩
theorem Zkq {P:List ByteArray} (hP:Zem P=true) (h16:P.length≤16): ∀ (f d:Nat) (out M:List Line),d+f=P.length→Zab out=true→(d=0∨P.take d∈Zaf out)→Zdq P f d out=some M→
 Zab M=true∧ ∀ q,q∈Zaf M↔q∈Zaf out∨ ∃ j,d<j∧j≤P.length∧q=P.take j
 | 0,d,out,M,hd,hr,_,h=>by
   unfold Zdq at h;injection h with h
   subst h;exact⟨hr,fun q=>⟨.inl,fun hq=>hq.elim id fun⟨j,h1,h2,_⟩=>absurd h1 (by omega)⟩⟩
 | f + 1,d,out,M,hd,hr,hU,h=>by
   unfold Zdq at h;cases hf:Zar out (P.take (d+1))with
   | some k=>
     rw[hf,Yan (show(some k).isSome=true from rfl)]at h;have hin:P.take (d+1)∈Zaf out:=(Zft hr).1 (by rw[hf];rfl)
     obtain⟨h1,h2⟩:=Zkq hP h16 f (d+1) out M (by omega) hr (.inr hin) h
     refine⟨h1,fun q=> ?_⟩
     rw[h2];constructor
     · rintro(h|⟨j,j1,j2,e⟩)
       · exact .inl h
       · exact .inr ⟨j,by omega,j2,e⟩
     · rintro(h|⟨j,j1,j2,e⟩)
       · exact .inl h
       · by_cases hj:j=d+1
         · subst hj;rw[e];exact .inl hin
         · exact .inr ⟨j,by omega,j2,e⟩
   | none=>
     rw[hf,Yad (show ¬ (none:Option Nat).isSome=true by simp)]at h
     by_cases hl:200≤out.length
     · rw[Yan hl]at h;cases h
     · rw [Yad hl]at h;obtain⟨g1,-,g2⟩:=Zur hP h16 hr (by omega) hU hf (by omega)
       obtain⟨h1,h2⟩:=Zkq hP h16 f (d+1) _ M (by omega) g1 (.inr ((g2 _).2 (.inl rfl))) h
       refine⟨h1,fun q=> ?_⟩
       rw[h2,g2];constructor
       · rintro((h|h)|⟨j,j1,j2,e⟩)
         · exact .inr ⟨d+1,by omega,by omega,h⟩
         · exact .inl h
         · exact .inr ⟨j,by omega,j2,e⟩
       · rintro(h|⟨j,j1,j2,e⟩)
         · exact .inl (.inr h)
         · by_cases hj:j=d+1
           · subst hj;rw[e];exact .inl (.inl rfl)
           · exact .inr ⟨j,by omega,j2,e⟩
end Lns
namespace Go.Proofs.Zq
open Tryz
open Go Go.RowKit Go.Sort Tre Sch Lns
theorem Zaia (s:ByteArray) (w:World):Calls prog 126 #[.string s] w fun e w'=>e= .returned (.bool (decide (40<s.size)))∧w'=w:=by
 go_enter func126,ntmps126;go_wp2;go_ret;exact⟨Zaj (by simp;omega),rfl⟩
def Zes:Nat→List ByteArray→Int
 |_,[]=> -1
 |i,s::l=>if 40<s.size then(i:Int)else Zes (i+1) l
theorem Zaee: ∀ (l:List ByteArray) (i:Nat),(decide (0≤Zes i l))= !(l.all fun s=>decide (s.size≤40))
 | [],i=>rfl
 | s ::l,i=>by
   unfold Zes;by_cases h:40<s.size
   · rw[Yan h,Ycu,Yah (by omega: ¬ s.size≤40),Bool.false_and]
     simp
   · rw[Yad h,Ycu,Yal (by omega:s.size≤40),Ydq]
     exact Zaee l (i+1)
theorem Zvu (A:Option Addr) (c:Nat) (P:List ByteArray) (w:World) (hR:Rd w 1 A P.length (sv P)) (hl:P.length≤1000000):
 Calls prog 165 #[.slice A P.length c, .func (.func 126) #[] #[]] w fun e w'=>e= .returned (.int .i64 (Zes 0 P))∧w'=w:=by
 have HR:=Zhd hR;clear hR;go_enter func165,ntmps165;go_wp2;go_loopw [8] (fun vi wr=> ∃ k:Nat,k≤P.length∧vi= .int .i64 k∧wr=w∧Hid (Zes 0 P=Zes k (P.drop k))) (fun vi _=>P.length-(intOf vi).toNat)
 case atStart=>exact⟨0,Yao _,rfl,rfl,rfl⟩
 case round=>
  obtain⟨k,hk,rfl,hwe,HQ⟩:=hrel;have hwe:=hwe.symm;subst hwe;by_cases hlt:k<P.length
  · obtain⟨B,O,rfl,hab,hadd,hx⟩:=HR.out.strAt hlt;have hst:Zes 0 P=if 40<P[k].size then(k:Int)else Zes (k+1) (P.drop (k+1)):=by rw[HQ.out,Yay hlt];rfl
    generalize P[k]=s at *;have HC:=Zhd (Zaia s w);by_cases h40:40<s.size
    · rw[Yan h40]at hst;rw[Yal h40]at HC;have HN:=Zhd hst;clear hst HQ;go_wp2_with (go_at_call 126;refine HC.out.mono ?_;rintro e w' ⟨rfl,rfl⟩);go_ret;exact⟨by rw[HN.out];rfl,rfl⟩
    · rw[Yad h40]at hst;rw[Yah h40]at HC;have HN:=Zhd hst;clear hst HQ;go_wp2_with (go_at_call 126;refine HC.out.mono ?_;rintro e w' ⟨rfl,rfl⟩);go_roundw
      case rel=>exact⟨k+1,by omega,by go_num,by simp,HN⟩
      case measure=>simp[intOf];omega
  · have HN:Hid (Zes 0 P= -1):=by
     show _=_;rw[HQ.out,Ybe (by omega)];rfl
    have hke:k=P.length:=by omega
    clear HQ;go_wp2;go_ret;exact⟨by rw[HN.out];rfl,rfl⟩
theorem Zlg (A:Option Addr) (c:Nat) (P:List ByteArray) (w:World) (hR:Rd w 1 A P.length (sv P)) (hl:P.length≤1000000):
 Calls prog 93 #[.slice A P.length c] w fun e w'=>e= .returned (.bool (Zem P))∧w'=w:=by
 have HI:=Zhd (Zvu A c P w hR hl)
 have HX:Hid (Zem P=(decide (0<P.length)&& !(decide (0≤Zes 0 P)))):=by
  show _=_;rw[Zaee];unfold Zem;simp
 clear hR;generalize Zes 0 P=q at *
 have HCo:Hid (∀ W,W=w→Calls prog 125 #[.slice A P.length c, .func (.func 126) #[] #[]] W fun e w'=>e= .returned (.bool (decide (0≤q)))∧w'=W):=by
  rintro W rfl;go_enter func125,ntmps125;go_wp2_with (go_at_call 165;refine HI.out.mono ?_;rintro e w' ⟨rfl,rfl⟩);go_ret;exact⟨Zaj rfl,rfl⟩
 by_cases h0:0<P.length
 · have h0':(0:Int)<(P.length:Int):=by omega
   go_enter func93,ntmps93;go_wp2_with (go_at_call 125;refine(HCo.out _ rfl).mono ?_;rintro e w' ⟨rfl,rfl⟩);go_ret;exact⟨Zaj (by rw[HX.out,Yal h0];simp),rfl⟩
 · have h0': ¬ (0:Int)<(P.length:Int):=by omega
   go_enter func93,ntmps93;go_wp2_with fail;go_ret;exact⟨Zaj (by rw[HX.out,Yah h0];simp),rfl⟩
theorem Zacy {f:Nat→Bool} {d:Nat} {K:List Nat} {j:Nat} (h:K.length≤j):atOf f d (K.drop j)=d:=by
 rw[Ybe h];rfl
theorem Zaey (A:Option Addr) (cap:Nat) (L:List Line) (Ap:Option Addr) (cp:Nat) (U:List ByteArray) (s:ByteArray) (w:World) (hR:Rd w 3 A L.length (lines L)) (hcap:L.length≤cap) (hc:cap≤maxLen) (hr:Zab L=true) (hP:Rd w 1 Ap U.length (sv U)) (hcp:U.length≤cp) (hc2:cp≤maxLen):
 Calls prog 95 #[.slice A L.length cap, .slice Ap U.length cp, .string s] w fun e w'=>e= .returned (.int .i64 (Zbr L U s:Nat))∧Below w.heap.size w w':=by
 have HFi:=Zhd (Zbq A cap L Ap cp U w hR hcap hc hr hP hcp hc2);have h200:=Zas hr;have HEn:=Zhd (fun k (hk:k<L.length) W (hb:Below w.heap.size w W)=>Zqx A cap L k W (hR.below hb) hcap hc)
 have HTh:=Zhd (fun k (hk:k<L.length)=>Zfm hr hk)
 have HKi:=Zhd (fun k (hk:k<L.length) W (hb:Below w.heap.size w W)=>Zmz A cap L k W (hR.below hb) hcap hc hr hk)
 have HKt:=Zhd (fun W (hb:Below w.heap.size w W)=>Zvz A cap L W (hR.below hb) hcap hc hr)
 have HFl:=Zhd (fun k (h:Zar L U=some k)=>Zce h)
 have HGT:Hid (∀ k,(h:k<L.length)→(Op.bytesLess L[k].word.toList s.toList||L[k].word.toList==s.toList)= !(gtAt L s k)):=fun k h=>by unfold gtAt;rw[Zbj h,Zaed]
 have HX:Hid (Zbr L U s=match Zar L U with|some a=>atOf (gtAt L s) (endB L a) (kidsB L a)|none=>atOf (gtAt L s) L.length (Zaq L)):=rfl
 have HR:=Zhd hR
 have HKm:=Zhd (fun k (hk:k<L.length) j (h:j<(kidsB L k).length)=>show(kidsB L k)[j]<L.length from by
  have h1:=(Zbb.1 (Yau h)).1;have:=Zbc L k hk;omega)
 have HKl:=Zhd (fun k (hk:k<L.length)=>show(kidsB L k).length≤200 from by
  have h1:=kidsTo_len L (Zao L k+1) (k+1) (endB L k);have:=Zbc L k hk;unfold kidsB;omega)
 have HTm:=Zhd (fun j (h:j<(Zaq L).length)=>show(Zaq L)[j]<L.length from(Zbb.1 (Yau h)).1)
 have HTl:Hid ((Zaq L).length≤200):=by
  have h1:=kidsTo_len L 0 0 L.length;show _≤_;unfold Zaq;omega
 clear hR hP hr;go_enter func95,ntmps95;cases hf:Zar L U with
 | none =>
   rw[hf]at HFi HX;have HX2:Hid (Zbr L U s=atOf (gtAt L s) L.length (Zaq L)):=HX.out;clear HX HKi HKm HKl HEn HTh HFl hf;have HAD:=Zhd (fun j h=>Zxk (f:=gtAt L s) (d:=L.length) (K:=Zaq L) (j:=j) h)
   have HAE:=Zhd (fun j h=>Zacy (f:=gtAt L s) (d:=L.length) (K:=Zaq L) (j:=j) h)
   have hkl:=HTl.out;generalize Zaq L=K at *;generalize gtAt L s=f at *;go_wp2_with (first|(go_at_call 47;refine HFi.out.mono ?_;rintro e w1 ⟨rfl,hb1⟩)|(go_at_call 88;refine(HKt.out _ hb1).mono ?_;unfold Zgc;rintro e w2 ⟨A2,c2,rfl,hc21,hc22,hrd2,hb2⟩;have HI:=Zhd hrd2;have HB2:=Zhd (Zaa hb1 hb2);clear hrd2 hb2 hb1))
   go_loopw [28] (fun vi wr=> ∃ j:Nat,j≤K.length∧vi= .int .i64 j∧wr=w2∧Hid (Zbr L U s=atOf f L.length (K.drop j))) (fun vi _=>K.length-(intOf vi).toNat)
   case atStart=>exact⟨0,Yao _,rfl,rfl,HX2.out⟩
   case round=>
    obtain⟨j,hj,rfl,hwe,HQ⟩:=hrel;have hwe:=hwe.symm;subst hwe;by_cases hlt:j<K.length
    · obtain⟨B,O,rfl,hab,hadd,hx⟩:=HI.out.intAt hlt;have hql:=HTm.out j hlt;have had:=HAD.out j hlt;generalize K[j]=q at *;obtain⟨B2,O2,rfl,hab2,hadd2,y0,y1,y2⟩:=(HR.out.below HB2.out).line hql;have hgt:=HGT.out q hql;generalize L[q].word=u at *;have hqi:(q:Int)<(L.length:Int):=by omega
      clear HGT HAD y0 y2;cases hf:f q with
      | true=>
        rw[hf,Bool.not_true]at hgt;rw[hf,Yan rfl]at had;have hg1:Op.bytesLess u.toList s.toList=false:=by cases h:Op.bytesLess u.toList s.toList<;>simp[h]at hgt⊢
        have hg2:(u.toList==s.toList)=false:=by rw[hg1]at hgt;simpa using hgt
        have hg3: ¬ u.toList=s.toList:=by simpa using hg2
        have HN:Hid (Zbr L U s=q):=by show _=_;rw[HQ.out,had]
        clear hf had HQ;go_wp2_with fail;go_ret;exact⟨by rw[HN.out];rfl,HB2.out⟩
      | false=>
        rw[hf,Bool.not_false]at hgt;rw[hf,Yad (by simp)]at had
        have hg4:(!(Op.bytesLess u.toList s.toList)&& !(u.toList==s.toList))=false:=by
         rw[←Bool.not_or,hgt];rfl
        have HN:Hid (Zbr L U s=atOf f L.length (K.drop (j+1))):=by show _=_;rw[HQ.out,had]
        clear hf had HQ;go_wp2_with fail;go_roundw
        case rel=>exact⟨j+1,by omega,by go_num,by simp,HN⟩
        case measure=>simp[intOf];omega
    · have HN:Hid (Zbr L U s=L.length):=by show _=_;rw[HQ.out,HAE.out j (by omega)]
      have hjk:j=K.length:=by omega
      clear HQ;go_wp2_with fail;go_ret;exact⟨by rw[HN.out];rfl,HB2.out⟩
 | some k=>
   have hk:=HFl.out k hf;rw[hf]at HFi HX;have HX2:Hid (Zbr L U s=atOf (gtAt L s) (endB L k) (kidsB L k)):=HX.out;have HEk:=HEn.out k hk;rw[HTh.out k hk]at HEk;have HEk2:Hid (∀ W,Below w.heap.size w W→Calls prog 62 #[.slice A L.length cap, .int .i64 k] W fun e w'=>e= .returned (.int .i64 (endB L k:Nat))∧Below W.heap.size W w'):=HEk
   have HKk:=Zhd (HKi.out k hk);have hkl:=HKl.out k hk;have HKM:=Zhd (HKm.out k hk);clear HX HKi HKm HKl HEn HTh HFl HKt HTm HTl hf HEk;have HAD:=Zhd (fun j h=>Zxk (f:=gtAt L s) (d:=endB L k) (K:=kidsB L k) (j:=j) h)
   have HAE:=Zhd (fun j h=>Zacy (f:=gtAt L s) (d:=endB L k) (K:=kidsB L k) (j:=j) h)
   generalize kidsB L k=K at *;generalize gtAt L s=f at *;generalize endB L k=d at *;go_wp2_with (first|(go_at_call 47;refine HFi.out.mono ?_;rintro e w1 ⟨rfl,hb1⟩)|(go_at_call 62;refine(HEk2.out _ hb1).mono ?_;rintro e w1b ⟨rfl,hb1b⟩;have hb1c:=Zaa hb1 hb1b)|(go_at_call 88;refine(HKk.out _ hb1c).mono ?_;unfold Zgc;rintro e w2 ⟨A2,c2,rfl,hc21,hc22,hrd2,hb2⟩;have HI:=Zhd hrd2;have HB2:=Zhd (Zaa hb1c hb2);clear hrd2 hb2 hb1 hb1b hb1c))
   go_loopw [28] (fun vi wr=> ∃ j:Nat,j≤K.length∧vi= .int .i64 j∧wr=w2∧Hid (Zbr L U s=atOf f d (K.drop j))) (fun vi _=>K.length-(intOf vi).toNat)
   case atStart=>exact⟨0,Yao _,rfl,rfl,HX2.out⟩
   case round=>
    obtain⟨j,hj,rfl,hwe,HQ⟩:=hrel;have hwe:=hwe.symm;subst hwe;by_cases hlt:j<K.length
    · obtain⟨B,O,rfl,hab,hadd,hx⟩:=HI.out.intAt hlt;have hql:=HKM.out j hlt;have had:=HAD.out j hlt;generalize K[j]=q at *;obtain⟨B2,O2,rfl,hab2,hadd2,y0,y1,y2⟩:=(HR.out.below HB2.out).line hql;have hgt:=HGT.out q hql;generalize L[q].word=u at *;have hqi:(q:Int)<(L.length:Int):=by omega
      clear HGT HAD y0 y2;cases hf:f q with
      | true=>
        rw[hf,Bool.not_true]at hgt;rw[hf,Yan rfl]at had;have hg1:Op.bytesLess u.toList s.toList=false:=by cases h:Op.bytesLess u.toList s.toList<;>simp[h]at hgt⊢
        have hg2:(u.toList==s.toList)=false:=by rw[hg1]at hgt;simpa using hgt
        have hg3: ¬ u.toList=s.toList:=by simpa using hg2
        have HN:Hid (Zbr L U s=q):=by show _=_;rw[HQ.out,had]
        clear hf had HQ;go_wp2_with fail;go_ret;exact⟨by rw[HN.out];rfl,HB2.out⟩
      | false=>
        rw[hf,Bool.not_false]at hgt;rw[hf,Yad (by simp)]at had
        have hg4:(!(Op.bytesLess u.toList s.toList)&& !(u.toList==s.toList))=false:=by
         rw[←Bool.not_or,hgt];rfl
        have HN:Hid (Zbr L U s=atOf f d (K.drop (j+1))):=by show _=_;rw[HQ.out,had]
        clear hf had HQ;go_wp2_with fail;go_roundw
        case rel=>exact⟨j+1,by omega,by go_num,by simp,HN⟩
        case measure=>simp[intOf];omega
    · have HN:Hid (Zbr L U s=d):=by show _=_;rw[HQ.out,HAE.out j (by omega)]
      have hjk:j=K.length:=by omega
      clear HQ;go_wp2_with fail;go_ret;exact⟨by rw[HN.out];rfl,HB2.out⟩
theorem Zcm {P:Program} (k:Nat) (w:World) (dT sT ty elem:TypeId) (g o dLen dCap:Nat) (a:Addr) (sLen sCap:Nat) (cur:Array Value) (t:TypeId) (cs:List Value)
 (hu:P.underlying dT=some (.slice elem)) (hs:(P.info? elem).map (·.size)=some k)
 (hg:w.heap[g]?=some (.cells cur t (0,0))) (hn:cs.length=Nat.min sLen dLen*k)
 (hsrc: ∀ j v,cs[j]?=some v→w.cell? (a.add j)=some v) (hfit:o+cs.length≤cur.size) (h1: ∀ v∈cs,v.oneCell'=true):
 (Builtin.copy_ #[dT,sT] ty #[.slice (some ⟨g,o,none⟩) dLen dCap, .slice (some a) sLen sCap]).run P w=
  .ok (goInt (Nat.min sLen dLen)) (w.setRow g (cur.toList.take o++cs++cur.toList.drop (o+cs.length)).toArray):=by
 have hl:=run_loadCells_list (P:=P) w a cs hsrc;have hst:=run_storeCells_at P g o t cs 0 cur w hg (by simpa using hfit) h1
 cases hq:P.info? elem with
 |none=>simp[hq]at hs
 | some i=>
   have hi:i.size=k:=by simpa[hq]using hs
   simp[Builtin.copy_,run_underlying hu,Builtin.lenOf,Builtin.firstCells,sizeOf,typeInfo,hq,hi,←hn,hl,hst]
def segs (cur:List Value) (o:Nat) (cs:List Value):List Value:=cur.take o++cs++cur.drop (o+cs.length)
theorem Zha {cur:List Value} {o:Nat} {cs:List Value} (h:o+cs.length≤cur.length):(segs cur o cs).length=cur.length:=by
 unfold segs;rw[Yak,Yak,Yaf,Yam];omega
theorem Zcz {n:Nat} {a w:World} (h:Below n a w) {g:Nat} (hg:n≤g) (cs:Array Value):Below n a (w.setRow g cs):=
 ⟨h.os,h.tape,h.output,by
  have:=h.size;simpa[World.setRow]using this,fun k hk=>by
  rw[←h.block k hk];simp only[World.setRow];rw[Ydc,Yad (by omega)]⟩
theorem Zgk (L:List Line) (i:Nat):lines L=lines (L.take i)++lines (L.drop i):=by rw[←Zba,Ybh]
theorem Zrl (L:List Line) (l:Line) (i:Nat):lines (insB L i l)=lines (L.take i)++l.cells++lines (L.drop i):=by
 unfold insB;rw[Zba,show l::L.drop i= [l]++L.drop i from rfl,Zba,Zna,Ybm]
theorem Zqe {cur:List Value} {L:List Line} {i:Nat} (hi:i≤L.length) (h:cur.take (L.length*3)=lines L):cur.take (i*3)=lines (L.take i):=by
 have h2:(lines (L.take i)).length=i*3:=by rw[Zad,Yaf,Ybb hi]
 have e2:cur.take (i*3)=(cur.take (L.length*3)).take (i*3):=by rw[Yct,Ybb (by omega)]
 rw[e2,h,Zgk L i,Ydt h2]
theorem Zahz (L:List Line) (l:Line) (i:Nat) (hi:i≤L.length) (cur:List Value) (h:cur.take (i*3)=lines (L.take i)) (hc:(L.length+1)*3≤cur.length):
 (segs (segs cur ((i+1)*3) (lines (L.drop i))) (i*3) l.cells).take ((L.length+1)*3)=lines (insB L i l):=by
 have h1:(lines (L.drop i)).length=(L.length-i)*3:=by rw[Zad,Yam]
 have h4:((segs cur ((i+1)*3) (lines (L.drop i))).take (i*3))=lines (L.take i):=by
  unfold segs;rw[Ybm,Ycf (by rw[Yaf];omega),Yct,Ybb (by omega),h]
 have h5:(segs cur ((i+1)*3) (lines (L.drop i))).drop (i*3+l.cells.length)=lines (L.drop i)++cur.drop ((i+1)*3+(lines (L.drop i)).length):=by
  have e:(cur.take ((i+1)*3)).length=i*3+l.cells.length:=by
   rw[Yaf];show _=i*3+3;omega
  unfold segs;rw[Ybm,List.drop_left' e]
 have h7:segs (segs cur ((i+1)*3) (lines (L.drop i))) (i*3) l.cells=lines (insB L i l)++cur.drop ((i+1)*3+(lines (L.drop i)).length):=by
  rw[show segs (segs cur ((i+1)*3) (lines (L.drop i))) (i*3) l.cells=(segs cur ((i+1)*3) (lines (L.drop i))).take (i*3)++l.cells++(segs cur ((i+1)*3) (lines (L.drop i))).drop (i*3+l.cells.length)from rfl];rw[h4,h5,Zrl];simp only[Ybm]
 rw[h7,Ydt];rw[Zad,Zit]
theorem Zahy (L:List Line) (l:Line) (i:Nat) (hi:i≤L.length) (cur:List Value) (h:cur.take (i*3)=lines (L.take i)):
 (segs (segs cur (i*3) l.cells) ((i+1)*3) (lines (L.drop i))).take ((L.length+1)*3)=lines (insB L i l):=by
 have h2:(lines (L.take i)).length=i*3:=by rw[Zad,Yaf,Ybb hi]
 have h4:(segs cur (i*3) l.cells).take ((i+1)*3)=lines (L.take i)++l.cells:=by
  unfold segs;rw[h,Ydt];rw[Yak,h2];show i*3+3=_;omega
 have h7: ∃ r,segs (segs cur (i*3) l.cells) ((i+1)*3) (lines (L.drop i))=lines (insB L i l)++r:=by
  refine⟨(segs cur (i*3) l.cells).drop ((i+1)*3+(lines (L.drop i)).length), ?_⟩;rw[show segs (segs cur (i*3) l.cells) ((i+1)*3) (lines (L.drop i))=(segs cur (i*3) l.cells).take ((i+1)*3)++lines (L.drop i)++(segs cur (i*3) l.cells).drop ((i+1)*3+(lines (L.drop i)).length)from rfl];rw[h4,Zrl]
 obtain⟨r,h7⟩:=h7;rw[h7,Ydt];rw[Zad,Zit]
theorem Zzf (w:World):(Go.sizeOf 62).run prog w= .ok 3 w:=by
 obtain⟨i0,hii,hz0,hz1,hz2⟩:=info_parts Zhg;simp[sizeOf,typeInfo,hii,hz1]
theorem Zgw:(prog.info? 62).map (·.size)=some 3:=by
 obtain⟨i0,hii,hz0,hz1,hz2⟩:=info_parts Zhg;rw[hii];simp[hz1]
theorem Zabg (w0 w:World) (g n c i vb vc:Nat) (cur:Array Value) (T:TypeId) (L:List Line) (l:Line) (hb:Below w0.heap.size w0 w) (hg:w0.heap.size≤g) (hh:w.heap[g]?=some (.cells cur 62 (0,0))) (hn:L.length=n) (hi:i<n) (hroom:n+1≤c) (hcm:c≤maxLen) (hsz:cur.size=c*3) (ht:cur.toList.take (n*3)=lines L)
 (hv:w.heap[vb]?=some (.cells #[.int .i64 l.depth, .string l.word, .int .i64 l.mark] T (0,0))) (hne:vb≠g):
 Calls prog 94 #[.slice (some ⟨g,0,none⟩) n c, .int .i64 i, .slice (some ⟨vb,0,none⟩) 1 vc] w fun e w'=>
  (∃ v',e= .returned v'∧w'.ownsRow w0.heap.size 62 3 v' (n+1) (lines (insB L i l)))∧Below w0.heap.size w0 w':=by
 have hc63:c≤9223372036854775807:=by unfold maxLen at hcm;omega
 have hcl:(lines (L.drop i)).length=(n-i)*3:=by rw[Zad,Yam,hn]
 have hcur:cur.toList.length=c*3:=by rw[←hsz];simp
 have hpre:cur.toList.take (i*3)=lines (L.take i):=Zqe (by omega) (by rw[hn];exact ht)
 have hat: ∀ j v,(lines (L.drop i))[j]?=some v→w.cell? ((⟨g,i*3,none⟩:Addr).add j)=some v:=fun j v hj=>by
  rw[Zag,cell_of_row w g _ cur _ (0,0) hh];have hjl:j<(n-i)*3:=by rw[←hcl];exact(Yba.1 hj).1
  have h1:(lines L)[i*3+j]?=some v:=by
   rw[Zgk L i,Ybi (by rw[Zad,Yaf,hn];omega),Zad,Yaf,hn,Ybb (by omega),Ydw]
   exact hj
  rw[←ht,Ycp]at h1;split at h1
  · simpa using h1
  · cases h1
 have hov: ∀ lb cb,(callFunc 127 #[.slice (some ⟨vb,0,none⟩) 1 vc, .slice (some ⟨g,(i+1)*3,none⟩) lb cb]).run prog w= .ok (.value (.bool false)) w:=fun lb cb=>by
  rw[run_callFunc_extern func127 (by kernel_rfl) (by kernel_rfl) (by kernel_rfl) (e:=Extern.SlicesOverlaps.overlaps #[26,26] #[4]) (by kernel_rfl),
   Lib.run_overlaps_apart w 26 4 62 underlying26 3 Zzf ⟨vb,0,none⟩ ⟨g,(i+1)*3,none⟩ 1 vc lb cb hne T 62 3 cur.size (by simp[World.shape?,hv]) (by simp[World.shape?,hh]) (by omega) (by simp[World.frozen?,hv]) (by simp[World.frozen?,hv])]
  rfl
 obtain⟨cur1,hcur1⟩: ∃ cur1,(segs cur.toList ((i+1)*3) (lines (L.drop i))).toArray=cur1:=⟨_,rfl⟩;have hl1:cur1.toList.length=c*3:=by
  rw[←hcur1];show(segs _ _ _).length=_;rw[Zha (by rw[hcl,hcur];omega),hcur]
 obtain⟨w1,hw1⟩: ∃ w1,w.drew.setRow g cur1=w1:=⟨_,rfl⟩;have hh1:w1.heap[g]?=some (.cells cur1 62 (0,0)):=by rw[←hw1];exact setRow_heap w.drew g cur cur1 _ _ hh
 have hcp1: ∀ ty dc sc,(Builtin.copy_ #[26,26] ty #[.slice (some ⟨g,(i+1)*3,none⟩) (n-i) dc, .slice (some ⟨g,i*3,none⟩) (n+1-i) sc]).run prog w.drew= .ok (goInt ((n-i:Nat):Int)) w1:=fun ty dc sc=>by
  have:=Zcm 3 w.drew 26 26 ty 62 g ((i+1)*3) (n-i) dc ⟨g,i*3,none⟩ (n+1-i) sc cur 62 (lines (L.drop i)) underlying26 Zgw hh (by rw[hcl];congr 1;simp only[Ydp];split<;>omega) hat (by rw[hcl,hsz];omega) (Ziu _)
  rw[this,show Nat.min (n+1-i) (n-i)=n-i by simp only[Ydp];split<;>omega,←hw1,←hcur1]
  rfl
 have hvb1:w1.heap[vb]?=some (.cells #[.int .i64 l.depth, .string l.word, .int .i64 l.mark] T (0,0)):=by
  rw[←hw1,←hv];simp only[World.setRow];rw[Ydc,Yad (fun e=>hne e.symm)]
  rfl
 have hcp2: ∀ ty dc,(Builtin.copy_ #[26,26] ty #[.slice (some ⟨g,i*3,none⟩) (n+1-i) dc, .slice (some ⟨vb,0,none⟩) 1 vc]).run prog w1= .ok (goInt 1) (w1.setRow g (segs cur1.toList (i*3) l.cells).toArray):=fun ty dc=>by
  have:=Zcm 3 w1 26 26 ty 62 g (i*3) (n+1-i) dc ⟨vb,0,none⟩ 1 vc cur1 62 l.cells underlying26 Zgw hh1 (by rw[show Nat.min 1 (n+1-i)=1 by simp only[Ydp];split<;>omega];rfl)
   (fun j v hj=>by rw[Zag,cell_of_row w1 vb _ _ _ (0,0) hvb1,Ybj,Ydd];exact hj) (by rw[←Yav,hl1];show i*3+3≤_;omega) (cells_one _)
  rw[this,show Nat.min 1 (n+1-i)=1 by simp only[Ydp];split<;>omega]
  rfl
 obtain⟨w2,hw2⟩: ∃ w2,w1.setRow g (segs cur1.toList (i*3) l.cells).toArray=w2:=⟨_,rfl⟩;rw[hw2]at hcp2
 have hB:Hid (Below w0.heap.size w0 w2):=by
  show Below _ _ _;rw[←hw2,←hw1];exact Zcz (Zcz hb.drew hg _) hg _
 have hO:Hid (w2.ownsRow w0.heap.size 62 3 (.slice (some ⟨g,0,none⟩) (n+1) c) (n+1) (lines (insB L i l))):=by
  refine⟨by rw[Zad,Zit,hn], .inr ⟨g,c,(segs cur1.toList (i*3) l.cells).toArray,rfl,hg, ?_,hroom,hcm, ?_, ?_⟩⟩
  · rw[←hw2];exact setRow_heap w1 g cur1 _ _ _ hh1
  · rw[←Yav];show(segs _ _ _).length=_;rw[Zha (by rw[hl1];show i*3+3≤_;omega),hl1]
  · show(segs cur1.toList (i*3) l.cells).take _=_;rw[←hcur1,←hn];exact Zahz L l i (by omega) cur.toList hpre (by rw[hcur,hn];omega)
 have hz2: ¬ ((i:Int)=(n:Int)):=by omega
 have hw1':IntKind.i64.wrap ((i:Int)+1)=(i:Int)+1:=by rw[IntKind.wrap_i64];omega
 have hz3: ¬ ((c:Int)<(n:Int)+1):=by omega
 have hb1:(0:Int)≤(i:Int)+1:=by omega
 have hin:i≤n:=by omega
 have hb2: ¬ (c=i+1):=by omega
 have hb3:(i:Int)≤(n:Int)+1:=by omega
 have hb4: ¬ (c=i):=by omega
 clear hcl hcur hpre hat hcur1 hl1 hw1 hh1 hvb1 hw2 ht hh hv hb hsz;have mixed:prog.follows .mixedOrders=true:=by kernel_rfl
 go_enter func94,ntmps94;go_wp2_with (simp only[hov]);go_region_law_o (refine step_copy_runI rfl _ _ 26 26 rfl _ _ (by simp[Act.eval,Act.put]) (by simp[Act.eval,Act.put]) (hcp1 _ _ _) ?_)
 go_wp2_with (at_builtin;refine wpList_copy_runI _ rfl _ _ 26 26 rfl _ _ rfl rfl (hcp2 _ _) ?_);go_ret;exact⟨⟨_,rfl,hO.out⟩,hB.out⟩
theorem Zlj (k:Nat):(Builtin.zeroCells (Value.agg #[.int .i64 0, .string ⟨#[]⟩, .int .i64 0]).cells k).size=k*3:=by
 simp[Builtin.zeroCells,Value.cells]
theorem Zabf (w0 w:World) (g n c i vb vc:Nat) (cur:Array Value) (T:TypeId) (L:List Line) (l:Line) (hb:Below w0.heap.size w0 w) (hh:w.heap[g]?=some (.cells cur 62 (0,0))) (hn:L.length=n) (hn9:n≤1000000) (hi:i<n) (hnc:n≤c) (hroom:c<n+1) (hsz:cur.size=c*3) (ht:cur.toList.take (n*3)=lines L)
 (hv:w.heap[vb]?=some (.cells #[.int .i64 l.depth, .string l.word, .int .i64 l.mark] T (0,0))):
 Calls prog 94 #[.slice (some ⟨g,0,none⟩) n c, .int .i64 i, .slice (some ⟨vb,0,none⟩) 1 vc] w fun e w'=>
  (∃ v',e= .returned v'∧w'.ownsRow w0.heap.size 62 3 v' (n+1) (lines (insB L i l)))∧Below w0.heap.size w0 w':=by
 obtain⟨i0,hii,hz0,hzs,hzb⟩:=info_parts Zhg;have hcl:(lines (L.drop i)).length=(n-i)*3:=by rw[Zad,Yam,hn]
 have hct:(lines (L.take i)).length=i*3:=by rw[Zad,Yaf,hn,Ybb (by omega)]
 have hcur:cur.toList.length=c*3:=by rw[←hsz];simp
 have hpre:cur.toList.take (i*3)=lines (L.take i):=Zqe (by omega) (by rw[hn];exact ht)
 have hgw:g<w.heap.size:=(Ybc.1 hh).1;have hvw:vb<w.heap.size:=(Ybc.1 hv).1
 have hold:(Builtin.firstCells i0.size i (.slice (some ⟨g,0,none⟩) i c)).run prog w.drew= .ok (lines (L.take i)).toArray w.drew:=by
  rw[hzs]
  exact run_firstCells_some w.drew 3 i ⟨g,0,none⟩ i c (lines (L.take i)) hct (fun j v hj=>by
   rw[Zag,Ybj];show w.cell? _=_;rw[cell_of_row w g _ cur _ (0,0) hh];rw[←hpre,Ycp]at hj;split at hj
   · simpa using hj
   · cases hj)
 have hkk:(n:Int)+1-(i:Int)=((n+1-i:Nat):Int):=by omega
 have hik:i+(n+1-i)=n+1:=by omega
 have hrz: ∀ ty,(Builtin.append_ #[26,3] ty #[.slice (some ⟨g,0,none⟩) i c, .int .i64 ((n:Int)+1-(i:Int))]).run prog w=
  .ok (.slice (some ⟨w.heap.size,0,none⟩) (n+1) (grownCap w (n+1) c 62)) (w.drew.alloc (.cells ((lines (L.take i)).toArray++Builtin.zeroCells (Value.agg #[.int .i64 0, .string ⟨#[]⟩, .int .i64 0]).cells (n+1-i)++Builtin.zeroCells (Value.agg #[.int .i64 0, .string ⟨#[]⟩, .int .i64 0]).cells (grownCap w (n+1) c 62-(n+1))) 62)):=fun ty=>by
  have h:=Lib.run_append_grow_zeros w 26 3 ty 62 i0 _ .i64 .i64 underlying26 underlying3 hii hz0 (some ⟨g,0,none⟩) i c (lines (L.take i)) hold (n+1-i) (by omega) (by omega) (by omega) (by omega) (by rw[hzb];omega) (by rw[hzb,hik];exact growslice_fits hroom (by omega))
  rw[hik]at h;rw[hkk];exact h
 obtain⟨G,hG⟩: ∃ G,G=grownCap w (n+1) c 62:=⟨_,rfl⟩;have hGn:n+1≤G:=by rw[hG];exact grownCap_ge w _ _ _
 have hGm:G≤maxLen:=by rw[hG];exact grownCap_le_maxLen w (n+1) c 62 (by unfold maxLen;omega)
 rw[←hG]at hrz;obtain⟨ROW,hROW⟩: ∃ ROW:Array Value,ROW=(lines (L.take i)).toArray++Builtin.zeroCells (Value.agg #[.int .i64 0, .string ⟨#[]⟩, .int .i64 0]).cells (n+1-i)++Builtin.zeroCells (Value.agg #[.int .i64 0, .string ⟨#[]⟩, .int .i64 0]).cells (G-(n+1)):=⟨_,rfl⟩;rw[←hROW]at hrz;have hRs:ROW.size=G*3:=by
  rw[hROW,Array.size_append,Array.size_append,Zlj,Zlj,Yee,hct];omega
 have hRl:ROW.toList.length=G*3:=by rw[←hRs];simp
 have hRt:ROW.toList.take (i*3)=lines (L.take i):=by
  rw[hROW,Array.toList_append,Array.toList_append,Ybm,←hct];exact List.take_left
 obtain⟨W1,hW1⟩: ∃ W1,w.drew.alloc (.cells ROW 62)=W1:=⟨_,rfl⟩;rw[hW1]at hrz;obtain⟨N,hN⟩: ∃ N,w.heap.size=N:=⟨_,rfl⟩;have hh1:W1.heap[N]?=some (.cells ROW 62 (0,0)):=by rw[←hW1,←hN];exact heap_alloc_new w.drew _
 have hvb1:W1.heap[vb]?=some (.cells #[.int .i64 l.depth, .string l.word, .int .i64 l.mark] T (0,0)):=by
  rw[←hW1,heap_alloc_old (r:=vb) w.drew _ hvw];exact hv
 have hg1:W1.heap[g]?=some (.cells cur 62 (0,0)):=by
  rw[←hW1,heap_alloc_old (r:=g) w.drew _ hgw];exact hh
 obtain⟨w2,hw2⟩: ∃ w2,W1.setRow N (segs ROW.toList (i*3) l.cells).toArray=w2:=⟨_,rfl⟩;have hl1:(segs ROW.toList (i*3) l.cells).length=G*3:=by rw[Zha (by rw[hRl];show i*3+3≤_;omega),hRl]
 have hcpA: ∀ ty dc,(Builtin.copy_ #[26,26] ty #[.slice (some ⟨N,i*3,none⟩) (n+1-i) dc, .slice (some ⟨vb,0,none⟩) 1 vc]).run prog W1= .ok (goInt 1) w2:=fun ty dc=>by
  have:=Zcm 3 W1 26 26 ty 62 N (i*3) (n+1-i) dc ⟨vb,0,none⟩ 1 vc ROW 62 l.cells underlying26 Zgw hh1 (by rw[show Nat.min 1 (n+1-i)=1 by simp only[Ydp];split<;>omega];rfl)
   (fun j v hj=>by rw[Zag,cell_of_row W1 vb _ _ _ (0,0) hvb1,Ybj,Ydd];exact hj) (by rw[hRs];show i*3+3≤_;omega) (cells_one _)
  rw[this,show Nat.min 1 (n+1-i)=1 by simp only[Ydp];split<;>omega,←hw2]
  rfl
 have hNg:N≠g:=by omega
 have hh2:w2.heap[N]?=some (.cells (segs ROW.toList (i*3) l.cells).toArray 62 (0,0)):=by rw[←hw2];exact setRow_heap W1 N ROW _ _ _ hh1
 have hg2:w2.heap[g]?=some (.cells cur 62 (0,0)):=by
  rw[←hw2,←hg1];simp only[World.setRow];rw[Ydc,Yad hNg]
 have hat: ∀ j v,(lines (L.drop i))[j]?=some v→w2.drew.cell? ((⟨g,i*3,none⟩:Addr).add j)=some v:=fun j v hj=>by
  rw[Zag];show w2.cell? _=_;rw[cell_of_row w2 g _ cur _ (0,0) hg2];have hjl:j<(n-i)*3:=by rw[←hcl];exact(Yba.1 hj).1
  have h1:(lines L)[i*3+j]?=some v:=by
   rw[Zgk L i,Ybi (by rw[hct];omega),hct,Ydw]
   exact hj
  rw[←ht,Ycp]at h1;split at h1
  · simpa using h1
  · cases h1
 obtain⟨w3,hw3⟩: ∃ w3,w2.drew.setRow N (segs (segs ROW.toList (i*3) l.cells) ((i+1)*3) (lines (L.drop i))).toArray=w3:=⟨_,rfl⟩
 have hcpB: ∀ ty dc sc,(Builtin.copy_ #[26,26] ty #[.slice (some ⟨N,(i+1)*3,none⟩) (n-i) dc, .slice (some ⟨g,i*3,none⟩) (n-i) sc]).run prog w2.drew= .ok (goInt ((n-i:Nat):Int)) w3:=fun ty dc sc=>by
  have:=Zcm 3 w2.drew 26 26 ty 62 N ((i+1)*3) (n-i) dc ⟨g,i*3,none⟩ (n-i) sc (segs ROW.toList (i*3) l.cells).toArray 62 (lines (L.drop i)) underlying26 Zgw hh2 (by rw[hcl];congr 1;simp) hat (by rw[hcl,Yee,hl1];omega) (Ziu _)
  rw[this,show Nat.min (n-i) (n-i)=n-i by simp,←hw3]
  rfl
 have hB1:Below w0.heap.size w0 W1:=by rw[←hW1];exact hb.drew.alloc hb.drew.size _
 have hN0:w0.heap.size≤N:=by rw[←hN];exact hb.size
 have hB:Hid (Below w0.heap.size w0 w3):=by
  show Below _ _ _;rw[←hw3];refine Zcz (Below.drew ?_) hN0 _;rw[←hw2];exact Zcz hB1 hN0 _
 have hO:Hid (w3.ownsRow w0.heap.size 62 3 (.slice (some ⟨N,0,none⟩) (n+1) G) (n+1) (lines (insB L i l))):=by
  refine⟨by rw[Zad,Zit,hn], .inr ⟨N,G,(segs (segs ROW.toList (i*3) l.cells) ((i+1)*3) (lines (L.drop i))).toArray,rfl,hN0, ?_,hGn,hGm, ?_, ?_⟩⟩
  · rw[←hw3];exact setRow_heap w2.drew N _ _ _ _ hh2
  · rw[Yee,Zha (by rw[hl1,hcl];omega),hl1]
  · show(segs _ _ _).take _=_;rw[←hn];exact Zahy L l i (by omega) ROW.toList hRt
 rw[hN]at hrz;have hz2: ¬ ((i:Int)=(n:Int)):=by omega
 have hw1':IntKind.i64.wrap ((i:Int)+1)=(i:Int)+1:=by rw[IntKind.wrap_i64];omega
 have hz3:(c:Int)<(n:Int)+1:=by omega
 have hb1:(0:Int)≤(i:Int)+1:=by omega
 have hin:i≤n:=by omega
 have hG63:G≤9223372036854775807:=by unfold maxLen at hGm;omega
 have hGi: ¬ (G=i):=by omega
 have hGim: ¬ (G=i+1):=by omega
 have hci: ¬ (c=i):=by omega
 have hb3:(i:Int)≤(n:Int):=by omega
 clear hkk hik hold hROW hG hRl hRs hRt hW1 hN hh1 hvb1 hg1 hw2 hl1 hh2 hg2 hat hw3 hB1 hN0 hcl hct hcur hpre hgw hvw ht hh hv hb hsz;have mixed:prog.follows .mixedOrders=true:=by kernel_rfl
 go_enter func94,ntmps94;go_wp2_with (first|(at_builtin;refine Lib.wpList_append_run _ rfl _ _ _ _ rfl _ _ rfl rfl _ _ (hrz _) ?_)|(at_builtin;refine wpList_copy_runI _ rfl _ _ 26 26 rfl _ _ rfl rfl (hcpA _ _) ?_))
 go_region_law_o (refine step_copy_runI rfl _ _ 26 26 rfl _ _ (by simp[Act.eval,Act.put]) (by simp[Act.eval,Act.put]) (hcpB _ _ _) ?_)
 go_wp2;go_ret;exact⟨⟨_,rfl,hO.out⟩,hB.out⟩
theorem Zaqx (L:List Line) (l:Line):lines (insB L L.length l)=lines L++l.cells:=by
 rw[Zrl,Ybz,Ydi];show lines L++l.cells++ []=_;rw[Ybg]
theorem Zagz (w0 w:World) (v:Value) (n vb vc:Nat) (T:TypeId) (L:List Line) (l:Line) (hb:Below w0.heap.size w0 w) (hown:w.ownsRow w0.heap.size 62 3 v n (lines L)) (hn:L.length=n) (hn9:n≤1000000)
 (hv:w.heap[vb]?=some (.cells #[.int .i64 l.depth, .string l.word, .int .i64 l.mark] T (0,0))):
 Calls prog 94 #[v, .int .i64 n, .slice (some ⟨vb,0,none⟩) 1 vc] w fun e w'=>
  (∃ v',e= .returned v'∧w'.ownsRow w0.heap.size 62 3 v' (n+1) (lines (insB L n l)))∧Below w0.heap.size w0 w':=by
 obtain⟨i0,hii,hz0,hz1,hz2⟩:=info_parts Zhg;have HO:=Zhd hown;have HB:=Zhd hb
 have HV:Hid (∀ j u,l.cells[j]?=some u→w.cell? ((⟨vb,0,none⟩:Addr).add j)=some u):=fun j u hj=>by
  rw[Zag,cell_of_row w vb _ _ _ (0,0) hv,Ybj,Ydd];exact hj
 have HIL:Hid (lines (insB L n l)=lines L++l.cells):=by show _=_;rw[←hn];exact Zaqx L l
 have hN:(n+1)*32≤140737488355328:=by omega
 have hM:n+1≤maxLen:=by unfold maxLen;omega
 have HF:=hown.2;have HLT:Hid (∀ q,v.ownBlock=some q→w0.heap.size≤q):=fun q hq=>(hown.lt q hq).1
 clear hown hb hv hn;rcases HF with⟨rfl,rfl⟩|⟨g,c,cur,rfl,-,-,hnc,hcm,-,-⟩
 · go_enter func94,ntmps94;go_wp2_with (at_builtin;refine wpList_append_own _ rfl _ _ 26 rfl w0.heap.size 62 i0 _ 3 32 underlying26 hii hz0 hz1 hz2 rfl (by decide) _ 0 (lines L) rfl HO.out ⟨vb,0,none⟩ 1 vc l.cells rfl rfl HV.out (cells_one _) hM hN HB.out.size ?_;intro v' w' hown' hg _)
   go_ret;exact⟨⟨_,rfl,by rw[HIL.out];exact hown'⟩,HB.out.grown hg HB.out.size fun q hq=>HLT.out q hq⟩
 · have hc63:c≤9223372036854775807:=by unfold maxLen at hcm;omega
   go_enter func94,ntmps94;go_wp2_with (at_builtin;refine wpList_append_own _ rfl _ _ 26 rfl w0.heap.size 62 i0 _ 3 32 underlying26 hii hz0 hz1 hz2 rfl (by decide) _ n (lines L) rfl HO.out ⟨vb,0,none⟩ 1 vc l.cells rfl rfl HV.out (cells_one _) hM hN HB.out.size ?_;intro v' w' hown' hg _)
   all_goals
    go_ret;exact⟨⟨_,rfl,by rw[HIL.out];exact hown'⟩,HB.out.grown hg HB.out.size fun q hq=>HLT.out q hq⟩
theorem Zfz (w0 w:World) (v:Value) (i vb vc:Nat) (T:TypeId) (L:List Line) (l:Line) (hb:Below w0.heap.size w0 w) (hown:w.ownsRow w0.heap.size 62 3 v L.length (lines L)) (hi:i≤L.length) (hn9:L.length≤1000000)
 (hv:w.heap[vb]?=some (.cells #[.int .i64 l.depth, .string l.word, .int .i64 l.mark] T (0,0))) (hne:v.ownBlock≠some vb):
 Calls prog 94 #[v, .int .i64 i, .slice (some ⟨vb,0,none⟩) 1 vc] w fun e w'=>
  (∃ v',e= .returned v'∧w'.ownsRow w0.heap.size 62 3 v' (insB L i l).length (lines (insB L i l)))∧Below w0.heap.size w0 w':=by
 rw[Zit];by_cases hie:i=L.length
 · subst hie;exact Zagz w0 w v _ vb vc T L l hb hown rfl hn9 hv
 · rcases hown.2 with⟨rfl,h0⟩|⟨g,c,cur,rfl,hg,hh,hnc,hcm,hsz,ht⟩
   · omega
   · have hne2:vb≠g:=fun e=>hne (by rw[e];rfl)
     by_cases hr:L.length+1≤c
     · exact Zabg w0 w g _ c i vb vc cur T L l hb hg hh rfl (by omega) hr hcm hsz ht hv hne2
     · exact Zabf w0 w g _ c i vb vc cur T L l hb hh rfl hn9 (by omega) hnc (by omega) hsz ht hv
end Go.Proofs.Zq
