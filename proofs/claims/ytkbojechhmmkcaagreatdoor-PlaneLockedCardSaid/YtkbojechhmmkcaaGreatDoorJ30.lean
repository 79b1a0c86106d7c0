import Derived.Test.YtkbojechhmmkcaaGreatDoorJ29
set_option linter.unusedVariables false
set_option linter.unusedSimpArgs false
namespace Edt
open Go Go.Lib Tre Sch Lns
theorem Zaua {X:List Line} (hr:Zab X=true) {q:List ByteArray} {l:Line} (h:(q,l)∈(Zaf X).zip X):stB X q=l.mark:=by
 obtain⟨k,hk,e⟩:=Ybo h;rw[List.length_zip,Zae,Nat.min_self]at hk;rw[List.getElem_zip]at e;injection e with e1 e2
 refine Zsn hr (k:=k) ?_ ?_
 · rw[Yaj (by rw[Zae];exact hk),e1]
 · rw[Yaj hk,e2]
theorem Zaxc {X:List Line} {q:List ByteArray} (h:q∈Zaf X): ∃ l,(q,l)∈(Zaf X).zip X:=by
 obtain⟨k,hk,rfl⟩:=Ybo h;have hk2:k<X.length:=by rw[Zae]at hk;exact hk
 refine⟨X[k], ?_⟩;rw[Yez];exact⟨k,by rw[List.length_zip,Zae,Nat.min_self];exact hk2,by rw[List.getElem_zip]⟩
theorem Zaxb {α β:Type} (A:List α) (B:List β) (m:Nat) (h:A.length=B.length):A.zip B=(A.take m).zip (B.take m)++(A.drop m).zip (B.drop m):=by
 rw[←List.zip_append (by simp[h]),Ybh,Ybh]
theorem Zabv {L:List Line} (hr:Zab L=true):(Zaf L).Nodup:=by
 refine Ydn.2 ((Zcx hr).1.1.imp fun {a b} h e=> ?_)
 rw[e]at h;exact Zbz _ h
theorem Zup {P:List ByteArray} (hP:Zem P=true) (h16:P.length≤16): ∀ (f d:Nat) (out M:List Line),d+f=P.length→Zab out=true→(d=0∨P.take d∈Zaf out)→Zdq P f d out=some M→
 Zab M=true∧(∀ q,q∈Zaf out→stB M q=stB out q)∧ ∀ q,¬ q∈Zaf out→stB M q≤0
 | 0,d,out,M,hd,hr,_,h=>by
   unfold Zdq at h;injection h with h
   subst h;exact⟨hr,fun _ _=>rfl,fun q hq=>by rw[Zee hr hq];decide⟩
 | f + 1,d,out,M,hd,hr,hU,h=>by
   unfold Zdq at h;cases hf:Zar out (P.take (d+1))with
   | some k=>
     rw[hf,Yan (show(some k).isSome=true from rfl)]at h;exact Zup hP h16 f (d+1) out M (by omega) hr (.inr ((Zft hr).1 (by rw[hf];rfl))) h
   | none=>
     rw[hf,Yad (show ¬ (none:Option Nat).isSome=true by simp)]at h
     by_cases hl:200≤out.length
     · rw[Yan hl]at h;cases h
     · rw[Yad hl]at h;have hU2:P.take d= []∨P.take d∈Zaf out:=hU.imp (fun e=>by rw[e];rfl) id
       have htp:P.take (d+1)=P.take d++ [wAt P d]:=Zss (by omega)
       have hn: ¬ P.take d++ [wAt P d]∈Zaf out:=by
        rw[←htp];intro h;have:=(Zft hr).2 h;rw[hf]at this;cases this
       have hl2:(P.take d).length=d:=by rw[Yaf];omega
       have g:=Zaxv hr (s:=wAt P d) (m:=0) hU2 hn (by omega) (Zqg hP (by omega)) (by omega) ⟨by omega,by omega⟩
       rw[hl2]at g
       have hin:P.take (d+1)∈Zaf (insB out (Zbr out (P.take d) (wAt P d)) ⟨d,wAt P d,0⟩):=by
        rw[Zda g.1,g.2,Yan htp];exact Int.le_refl 0
       obtain⟨k1,k2,k3⟩:=Zup hP h16 f (d+1) _ M (by omega) g.1 (.inr hin) h
       refine⟨k1,fun q hq=> ?_,fun q hq=> ?_⟩
       · have hne: ¬ q=P.take d++ [wAt P d]:=fun e=>hn (e▸hq)
         rw[k2 q (by rw[Zda g.1,g.2,Yad hne];exact(Zda hr).1 hq),g.2,Yad hne]
       · by_cases e:q=P.take d++ [wAt P d]
         · rw[k2 q (by rw[e,←htp];exact hin),g.2,Yan e];exact Int.le_refl 0
         · exact k3 q fun hm=>hq (by rw[Zda hr];rw[Zda g.1,g.2,Yad e]at hm;exact hm)
theorem Zaiu {L M:List Line} {P:List ByteArray} (h:addB L P=(M,0)):Zab L=true∧Zem P=true∧P.length≤16∧P≠ []∧Zab M=true∧ ∀ q,stB M q=if 0≤stB L q then stB L q else if q≠ []∧preB q P=true then 0 else -1:=by
 unfold addB at h;split at h
 · injection h with _ h;exact absurd h (by decide)
 · rename_i h1;split at h
   · injection h with _ h;exact absurd h (by decide)
   · rename_i h2;split at h
     · rename_i M' hM;injection h with h _
       subst h;have hs:Zem P=true:=by
        cases hs:Zem P with
        |true=>rfl
        |false=>exact absurd (.inr hs) h1
       have hr:Zab L=true:=by
        cases hr:Zab L with
        |true=>rfl
        |false=>exact absurd (.inl hr) h1
       obtain⟨g1,g2⟩:=Zkq hs (by omega) P.length 0 L M' (by omega) hr (.inl rfl) hM
       obtain⟨-,k2,k3⟩:=Zup hs (by omega) P.length 0 L M' (by omega) hr (.inl rfl) hM
       refine⟨hr,hs,by omega,fun e=>by rw[e]at hs;exact absurd hs (by decide),g1,fun q=> ?_⟩
       by_cases hq:q∈Zaf L
       · rw[Yan ((Zda hr).1 hq),k2 q hq]
       · rw [Yad fun h=>hq ((Zda hr).2 h)]
         by_cases hp:q≠ []∧preB q P=true
         · rw[Yan hp];obtain⟨s,es⟩:=Zbh.1 hp.2;have hm:q∈Zaf M':=(g2 q).2 (.inr ⟨q.length,Ycw.2 hp.1,by rw[es];simp,by rw[es];simp⟩)
           have a:=(Zda g1).1 hm;have b:=k3 q hq;omega
         · rw[Yad hp];refine Zee g1 fun hm=> ?_
           rcases(g2 q).1 hm with h|⟨j,j1,j2,e⟩
           · exact hq h
           · refine hp ⟨fun e2=> ?_,Zbh.2 ⟨P.drop j,by rw[e,Ybh]⟩⟩
             have:=congrArg List.length e;rw[e2,Yaf]at this;simp at this;omega
     · injection h with _ h;exact absurd h (by decide)
theorem Zafm {L:List Line} {P:List ByteArray} (hr:Zab L=true):Zab (addB L P).1=true:=by
 by_cases h:(addB L P).2=0
 · exact(Zaiu (L:=L) (P:=P) (M:=(addB L P).1) (by rw[←h])).2.2.2.2.1
 · unfold addB at h⊢;split
   · exact hr
   · split
     · exact hr
     · rename_i h1 h2;rw[Yad h1,Yad h2]at h;split
       · rename_i M hM;rw[hM]at h;exact absurd rfl h
       · exact hr
theorem Zanp {L:List Line} {P:List ByteArray} (hr:Zab L=true):Zab (setB L P).1=true:=by
 unfold setB;split
 · exact hr
 · split
   · exact hr
   · exact Zafm hr
theorem Zaka {L:List Line} {P:List ByteArray} (hr:Zab L=true):Zab (delB L P).1=true:=by
 unfold delB;split
 · exact hr
 · split
   · exact hr
   · rename_i k hk;split
     · exact hr
     · exact(Zajq hr (Zek hr hk).1).1
theorem Zafs {m b:Int} (h:0≤m∧m≤3) (hb:b=1∨b=2) (on:Bool):0≤(if on=true then bits .or .i64 m b else bits .andNot .i64 m b)∧(if on=true then bits .or .i64 m b else bits .andNot .i64 m b)≤3:=by
 have hm:m=0∨m=1∨m=2∨m=3:=by omega
 rcases hm with rfl|rfl|rfl|rfl<;>rcases hb with rfl|rfl<;>cases on<;>decide
theorem Zals {l:Line} (h:0≤l.mark∧l.mark≤3) {b:Int} (hb:b=1∨b=2) (on:Bool):0≤(Zyu l b on).mark∧(Zyu l b on).mark≤3:=Zafs h hb on
theorem Ztx {L:List Line} {P:List ByteArray} {b:Int} {on:Bool} (hr:Zab L=true):Zab (Zgr L P b on).1=true:=by
 unfold Zgr;split
 · exact hr
 · rename_i hb;split
   · exact hr
   · split
     · exact hr
     · rename_i k hk;have hkl:=(Zek hr hk).1;split
       · exact hr
       · have hm:=Zals (Zrn hr hkl) (b:=b) (by omega) on
         have:=(Zabk hr hkl hm).1;unfold markB at this;rw[Zau hkl,Zbj hkl]at this;rw[Zdm hkl];exact this
theorem Zahd {L:List Line} (hr:Zab L=true) {k:Nat} (hk:k<L.length) {m:Int} (hm:0≤m∧m≤3):Zaf (markB L k m)=Zaf L:=by
 obtain⟨h1,h2⟩:=Zabk hr hk hm;refine Zns (Zcx h1).1.1 (Zcx hr).1.1 fun q=> ?_
 rw[Zda h1,Zda hr,h2];split
 · rename_i e;rw[e,Ztg hr hk];exact⟨fun _=>(Zrn hr hk).1,fun _=>hm.1⟩
 · exact Iff.rfl
theorem Zagr {K N:List Line} (hK:Zab K=true) (hN:Zab N=true) {i k:Nat} (hi:i<K.length) (hk:k<N.length) (hlen:(pa K i).length=(pa N k).length)
 (hno: ∀ q∈Zaf N,preB (pa N k) q=true→q=pa N k) (h200:N.length+(endB K i-(i+1))≤200):
 Zab (Go.Proofs.Zq.insMB N (k+1) ((Zbw K i).drop 1))=true∧ ∀ q,stB (Go.Proofs.Zq.insMB N (k+1) ((Zbw K i).drop 1)) q=if preB (pa N k) q=true∧q≠pa N k then stB K (pa K i++q.drop (pa N k).length)else stB N q:=by
 obtain⟨ht,hf⟩:=Zcx hN;obtain⟨e1,e2⟩:=Zbc K i hi;obtain⟨n,hn⟩: ∃ n,endB K i=i+1+n:=⟨endB K i-(i+1),by omega⟩
 obtain⟨T,hT⟩: ∃ T,pa N k=T:=⟨_,rfl⟩;obtain⟨P,hP⟩: ∃ P,pa K i=P:=⟨_,rfl⟩;rw[hT]at hlen hno⊢;rw[hP]at hlen⊢;have hTm:T∈Zaf N:=hT▸Zbs.2 ⟨k,hk,rfl⟩
 have hsub: ∀ j,j<n→ ∃ s,s≠ []∧pa K (i+1+j)=P++s:=fun j hj=>by
  obtain⟨s,hs⟩:=(Zdr hK hi (show i+1+j<K.length by omega)).2 ⟨by omega,by omega⟩
  rw[hP]at hs;refine⟨s,fun e=> ?_,hs⟩
  rw[e,Ybg,←hP]at hs;have:=Zael hK (show i+1+j<K.length by omega) hi hs
  omega
 obtain⟨V,hV⟩: ∃ V,(Zbw K i).drop 1=V:=⟨_,rfl⟩;rw[hV];have hVl:V.length=n:=by rw[←hV,Yam,Zia hi];omega
 have hVj: ∀ j (h:j<V.length),∃ h2:i+1+j<K.length,V[j]=K[i+1+j]:=fun j h=>by
  refine⟨by omega, ?_⟩
  have:V[j]?=K[i+1+j]?:=by
   rw[←hV];unfold Zbw;rw[Ydb,Ycp,Yan (by omega),Ydb]
   congr 1;omega
  rw[Yaj h,Yaj (by omega)]at this
  injection this
 obtain⟨S,hS⟩: ∃ S,(List.range n).map (fun j=>T++(pa K (i+1+j)).drop P.length)=S:=⟨_,rfl⟩
 have hSl:S.length=n:=by rw[←hS,Yaz,Yes]
 have hSj: ∀ j (h:j<S.length),S[j]=T++(pa K (i+1+j)).drop P.length:=fun j h=>by subst hS;rw[Ydj,List.getElem_range]
 have hSs: ∀ j (h:j<S.length),∃ s,s≠ []∧pa K (i+1+j)=P++s∧S[j]=T++s:=fun j h=>by
  obtain⟨s,h1,h2⟩:=hsub j (by omega)
  refine⟨s,h1,h2, ?_⟩;rw[hSj j h,h2];simp
 have hSm: ∀ q,q∈S↔ ∃ s,s≠ []∧P++s∈Zaf K∧q=T++s:=fun q=>by
  constructor
  · intro h;obtain⟨j,hj,rfl⟩:=Ybo h;obtain⟨s,h1,h2,h3⟩:=hSs j hj;exact⟨s,h1,h2▸Zbs.2 ⟨_,by omega,rfl⟩,h3⟩
  · rintro⟨s,h1,h2,rfl⟩;obtain⟨m,hm,e⟩:=Zbs.1 h2;obtain⟨g1,g2⟩:=(Zdr hK hi hm).1 ⟨s,by rw[e,hP]⟩
    have hne:m≠i:=fun e'=>by
     rw[e',hP]at e;exact h1 (by simpa using e)
    rw[Yez];refine⟨m-(i+1),by omega, ?_⟩
    rw[hSj,show i+1+(m-(i+1))=m by omega,e];simp
 have hfV:Zfu S V:=Zvo (by omega) fun j h1 h2=>by
  obtain⟨h3,h4⟩:=hVj j h2;obtain⟨s,s1,s2,s3⟩:=hSs j h1;have hd:=(Zac hK).2.1;have g1:=Zei hd (i+1+j) h3;have g2:=Zbt hd h3;have g3:=Zex hK h3;have g4:=Zby hd h3;rw[Zbj h3]at g3;rw[Zau h3]at g2 g4;rw[h4,s3];refine⟨g1.1, ?_, ?_⟩
  · rw[s2,Yak]at g2;rw[Yak];omega
  · rw[←g3,s2,Ybx,Ybx,Ycr,Ycr];cases hs:s.getLast? with
    |none=>exact absurd (List.getLast?_eq_none_iff.1 hs) s1
    |some x=>rfl
 have hlo: ∀ q∈(Zaf N).take (k+1),q=T∨pLt q T:=fun q h=>by
  obtain⟨j,hj,e⟩:=Ybo h;rw[Yaf,Zae]at hj;rw[Ycs,←Zfj (by omega)]at e
  rcases Ybr j k with g|g
  · exact .inr (by rw[←e,←hT];exact Zos hN g hk)
  · exact .inl (by rw[←e,←hT,show j=k by omega])
 have hhi: ∀ q∈(Zaf N).drop (k+1),pLt T q∧ ∀ s,q≠T++s:=fun q h=>by
  obtain⟨j,hj,e⟩:=Ybo h;rw[Yam,Zae]at hj;rw[Ydl,←Zfj (by omega)]at e
  have h1:pLt T q:=by rw[←e,←hT];exact Zos hN (by omega) (by omega)
  refine⟨h1,fun s es=> ?_⟩
  have:=hno q (by rw[←e];exact Zbs.2 ⟨_,by omega,rfl⟩) (Zbh.2 ⟨s,es⟩)
  rw[this]at h1;exact Zbz _ h1
 have hpush: ∀ s:List ByteArray,s≠ []→pLt T (T++s):=fun s h=>by
  cases s with
  |nil=>exact absurd rfl h
  |cons x l=>exact Zld T x l
 have hSq: ∀ q∈S,∃ s,s≠ []∧P++s∈Zaf K∧q=T++s:=fun q h=>(hSm q).1 h
 have hmem: ∀ q,q∈(Zaf N).take (k+1)++S++(Zaf N).drop (k+1)↔q∈Zaf N∨q∈S:=fun q=>by
  rw[Ybl,Ybl]
  conv=>rhs;lhs;rw[←Ybh (k+1) (Zaf N),Ybl]
  constructor
  · rintro((h|h)|h)
    · exact .inl (.inl h)
    · exact .inr h
    · exact .inl (.inr h)
  · rintro((h|h)|h)
    · exact .inl (.inl h)
    · exact .inr h
    · exact .inl (.inr h)
 obtain⟨X,hX⟩: ∃ X,Go.Proofs.Zq.insMB N (k+1) V=X:=⟨_,rfl⟩;have hXe:X=N.take (k+1)++V++N.drop (k+1):=hX.symm
 have hres:Zab X=true∧Zaf X=(Zaf N).take (k+1)++S++(Zaf N).drop (k+1):=by
  rw[hXe];refine Zkd (Zgi (Zgi (Zhr _ hf) hfV) (Zhq _ hf)) ⟨?_,fun q hq=> ?_⟩ ?_
  · rw [Ybm,Yex,Yex];refine⟨ht.1.sublist (List.take_sublist _ _),⟨?_,ht.1.sublist (List.drop_sublist _ _),fun a ha b hb=> ?_⟩,fun a ha b hb=> ?_⟩
    · rw[Yds];intro a b ha hb hab;obtain⟨s,-,s2,s3⟩:=hSs a ha;obtain⟨r,-,r2,r3⟩:=hSs b hb;have h1:=Zos hK (show i+1+a<i+1+b by omega) (show i+1+b<K.length by omega)
      rw[s2,r2,Zfi]at h1;rw[s3,r3,Zfi];exact h1
    · obtain⟨s,-,-,rfl⟩:=hSq a ha;exact beside s (hhi b hb).1 (hhi b hb).2
    · rcases Ybl.1 hb with hb|hb
      · obtain⟨s,s1,-,rfl⟩:=hSq b hb;rcases hlo a ha with e|e
        · rw[e];exact hpush s s1
        · exact Zcb e (hpush s s1)
      · rcases hlo a ha with e|e
        · rw[e];exact(hhi b hb).1
        · exact Zcb e (hhi b hb).1
  · rcases(hmem q).1 hq with h|h
    · obtain⟨h1,h2⟩:=ht.2 q h;exact⟨h1,h2.imp (fun h=>(hmem _).2 (.inl h)) id⟩
    · obtain⟨s,s1,s2,rfl⟩:=hSq q h;refine⟨by simp[s1], .inl ((hmem _).2 ?_)⟩
      rw[Ycn s1];by_cases h0:s.dropLast= []
      · rw[h0,Ybg];exact .inl hTm
      · refine .inr ((hSm _).2 ⟨_,h0, ?_,rfl⟩);rcases((Zcx hK).1.2 _ s2).2 with h|h
        · rwa [Ycn s1]at h
        · rw[Ycn s1]at h;exact absurd (Yel.1 h).2 h0
  · rw[Yak,Yak,Yaf,Yam];omega
 rw[hX]
 have hz:(Zaf X).zip X=((Zaf N).take (k+1)).zip (N.take (k+1))++S.zip V++((Zaf N).drop (k+1)).zip (N.drop (k+1)):=by
  rw[hres.2,hXe,List.zip_append (by simp[Zae,hSl,hVl]),List.zip_append (by simp[Zae])]
 have hzN:=Zaxb (Zaf N) N (k+1) (Zae N);refine⟨hres.1,fun q=> ?_⟩
 by_cases hq:q∈Zaf N∨q∈S
 · obtain⟨l,hl⟩:=Zaxc (X:=X) (q:=q) (by rw[hres.2];exact(hmem q).2 hq)
   rw[Zaua hres.1 hl];rw[hz,Ybl,Ybl]at hl
   have old:(q,l)∈(Zaf N).zip N→l.mark=if preB T q=true∧q≠T then stB K (P++q.drop T.length)else stB N q:=fun h=>by
    rw[Yad fun hh=>hh.2 (hno q (List.of_mem_zip h).1 hh.1),Zaua hN h]
   rcases hl with(hl|hl)|hl
   · exact old (by rw[hzN];exact List.mem_append_left _ hl)
   · obtain⟨j,hj,e⟩:=Ybo hl;rw[List.length_zip]at hj;rw[List.getElem_zip]at e;injection e with e1 e2
     obtain⟨h3,h4⟩:=hVj j (by omega)
     obtain⟨s,s1,s2,s3⟩:=hSs j (by omega)
     rw[s3]at e1;rw[Yan ⟨Zbh.2 ⟨s,e1.symm⟩,fun e=>s1 (by rw[e]at e1;simpa using e1)⟩,←e1,←e2,h4,show P++(T++s).drop T.length=pa K (i+1+j) by rw[s2];simp,Ztg hK h3]
   · exact old (by rw[hzN];exact List.mem_append_right _ hl)
 · rw[Zee hres.1 (by rw[hres.2];exact fun h=>hq ((hmem q).1 h))]
   split
   · rename_i h;obtain⟨h1,h2⟩:=h;obtain⟨s,hs⟩:=Zbh.1 h1;refine(Zee hK fun hm=>hq (.inr ((hSm q).2 ⟨s, ?_, ?_,hs⟩))).symm
     · rintro rfl;rw[Ybg]at hs;exact h2 hs
     · rw[hs]at hm;simpa using hm
   · exact(Zee hN fun h=>hq (.inl h)).symm
theorem Zadp {L K R:List Line} {P:List ByteArray} {s:ByteArray} {i:Nat} (hK:Zab K=true) (hi:i<K.length) (hP:pa K i=P) (hU:P.dropLast= []∨P.dropLast∈Zaf L) (h:Zct L P s (Zbw K i)=(R,0)):
 Zab R=true∧ ∀ q,stB R q=if preB (P.dropLast++ [s]) q=true then stB K (P++q.drop P.length)else stB L q:=by
 have hPne:P≠ []:=by
  have:=Zbt (Zac hK).2.1 hi;rw[hP]at this;intro e;rw[e]at this;simp at this
 have hTl:(P.dropLast++ [s]).length=P.length:=by
  have:=Ycw.2 hPne;rw[Yak,Yci];simp;omega
 unfold Zct at h;obtain⟨T,hT⟩: ∃ T,P.dropLast++ [s]=T:=⟨_,rfl⟩;rw[hT]at h hTl⊢;split at h
 · injection h with _ h;exact absurd h (by decide)
 · rename_i h1;split at h
   · injection h with _ h;exact absurd h (by decide)
   · rename_i h2;split at h
     · rename_i h3;injection h with _ h
       exact absurd h h3
     · rename_i h3;injection h with h _
       have ha:addB L T=((addB L T).1,0):=by rw[←Decidable.not_not.1 h3]
       generalize (addB L T).1=M at *;obtain⟨hL,-,-,hTne,hM,hMs⟩:=Zaiu ha;obtain⟨-,k,hk⟩:=Zqh ha;obtain⟨hkl,hkp⟩:=Zek hM hk;have hTL: ¬ T∈Zaf L:=fun hm=>h1 ((Zft hL).2 hm)
       have hMs2: ∀ q,stB M q=if q=T then 0 else stB L q:=fun q=>by
        rw[hMs];by_cases hq:q=T
        · rw[Yan hq,Yad (by rw[hq,←Zda hL];exact hTL),Yan ⟨by rw[hq];exact hTne,by rw[hq];exact Zbh.2 ⟨[],by simp⟩⟩]
        · rw [Yad hq];by_cases h0:0≤stB L q
          · rw[Yan h0]
          · rw [Yad h0,Yad,(Zayh hL).1 fun hm=>h0 ((Zda hL).1 hm)]
            rintro⟨g1,g2⟩;obtain⟨r,hr⟩:=Zbh.1 g2;by_cases hr0:r= []
            · rw[hr0,Ybg]at hr;exact hq hr.symm
            · have hd:P.dropLast=q++r.dropLast:=by
               have:=congrArg List.dropLast (hT.trans hr)
               rwa [Yed,Ycn hr0]at this
              rcases hU with hU|hU
              · rw[hU]at hd;exact g1 (Yel.1 hd.symm).1
              · rw[hd]at hU;exact h0 ((Zda hL).1 (Zrw hL g1 hU))
       rw[hk]at h;simp only[Yfa]at h
       have hl0:Zdv (Zbw K i) 0=K[i]:=by
        have hp:0<(Zbw K i).length:=by rw[Zia hi];have:=Zbc K i hi;omega
        have e0:(Zbw K i)[0]?=some K[i]:=by
         unfold Zbw;rw[Ycp,Yan (by have:=Zbc K i hi;omega),Ydb,Yef,Yaj hi]
        rw[Zdm hp];rw[Yaj hp]at e0;injection e0
       rw[hl0]at h;have hmk:=Zrn hK hi;obtain⟨g1,g2⟩:=Zabk hM hkl hmk;have g3:=Zahd hM hkl hmk;have hNl:(markB M k K[i].mark).length=M.length:=Zyt _ _ _;generalize markB M k K[i].mark=N at *;have hkN:pa N k=T:=by
        unfold pa;rw[g3];exact hkp
       rw[hkp]at g2
       have hno: ∀ q∈Zaf N,preB (pa N k) q=true→q=pa N k:=fun q hq hp=>by
        rw[hkN]at hp⊢;refine Decidable.byContradiction fun hne=> ?_
        rw[g3,Zda hM,hMs2,Yad hne,←Zda hL]at hq;obtain⟨r,hr⟩:=Zbh.1 hp;rw[hr]at hq;exact hTL (Zrw hL hTne hq)
       have hMl:M.length≤L.length+1:=by
        have:=List.Nodup.length_le_of_subset (Zabv hM) (l₂:=T::Zaf L) fun q hq=>by
         rw[Zda hM,hMs2]at hq;by_cases e:q=T
         · rw[e];exact Yck ..
         · rw[Yad e,←Zda hL]at hq;exact Ych _ hq
        rw[Ybf,Zae,Zae]at this;exact this
       have hpl:=Zia hi;obtain⟨r1,r2⟩:=Zagr hK g1 hi (k:=k) (by omega) (by rw[hkN,hP,hTl]) hno (by have:=Zbc K i hi;omega)
       rw[h]at r1 r2;refine⟨r1,fun q=> ?_⟩
       rw[r2,hkN,hP,hTl];by_cases hp:preB T q=true
       · rw[Yan hp];by_cases e:q=T
         · rw[Yad fun hh=>hh.2 e,g2,Yan e,e,show T.drop P.length= []from Ybe (by omega),Ybg,←hP,Ztg hK hi]
         · rw[Yan ⟨hp,e⟩]
       · rw[Yad hp,Yad fun hh=>hp hh.1]
         have e: ¬ q=T:=fun e=>hp (by rw[e];exact Zbh.2 ⟨[],by simp⟩)
         rw[g2,Yad e,hMs2,Yad e]
theorem up_of {L:List Line} (hr:Zab L=true) {P:List ByteArray} (h:P∈Zaf L):P.dropLast= []∨P.dropLast∈Zaf L:=((Zcx hr).1.2 P h).2.symm
theorem Zauw {L R:List Line} {P:List ByteArray} {s:ByteArray} {k:Nat} (hr:Zab L=true) (hk:Zar L P=some k) (h:Zct L P s (Zbw L k)=(R,0)):
 Zab R=true∧ ∀ q,stB R q=if preB (P.dropLast++ [s]) q=true then stB L (P++q.drop P.length)else stB L q:=by
 obtain⟨h1,h2⟩:=Zek hr hk;exact Zadp hr h1 h2 (up_of hr (Zbs.2 ⟨k,h1,h2⟩)) h
theorem Zayg {L R:List Line} {P:List ByteArray} {s:ByteArray} {k:Nat} (hr:Zab L=true) (hk:Zar L P=some k) (h:Zct (L.take k++L.drop (endB L k)) P s (Zbw L k)=(R,0)):
 Zab R=true∧ ∀ q,stB R q=if preB (P.dropLast++ [s]) q=true then stB L (P++q.drop P.length)else if preB P q=true then -1 else stB L q:=by
 obtain⟨h1,h2⟩:=Zek hr hk;obtain⟨c1,c2⟩:=Zajq hr h1;rw[h2]at c2;have hne:P≠ []:=((Zcx hr).1.2 P (Zbs.2 ⟨k,h1,h2⟩)).1
 have hU:P.dropLast= []∨P.dropLast∈Zaf (cutB L k):=(up_of hr (Zbs.2 ⟨k,h1,h2⟩)).imp id fun h=>by
  rw[Zda c1,c2,Yad,←Zda hr]
  · exact h
  · intro hp;obtain⟨r,e⟩:=Zbh.1 hp;have:=congrArg List.length e;have hp2:=Ycw.2 hne;rw[Yak,Yci]at this;omega
 obtain⟨r1,r2⟩:=Zadp (L:=cutB L k) hr h1 h2 hU h;exact⟨r1,fun q=>by rw[r2,c2]⟩
theorem Zagd {L:List Line} {P:List ByteArray} {s:ByteArray} (hr:Zab L=true) (h:(Zjl L P s).2=0):Zab (Zjl L P s).1=true:=by
 unfold Zjl at h⊢;split
 · exact hr
 · rename_i h1;rw[Yad h1]at h;split
   · exact hr
   · rename_i h2;rw[Yad h2]at h;split
     · exact hr
     · rename_i k hk;rw[hk]at h;simp only at h;split
       · exact hr
       · rename_i h3;rw[Yad h3]at h;exact(Zauw hr hk (R:=(Zct L P s (Zbw L k)).1) (by rw[←h])).1
theorem Zani {L:List Line} {P:List ByteArray} {s:ByteArray} (hr:Zab L=true) (h:(renB L P s).2=0):Zab (renB L P s).1=true:=by
 unfold renB at h⊢;split
 · exact hr
 · rename_i h1;rw[Yad h1]at h;split
   · exact hr
   · rename_i h2;rw[Yad h2]at h;split
     · exact hr
     · rename_i k hk;rw[hk]at h;simp only at h;split
       · exact hr
       · rename_i h3;rw[Yad h3]at h;split
         · exact hr
         · rename_i h4;rw[Yad h4]at h;split
           · exact hr
           · rename_i h5;exact(Zayg hr hk (R:=(Zct (L.take k++L.drop (endB L k)) P s (Zbw L k)).1) (by rw[←Decidable.not_not.1 h5])).1
end Edt
namespace Prs
open Go Go.Lib Go.Sort Go.Proofs Tre Lx Sch
def Zny (t:Tok):Prop:=t.word.size≤40∧(t.kind=5→t.bit=1∨t.bit=2)
theorem Zatl (l:List UInt8):(unqB l).1.length≤40:=by
 unfold unqB;simp only;split
 · exact Yao _
 · split
   · exact Yao _
   · simp only;omega
theorem Zayl (s:List UInt8) (p:Nat):Zny (tokB s p).1:=by
 unfold tokB;split
 · refine⟨Yao _,fun h=> ?_⟩
   simp only at h;unfold Zkn at h;split at h
   · cases h
   · split at h
     · cases h
     · split at h<;>cases h
 · split
   · exact⟨Yao _,fun h=>by cases h⟩
   · simp only;split
     · rename_i hb;refine⟨Yao _,fun _=> ?_⟩
       simp only;unfold bitB at hb⊢;split
       · exact .inl rfl
       · rename_i h1;rw[Yad h1]at hb;split
         · exact .inr rfl
         · rename_i h2;rw[Yad h2]at hb;exact absurd hb (by decide)
     · exact⟨Zatl _,fun h=>by cases h⟩
theorem Zacu (s:List UInt8): ∀ (f p:Nat) (out:List Tok),(∀ t∈out,Zny t)→ ∀ t∈(Zlk s f p out).1,Zny t
 |0,_,_,h=>h
 | f + 1,p,out,h=>by
   unfold Zlk;simp only;split
   · intro t ht;cases ht
   · split
     · exact h
     · split
       · intro t ht;cases ht
       · refine Zacu s f _ _ fun t ht=> ?_
         rcases Ybl.1 ht with ht|ht
         · exact h t ht
         · rw[Ybt]at ht;rw[ht];exact Zayl _ _
theorem Zaxf (s:List UInt8): ∀ t∈(allB s).1,Zny t:=Zacu s _ _ _ fun _ h=>by cases h
theorem Zarz {b m:Int} (h:0≤b∧b≤3) (hm:m=1∨m=2):0≤bits .or .i64 b m∧bits .or .i64 b m≤3:=by
 have hb:b=0∨b=1∨b=2∨b=3:=by omega
 rcases hb with rfl|rfl|rfl|rfl<;>rcases hm with rfl|rfl<;>exact⟨by decide,by decide⟩
theorem Zro: ∀ (l:List Tok) (b mk:Int) (ok:Bool) (l1:List Tok),(∀ t∈l,Zny t)→0≤b∧b≤3→Zcf b l=(mk,ok,l1)→(0≤mk∧mk≤3)∧ ∀ t∈l1,Zny t
 | [],b,mk,ok,l1,ht,hb,h=>by
   unfold Zcf at h;injection h with h1 h;injection h with _ h
   rw[←h1,←h];exact⟨hb,fun t ht=>by cases ht⟩
 | t ::r,b,mk,ok,l1,ht,hb,h=>by
   unfold Zcf at h;split at h
   · rename_i hk;split at h
     · injection h with h1 h;injection h with _ h
       rw[←h1,←h];exact⟨by decide,ht⟩
     · exact Zro r _ mk ok l1 (fun x hx=>ht x (Ych _ hx)) (Zarz hb ((ht t (Yck ..)).2 hk)) h
   · injection h with h1 h;injection h with _ h
     rw[←h1,←h];exact⟨hb,ht⟩
structure Fine (p:Pst):Prop where
 tok: ∀ t∈p.l,Zny t
 snd: ∀ i,i<p.nodes.length→Zbx (Zaz p.nodes i).line=true
 dep: ∀ i,i<p.nodes.length→((Zaz p.nodes i).up= -1∧(Zaz p.nodes i).line.depth=0)∨ ∃ j:Nat,j<i∧(Zaz p.nodes i).up=(j:Int)∧(Zaz p.nodes i).line.depth=(Zaz p.nodes j).line.depth+1
 opn: ∀ j (h:j<p.opn.length),p.opn[j]<p.nodes.length∧(Zaz p.nodes p.opn[j]).line.depth=(j:Int)
theorem Zaqg (l:List Tok) (h: ∀ t∈l,Zny t):Fine ⟨l,[],[]⟩:=⟨h,fun _ h=>absurd h (Yeq _),fun _ h=>absurd h (Yeq _),fun _ h=>absurd h (Yeq _)⟩
theorem Zakc {l:List Tok} (h: ∀ t∈l,Zny t) (n:Nat): ∀ t∈l.drop n,Zny t:=fun t ht=>h t (Yey ht)
theorem Zakj {l r:List Tok} {N:List Nd} {o:List Nat} (h:Fine ⟨l,N,o⟩) (hr: ∀ t∈r,Zny t) {mk:Int} {s:ByteArray} (hs:s.size≤40) (hm:0≤mk∧mk≤3) (ho:o.length<16):
 Fine ⟨r,N++ [⟨⟨o.length,s,mk⟩,topB o⟩],o⟩:=by
 obtain⟨-,h2,h3,h4⟩:=h;simp only at h2 h3 h4;refine⟨hr,fun i hi=> ?_,fun i hi=> ?_,fun j hj=> ?_⟩
 · rw[Yak]at hi;simp only[Ybf,Ydx]at hi;rcases Ybr i N.length with hl|hl
   · rw[Zde hl];exact h2 i hl
   · obtain rfl:i=N.length:=by omega
     rw[Zgb];unfold Zbx;simp only[Yat,Yap];omega
 · rw [Yak]at hi;simp only[Ybf,Ydx]at hi;rcases Ybr i N.length with hl|hl
   · rw[Zde hl];rcases h3 i hl with g|⟨j,j1,j2,j3⟩
     · exact .inl g
     · exact .inr ⟨j,j1,j2,by rw[Zde (show j<N.length by omega)];exact j3⟩
   · obtain rfl:i=N.length:=by omega
     rw[Zgb];rcases Ybn o.length with h0|h0
     · have e:o= []:=Yar h0;subst e;exact .inl ⟨rfl,rfl⟩
     · obtain⟨g1,g2⟩:=h4 (o.length-1) (by omega)
       refine .inr ⟨o[o.length-1],g1, ?_, ?_⟩
       · show topB o=_;unfold topB;rw[Ydr,Yaj (by omega)]
       · rw[Zde g1,g2];show(o.length:Int)=_;omega
 · obtain⟨g1,g2⟩:=h4 j hj;exact⟨Ybp g1 (by simp),by rw[Zde g1];exact g2⟩
theorem Zavf {en:Int} {p:Pst} (h:Fine p) (he:(stB en p).2.1=0):Fine (stB en p).2.2:=by
 by_cases hk:(Zca en p.l).1=3
 · by_cases h0:p.opn.length=0
   · rw[Zsm hk h0]at he;cases he
   · rw[Zwu hk h0];refine⟨Zakc h.tok 1,h.snd,h.dep,fun j hj=> ?_⟩
     simp only[Yaf]at hj;simp only[Ycs];exact h.opn j (by omega)
 · rw [Zach hk]at he⊢;obtain⟨mk,ok,l1,hm⟩: ∃ mk ok l1,Zcf 0 p.l=(mk,ok,l1):=⟨_,_,_,rfl⟩;obtain⟨hmr,hl1⟩:=Zro _ _ _ _ _ h.tok (by decide) hm
   cases ok with
   |false=>rw[Zwb hm]at he;cases he
   | true=>
     by_cases hz:(nameB mk ⟨l1,p.nodes,p.opn⟩).1=0
     · rw [Zwc hm hz]at he⊢;obtain⟨t1,r1,e1⟩:=Zps _ _ _ _ hm;obtain⟨e4,-,ho,-⟩:=Zaeh (p:=⟨l1,p.nodes,p.opn⟩) e1 hz;rw[e4]at he⊢;have hf:Fine ⟨p.l,p.nodes,p.opn⟩:=h;have ht1:Zny t1:=hl1 t1 (by rw[e1];exact Yck ..)
       have hr1: ∀ t∈r1,Zny t:=fun t ht=>hl1 t (by rw[e1];exact Ych _ ht)
       have g:=Zakj (r:=r1.drop 1) (mk:=mk) hf (Zakc hr1 1) ht1.1 hmr ho;obtain⟨nd,hnd⟩: ∃ nd:Nd,nd=⟨⟨(p.opn.length:Nat),t1.word,mk⟩,topB p.opn⟩:=⟨_,rfl⟩;have hndd:nd.line.depth=(p.opn.length:Int):=by rw[hnd]
       rw[←hnd]at g he⊢;clear hnd;by_cases h2:(Zca en r1).1=2
       · rw[Zvh h2];refine⟨g.tok,g.snd,g.dep,fun j hj=> ?_⟩
         simp only[Yak,Ybf,Ydx]at hj;rcases Ybr j p.opn.length with hl|hl
         · simp only[Ydv hl];exact g.opn j hl
         · obtain rfl:j=p.opn.length:=by omega
           have e5:(p.opn++ [(p.nodes++ [nd]).length-1])[p.opn.length]'(by simp)=p.nodes.length:=by simp
           show(p.opn++ [(p.nodes++ [nd]).length-1])[p.opn.length]'(by simp)<(p.nodes++ [nd]).length∧(Zaz (p.nodes++ [nd]) ((p.opn++ [(p.nodes++ [nd]).length-1])[p.opn.length]'(by simp))).line.depth=_
           rw[e5];exact⟨by simp,by rw[Zgb];exact hndd⟩
       · by_cases h4:(Zca en r1).1=4
         · rw[Zaap h4];exact g
         · rw[Zaao h2 h4]at he;cases he
     · rw[Zrk hm hz]at he;exact absurd he hz
theorem Zadl {en:Int}: ∀ (k:Nat) {p:Pst},Good p→Fine p→(goB en k p).2.1=0→Good (goB en k p).2.2∧Fine (goB en k p).2.2
 |0,p,hg,hf,_=>⟨hg,hf⟩
 | k + 1,p,hg,hf,h=>by
   unfold goB at h⊢;by_cases hl:p.l= []
   · rw[Yan hl];exact⟨hg,hf⟩
   · rw[Yad hl]at h⊢;by_cases he:(stB en p).2.1=0
     · rw[Yad (by simp[he])]at h⊢
       exact Zadl k (Zvs hg hl he).1 (Zavf hf he) h
     · rw[Yan he]at h;exact absurd h he
def Zpo:Nat→List Nd→List ByteArray→Int→List (List ByteArray)
 |0,_,_,_=> []
 |k+1,N,U,u=>(Zcp N u).flatMap fun i=>(U++ [(Zaz N i).line.word])::Zpo k N (U++ [(Zaz N i).line.word]) (i:Nat)
theorem Zxz {α:Type} {f:α→List (List ByteArray)} {g:α→List Line}: ∀ (l:List α),(∀ x∈l,Zfu (f x) (g x))→Zfu (l.flatMap f) (l.flatMap g)
 | [],_=>trivial
 | x::l,h=>by
   rw[Ybw,Ybw];exact Zgi (h x (Yck ..)) (Zxz l fun y hy=>h y (Ych _ hy))
section
variable {p:Pst} (hf:Fine p)
include hf
theorem Zavo {u:Nat} {i:Nat} (hi:i∈Zcp p.nodes (u:Int)):(Zaz p.nodes i).line.depth=(Zaz p.nodes u).line.depth+1:=by
 obtain⟨h1,h2⟩:=Zcw.1 hi;rcases hf.dep i h1 with⟨g1,-⟩|⟨j,-,g2,g3⟩
 · omega
 · rw[g2]at h2;rw[g3,show j=u by omega]
theorem Zawu {i:Nat} (hi:i∈Zcp p.nodes (-1)):(Zaz p.nodes i).line.depth=0:=by
 obtain⟨h1,h2⟩:=Zcw.1 hi;rcases hf.dep i h1 with⟨-,g1⟩|⟨j,-,g2,-⟩
 · exact g1
 · omega
theorem Zzi: ∀ (k:Nat) (U:List ByteArray) (u:Int),(∀ i∈Zcp p.nodes u,(Zaz p.nodes i).line.depth=(U.length:Int))→Zfu (Zpo k p.nodes U u) (Zmk k p.nodes u)
 |0,_,_,_=>trivial
 | k+1,U,u,h=>by
   unfold Zpo Zmk;refine Zxz _ fun i hi=>⟨⟨hf.snd i (Zcw.1 hi).1, ?_, ?_⟩,Zzi k _ _ fun j hj=> ?_⟩
   · rw[h i hi,Yak];simp
   · rw[Ybx,Ycr];rfl
   · rw[Zavo hf hj,h i hi,Yak];simp
end
theorem Znr {N:List Nd}: ∀ {k:Nat} {U:List ByteArray} {u:Int} {q:List ByteArray},q∈Zpo k N U u→ ∃ i∈Zcp N u,∃ s,q=U++(Zaz N i).line.word::s
 |0,_,_,_,h=>by cases h
 | k+1,U,u,q,h=>by
   unfold Zpo at h;obtain⟨i,hi,h⟩:=Ydf.1 h;rcases Yax.1 h with h|h
   · exact⟨i,hi,[],h⟩
   · obtain⟨j,-,s,e⟩:=Znr h;exact⟨i,hi,_,by rw[e,Ybm];rfl⟩
theorem Zaew {N:List Nd}: ∀ {k:Nat} {U:List ByteArray} {u:Int} {q:List ByteArray},q∈Zpo k N U u→q.dropLast=U∨q.dropLast∈Zpo k N U u
 |0,_,_,_,h=>by cases h
 | k +1,U,u,q,h=>by
   unfold Zpo at h⊢;obtain⟨i,hi,h⟩:=Ydf.1 h;rcases Yax.1 h with h|h
   · left;rw[h,Yed]
   · right
     refine Ydf.2 ⟨i,hi, ?_⟩;rcases Zaew h with e|e
     · rw[e];exact Yck ..
     · exact Ych _ e
theorem Zasv {N:List Nd} (ha:Zpl N) (u:Int):(Zcp N u).Pairwise fun i j=>(Zaz N i).line.word.toList<(Zaz N j).line.word.toList:=by
 have hc:=Zaeo N
 have hle: ∀ a b,(!(ltOf (cmpW N)) b a)=true↔cmpW N a b≤0:=fun a b=>by
  rw[hc.le_iff a b];unfold ltOf;rw[Yer,decide_eq_false_iff_not];omega
 have h1:(Zcp N u).Pairwise fun x y=>(!(ltOf (cmpW N)) y x)=true:=by
  unfold Zcp;refine List.pairwise_mergeSort (le:=fun x y=> !(ltOf (cmpW N)) y x) (fun a b c h1 h2=> ?_) (fun a b=> ?_) _
  · rw[hle]at h1 h2⊢;exact hc.trans a b c h1 h2
  · rw[Bool.or_eq_true,hle,hle];have:=hc.le_iff b a;omega
 refine(h1.and (Ydn.1 (Zsh N u))).imp_of_mem ?_;intro a b hma hmb ⟨h2,hne⟩;rw[hle]at h2;obtain⟨a1,a2⟩:=Zcw.1 hma;obtain⟨b1,b2⟩:=Zcw.1 hmb;have h0:cmpW N a b≠0:=fun h0=>hne (ha a b a1 b1 (a2.trans b2.symm) (ByteArray.ext (Ydz.1 (Zod (show compareBytes _ _=0 from h0)))))
 have h3:=Zqp.1 (show compareBytes (Zaz N a).line.word.data.toList (Zaz N b).line.word.data.toList<0 by have h4:compareBytes (Zaz N a).line.word.data.toList (Zaz N b).line.word.data.toList=cmpW N a b:=rfl;omega)
 rw[Lib.toList_data,Lib.toList_data];exact h3
theorem Zaev {N:List Nd} (ha:Zpl N): ∀ (k:Nat) (U:List ByteArray) (u:Int),(Zpo k N U u).Pairwise pLt
 |0,_,_=>List.Pairwise.nil
 | k +1,U,u=>by
   unfold Zpo;rw[List.pairwise_flatMap];refine⟨fun i _=>Ycd.2 ⟨fun q hq=> ?_,Zaev ha k _ _⟩,(Zasv ha u).imp fun {i j} hij x hx y hy=> ?_⟩
   · obtain⟨j,-,s,e⟩:=Znr hq;rw[e];exact Zld _ _ _
   · have key: ∀ {i:Nat} {x:List ByteArray},x∈(U++ [(Zaz N i).line.word])::Zpo k N (U++ [(Zaz N i).line.word]) (i:Nat)→ ∃ s,x=U++(Zaz N i).line.word::s:=fun {i x} hx=>by
      rcases Yax.1 hx with h|h
      · exact⟨[],h⟩
      · obtain⟨j,-,s,e⟩:=Znr h;exact⟨_,by rw[e,Ybm];rfl⟩
     obtain⟨s,rfl⟩:=key hx;obtain⟨r,rfl⟩:=key hy;rw[Zfi];exact Ziz hij
theorem Zany {p:Pst} (hg:Good p) (hf:Fine p) (k:Nat):Zab (Zmk k p.nodes (-1))=true∧Zaf (Zmk k p.nodes (-1))=Zpo k p.nodes [] (-1):=by
 refine Zkd (Zzi hf k [] (-1) fun i hi=>by rw[Zawu hf hi];rfl) ⟨Zaev hg.ap _ _ _,fun q hq=>⟨?_,(Zaew hq).symm⟩⟩ (Yas (Zsf hg.ups k (-1)) hg.len)
 obtain⟨i,-,s,e⟩:=Znr hq;rw[e];simp
theorem Zaig {s:ByteArray} (h:(Zlo s).2.2=0):Zab (Zlo s).1=true:=by
 unfold Zlo at h⊢;simp only at h⊢;split
 · rfl
 · rename_i h1;rw[Yad h1]at h;split
   · rfl
   · rename_i h2;rw[Yad h2]at h;split
     · rfl
     · obtain⟨g1,g2⟩:=Zadl _ (good_nil _) (Zaqg _ (Zaxf _)) (Decidable.not_not.1 h2);exact(Zany g1 g2 _).1
end Prs
namespace Edt
open Go Go.Lib Tre Sch Lns Prs Go.Proofs.Zq
structure PsOk (t:Int) (S:Ps):Prop where
 run:Zab S.run=true
 back:Zab S.back=true
 revs: ∀ r∈S.revs,Zab r.2=true
 base: ∀ k,k<3→Zab (S.ses k).base=true
 mine: ∀ k,k<3→Zab (S.ses k).mine=true
 len:(S.revs.length:Int)=min (Zav S) 5
 last:0≤Zav S∧Zav S≤t
 clock:0≤S.clock∧S.clock≤2147483647
 dead:S.dead=0∨S.clock<S.dead∧S.dead≤S.clock+65535
 nums: ∀ (i:Nat) r,S.revs[i]?=some r→r.1=Zav S-((S.revs.length:Int)-1-i)
 top: ∀ r,S.revs.getLast?=some r→r.2=S.run
 none:S.revs= []→S.run= []
 lock:0≤S.lock∧S.lock≤3
def Zej:Ps:=⟨[],[],⟨false,[],[]⟩,⟨false,[],[]⟩,⟨false,[],[]⟩,0,0,0,[]⟩
theorem Zbp:Zab []=true:=by decide
theorem ses3 {p:Ss→Prop} {S:Ps} (h0:p S.s0) (h1:p S.s1) (h2:p S.s2) (k:Nat):p (S.ses k):=by
 unfold Ps.ses;split
 · exact h0
 · split
   · exact h1
   · exact h2
theorem Zpq:PsOk 0 Zej where
 run:=Zbp
 back:=Zbp
 revs _ h:=by cases h
 base k _:=ses3 (p:=fun s=>Zab s.base=true) Zbp Zbp Zbp k
 mine k _:=ses3 (p:=fun s=>Zab s.mine=true) Zbp Zbp Zbp k
 len:=rfl
 last:=by decide
 clock:=by decide
 dead:= .inl rfl
 nums i r h:=by cases h
 top r h:=by cases h
 none _:=rfl
 lock:=by decide
theorem PsOk.mono {t u:Int} {S:Ps} (h:PsOk t S) (hu:t≤u):PsOk u S:={h with last:=⟨h.last.1,Int.le_trans h.last.2 hu⟩}
theorem PsOk.len5 {t:Int} {S:Ps} (h:PsOk t S):S.revs.length≤5:=by have:=h.len;omega
theorem Zhv (S:Ps) (T:List Line):Zav (Zdn S T)=Zav S+1:=by
 have:(Zdn S T).revs.getLast?=some (Zav S+1,T):=by
  show((S.revs++ [(Zav S+1,T)]).drop (S.revs.length+1-5)).getLast?=_;rw[List.getLast?_drop,Yad (by simp;omega),Ycr];rfl
 conv=>lhs;unfold Zav
 rw[this]
theorem Zaeg (S:Ps) (T:List Line):(Zdn S T).revs.getLast?=some (Zav S+1,T):=by
 show((S.revs++ [(Zav S+1,T)]).drop (S.revs.length+1-5)).getLast?=_;rw[List.getLast?_drop,Yad (by simp;omega),Ycr];rfl
theorem Zaef (S:Ps) (T:List Line):(Zdn S T).revs.length=S.revs.length+1-(S.revs.length+1-5):=by
 show((S.revs++ [(Zav S+1,T)]).drop (S.revs.length+1-5)).length=_;rw[Yam,Yak];rfl
theorem PsOk.made {t:Int} {S:Ps} (h:PsOk t S) {T:List Line} (hT:Zab T=true):PsOk (t+1) (Zdn S T) where
 run:=hT
 back:=h.back
 revs r hr:=by
  have hr:r∈(S.revs++ [(Zav S+1,T)]).drop (S.revs.length+1-5):=hr;rcases Ybl.1 (Yey hr)with hr|hr
  · exact h.revs r hr
  · rw[Ybt]at hr;rw[hr];exact hT
 base k hk:=h.base k hk
 mine k hk:=h.mine k hk
 len:=by
  rw[Zaef,Zhv];have h1:=h.len;have h2:=h.last;omega
 last:=by rw[Zhv];have:=h.last;omega
 clock:=h.clock
 dead:=h.dead
 nums i r hi:=by
  have hi:((S.revs++ [(Zav S+1,T)]).drop (S.revs.length+1-5))[i]?=some r:=hi;rw[Ydb]at hi;rw[Zhv,Zaef];by_cases hl:S.revs.length+1-5+i<S.revs.length
  · rw[Yca hl]at hi;rw[h.nums _ _ hi];omega
  · rw[Ybi (by omega)]at hi
    have h0:S.revs.length+1-5+i-S.revs.length=0:=by
     cases hx:S.revs.length+1-5+i-S.revs.length with
     |zero=>rfl
     |succ n=>rw[hx]at hi;cases hi
    rw[h0]at hi;injection hi with hi
    rw[←hi];show Zav S+1=_;omega
 top r hr:=by
  rw[Zaeg]at hr;injection hr with hr
  rw[←hr];rfl
 none hr:=by
  have:=Zaeg S T;rw[hr]at this;cases this
 lock:=h.lock
theorem PsOk.setSes {t:Int} {S:Ps} (h:PsOk t S) {k:Nat} (hk:k<3) {b:Bool} {B M:List Line} (h1:Zab B=true) (h2:Zab M=true):PsOk t (S.setSes k ⟨b,B,M⟩):=by
 obtain⟨f0,f1,f2,f3,f4,f5⟩:=Zbd S k ⟨b,B,M⟩;have fl:Zav (S.setSes k ⟨b,B,M⟩)=Zav S:=by unfold Zav;rw[f1]
 refine⟨f0▸h.run,f5▸h.back,f1▸h.revs,fun j hj=> ?_,fun j hj=> ?_,by rw[f1,fl];exact h.len,by rw[fl];exact h.last,by rw[f3];exact h.clock,by rw[f3,f4];exact h.dead,fun i r hr=> ?_,fun r hr=> ?_,fun hr=> ?_,by rw[f2];exact h.lock⟩
 · rw[Zkm S k j _ hk hj];split
   · exact h1
   · exact h.base j hj
 · rw[Zkm S k j _ hk hj];split
   · exact h2
   · exact h.mine j hj
 · rw[f1]at hr;rw[fl,f1];exact h.nums i r hr
 · rw[f1]at hr;rw[f0];exact h.top r hr
 · rw[f1]at hr;rw[f0];exact h.none hr
def Step (t:Int) (S:Ps) (z:Ps×Int×Int):Prop:=
 PsOk (t+1) z.1∧(z.2.1≠0→z.1=S)∧(Zav z.1=Zav S∨Zav z.1=Zav S+1∧z.2.2=Zav z.1)
section
variable {t:Int} {S:Ps} (h:PsOk t S)
include h
theorem Zdx (e n:Int):Step t S (S,e,n):=⟨h.mono (by omega),fun _=>rfl, .inl rfl⟩
omit h in
theorem Zgn {S':Ps} (h':PsOk t S') (hl:Zav S'=Zav S) (n:Int):Step t S (S',0,n):=⟨h'.mono (by omega),fun g=>absurd rfl g, .inl hl⟩
omit h in
theorem Zzl {S':Ps} (h':PsOk t S') (hl:Zav S'=Zav S) {T:List Line} (hT:Zab T=true):Step t S (Zdn S' T,0,Zav (Zdn S' T)):=
 ⟨h'.made hT,fun g=>absurd rfl g, .inr ⟨by rw[Zhv,hl],rfl⟩⟩
theorem Zaoj (n:Int):Step t S (Zey S n):=by
 by_cases h1:n<0∨2147483647-S.clock<n
 · rw[Zaud h1];exact Zdx h _ _
 · have hc:=h.clock;by_cases h2:S.dead=0∨S.clock+n<S.dead
   · rw[Zafd h1 h2];refine Zgn (S:=S) (S':={S with clock:=S.clock+n}) {h with clock:= ?_,dead:= ?_} rfl _
     · show 0≤S.clock+n∧S.clock+n≤2147483647;omega
     · show S.dead=0∨S.clock+n<S.dead∧S.dead≤S.clock+n+65535;have:=h.dead;omega
   · rw[Zaoi h1 h2];refine Zzl (S:=S) (S':=Zpm S n) {h with clock:= ?_,dead:= .inl rfl,back:=Zbp} rfl h.back
     show 0≤S.clock+n∧S.clock+n≤2147483647;omega
theorem Zakv (kind:Int) {k:Nat} (hk:k<3):Step t S (Zfv S kind k):=by
 have hl: ∀ l,0≤l∧l≤3→PsOk t {S with lock:=l}:=fun l hl=>{h with lock:=hl}
 have hsl: ∀ b B M,Zav (S.setSes k ⟨b,B,M⟩)=Zav S:=fun b B M=>by unfold Zav;rw[(Zbd S k _).2.1]
 unfold Zfv;split
 · split
   · exact Zdx h _ _
   · exact Zgn (h.setSes hk h.run h.run) (hsl _ _ _) _
 · split
   · have g:=h.setSes hk (b:=false) Zbp Zbp;refine Zgn (S:=S) (S':={S.setSes k ⟨false,[],[]⟩with lock:=if S.lock=(k:Int)+1 then 0 else S.lock}) {g with lock:= ?_} (hsl false [] []) _
     show 0≤(if S.lock=(k:Int)+1 then 0 else S.lock)∧(if S.lock=(k:Int)+1 then 0 else S.lock)≤3
     have:=h.lock;split<;>omega
   · split
     · split
       · exact Zdx h _ _
       · exact Zgn (S:=S) (hl ((k:Int)+1) (by omega)) rfl _
     · split
       · split
         · exact Zdx h _ _
         · exact Zgn (S:=S) (hl 0 (by omega)) rfl _
       · exact Zdx h _ _
omit h in
theorem Zmq {B M R:List Line} (h1:Zab B=true) (h2:Zab M=true) (h3:Zab R=true) (he:(Zay B M R).2.1=0):Zab (Zay B M R).1=true:=by
 unfold Zay at he⊢;split
 · exact Zbp
 · rename_i g1;rw[Yad g1]at he;split
   · exact Zbp
   · rename_i g2;rw[Yad g2]at he;split
     · exact Zbp
     · split
       · exact Zbp
       · exact(Zrp h1 h2 h3 (Decidable.not_not.1 g1)).1
theorem Zaag {k:Nat} (hk:k<3) (n:Int):Step t S (Zep S k n):=by
 unfold Zep;split
 · exact Zdx h _ _
 · rename_i hn;simp only;split
   · exact Zdx h _ _
   · rename_i he;have hT:=Zmq (h.base k hk) (h.mine k hk) h.run (Decidable.not_not.1 he);have g:=h.setSes hk (b:=true) hT hT;generalize (Zay (S.ses k).base (S.ses k).mine S.run).1=T at *;have gl:Zav (S.setSes k ⟨true,T,T⟩)=Zav S:=by unfold Zav;rw[(Zbd S k _).2.1]
     split
     · exact Zgn g gl _
     · refine Zzl ?_ ?_ hT
       · unfold Zhm;have hc:=g.clock;split
         · exact {g with dead:= .inl rfl,back:=Zbp}
         · split
           · refine {g with dead:= .inr ?_,back:=h.run}
             show(S.setSes k ⟨true,T,T⟩).clock<(S.setSes k ⟨true,T,T⟩).clock+n∧(S.setSes k ⟨true,T,T⟩).clock+n≤(S.setSes k ⟨true,T,T⟩).clock+65535;omega
           · refine {g with dead:= .inr ?_}
             show(S.setSes k ⟨true,T,T⟩).clock<(S.setSes k ⟨true,T,T⟩).clock+n∧(S.setSes k ⟨true,T,T⟩).clock+n≤(S.setSes k ⟨true,T,T⟩).clock+65535;omega
       · unfold Zhm;split
         · exact gl
         · split<;>exact gl
theorem Zafv {k:Nat} (hk:k<3) (o:Opp) (he:(Zdt S o k).2.1=0):Zab (Zdt S o k).1=true:=by
 have hm:=h.mine k hk;unfold Zdt at he⊢;simp only at he⊢;split
 · exact Zanp hm
 · rename_i k1;rw [Yad k1]at he;split
   · exact Zaka hm
   · rename_i k2;rw[Yad k2]at he;split
     · exact Ztx hm
     · rename_i k3;rw[Yad k3]at he;split
       · exact Ztx hm
       · rename_i k4;rw[Yad k4]at he;split
         · rename_i k5;rw[Yan k5]at he;exact Zani hm he
         · rename_i k5;rw[Yad k5]at he;split
           · rename_i k6;rw[Yan k6]at he;exact Zagd hm he
           · rename_i k6;rw[Yad k6]at he;split
             · rename_i k7;rw[Yan k7]at he;exact Zaig he
             · split
               · split
                 · exact Zbp
                 · simp only;cases hg:S.revs[S.revs.length-1-o.n.toNat]? with
                   |none=>exact Zbp
                   |some r=>exact h.revs r (List.mem_of_getElem? hg)
               · exact hm
theorem Zhf (o :Opp) (who:Int):Step t S (doS S o who):=by
 unfold doS;split
 · exact Zaoj h _
 · split
   · exact Zdx h _ _
   · rename_i hw;have hk:who.toNat<3:=by omega
     split
     · exact Zdx h _ _
     · split
       · exact Zakv h _ hk
       · split
         · exact Zdx h _ _
         · split
           · exact Zdx h _ _
           · split
             · exact Zaag h hk _
             · split
               · rename_i he;exact Zgn (h.setSes hk (h.base _ hk) (Zafv h hk o he)) (by unfold Zav;rw[(Zbd S who.toNat _).2.1]) _
               · exact Zdx h _ _
end
end Edt
