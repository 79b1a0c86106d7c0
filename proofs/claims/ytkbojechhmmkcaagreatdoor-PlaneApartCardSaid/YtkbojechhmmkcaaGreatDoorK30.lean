import Derived.Test.YtkbojechhmmkcaaGreatDoorK29
set_option linter.unusedVariables false
set_option linter.unusedSimpArgs false
namespace Edt
open Go Go.Lib Tre Sch Lns
theorem Zasm {X:List Line} (hr:Zab X=true) {q:List ByteArray} {l:Line} (h:(q,l)∈(Zad X).zip X):stB X q=l.mark:=by
 obtain⟨k,hk,e⟩:=Ybs h;rw[List.length_zip,Zaf,Nat.min_self]at hk;rw[List.getElem_zip]at e;injection e with e1 e2
 refine Zuq hr (k:=k) ?_ ?_
 · rw[Yaj (by rw[Zaf];exact hk),e1]
 · rw[Yaj hk,e2]
theorem Zbfs {X:List Line} {q:List ByteArray} (h:q∈Zad X): ∃ l,(q,l)∈(Zad X).zip X:=by
 obtain⟨k,hk,rfl⟩:=Ybs h;have hk2:k<X.length:=by rw[Zaf]at hk;exact hk
 refine⟨X[k], ?_⟩;rw[Yer];exact⟨k,by rw[List.length_zip,Zaf,Nat.min_self];exact hk2,by rw[List.getElem_zip]⟩
theorem Zbfr {α β:Type} (A:List α) (B:List β) (m:Nat) (h:A.length=B.length):A.zip B=(A.take m).zip (B.take m)++(A.drop m).zip (B.drop m):=by
 rw[←List.zip_append (by simp[h]),Ybk,Ybk]
theorem Zaey {L:List Line} (hr:Zab L=true):(Zad L).Nodup:=by
 refine Ydt.2 ((Zcx hr).1.1.imp fun {a b} h e=> ?_)
 rw[e]at h;exact Zby _ h
theorem Zxe {P:List ByteArray} (hP:Zfj P=true) (h16:P.length≤16): ∀ (f d:Nat) (out M:List Line),d+f=P.length→Zab out=true→(d=0∨P.take d∈Zad out)→Zeq P f d out=some M→
 Zab M=true∧(∀ q,q∈Zad out→stB M q=stB out q)∧ ∀ q,¬ q∈Zad out→stB M q≤0
 | 0,d,out,M,hd,hr,_,h=>by
   unfold Zeq at h;injection h with h
   subst h;exact⟨hr,fun _ _=>rfl,fun q hq=>by rw[st_none hr hq];decide⟩
 | f + 1,d,out,M,hd,hr,hU,h=>by
   unfold Zeq at h;cases hf:Zas out (P.take (d+1))with
   | some k=>
     rw[hf,Yam (show(some k).isSome=true from rfl)]at h;exact Zxe hP h16 f (d+1) out M (by omega) hr (.inr ((Zcz hr).1 (by rw[hf];rfl))) h
   | none=>
     rw[hf,Yab (show ¬ (none:Option Nat).isSome=true by simp)]at h
     by_cases hl:200≤out.length
     · rw[Yam hl]at h;cases h
     · rw[Yab hl]at h;have hU2:P.take d= []∨P.take d∈Zad out:=hU.imp (fun e=>by rw[e];rfl) id
       have htp:P.take (d+1)=P.take d++ [wAt P d]:=Zuv (by omega)
       have hn: ¬ P.take d++ [wAt P d]∈Zad out:=by
        rw[←htp];intro h;have:=(Zcz hr).2 h;rw[hf]at this;cases this
       have hl2:(P.take d).length=d:=by rw[Yah];omega
       have g:=Zbgo hr (s:=wAt P d) (m:=0) hU2 hn (by omega) (Zse hP (by omega)) (by omega) ⟨by omega,by omega⟩
       rw[hl2]at g
       have hin:P.take (d+1)∈Zad (insB out (Zcc out (P.take d) (wAt P d)) ⟨d,wAt P d,0⟩):=by
        rw[Zdt g.1,g.2,Yam htp];exact Int.le_refl 0
       obtain⟨k1,k2,k3⟩:=Zxe hP h16 f (d+1) _ M (by omega) g.1 (.inr hin) h
       refine⟨k1,fun q hq=> ?_,fun q hq=> ?_⟩
       · have hne: ¬ q=P.take d++ [wAt P d]:=fun e=>hn (e▸hq)
         rw[k2 q (by rw[Zdt g.1,g.2,Yab hne];exact(Zdt hr).1 hq),g.2,Yab hne]
       · by_cases e:q=P.take d++ [wAt P d]
         · rw[k2 q (by rw[e,←htp];exact hin),g.2,Yam e];exact Int.le_refl 0
         · exact k3 q fun hm=>hq (by rw[Zdt hr];rw[Zdt g.1,g.2,Yab e]at hm;exact hm)
theorem Zamo {L M:List Line} {P:List ByteArray} (h:addB L P=(M,0)):Zab L=true∧Zfj P=true∧P.length≤16∧P≠ []∧Zab M=true∧ ∀ q,stB M q=if 0≤stB L q then stB L q else if q≠ []∧preB q P=true then 0 else -1:=by
 unfold addB at h;split at h
 · injection h with _ h;exact absurd h (by decide)
 · rename_i h1;split at h
   · injection h with _ h;exact absurd h (by decide)
   · rename_i h2;split at h
     · rename_i M' hM;injection h with h _
       subst h;have hs:Zfj P=true:=by
        cases hs:Zfj P with
        |true=>rfl
        |false=>exact absurd (.inr hs) h1
       have hr:Zab L=true:=by
        cases hr:Zab L with
        |true=>rfl
        |false=>exact absurd (.inl hr) h1
       obtain⟨g1,g2⟩:=Zmg hs (by omega) P.length 0 L M' (by omega) hr (.inl rfl) hM
       obtain⟨-,k2,k3⟩:=Zxe hs (by omega) P.length 0 L M' (by omega) hr (.inl rfl) hM
       refine⟨hr,hs,by omega,fun e=>by rw[e]at hs;exact absurd hs (by decide),g1,fun q=> ?_⟩
       by_cases hq:q∈Zad L
       · rw[Yam ((Zdt hr).1 hq),k2 q hq]
       · rw [Yab fun h=>hq ((Zdt hr).2 h)]
         by_cases hp:q≠ []∧preB q P=true
         · rw[Yam hp];obtain⟨s,es⟩:=Zbn.1 hp.2;have hm:q∈Zad M':=(g2 q).2 (.inr ⟨q.length,Ydf.2 hp.1,by rw[es];simp,by rw[es];simp⟩)
           have a:=(Zdt g1).1 hm;have b:=k3 q hq;omega
         · rw[Yab hp];refine st_none g1 fun hm=> ?_
           rcases(g2 q).1 hm with h|⟨j,j1,j2,e⟩
           · exact hq h
           · refine hp ⟨fun e2=> ?_,Zbn.2 ⟨P.drop j,by rw[e,Ybk]⟩⟩
             have:=congrArg List.length e;rw[e2,Yah]at this;simp at this;omega
     · injection h with _ h;exact absurd h (by decide)
theorem Zaiw {L:List Line} {P:List ByteArray} (hr:Zab L=true):Zab (addB L P).1=true:=by
 by_cases h:(addB L P).2=0
 · exact(Zamo (L:=L) (P:=P) (M:=(addB L P).1) (by rw[←h])).2.2.2.2.1
 · unfold addB at h⊢;split
   · exact hr
   · split
     · exact hr
     · rename_i h1 h2;rw[Yab h1,Yab h2]at h;split
       · rename_i M hM;rw[hM]at h;exact absurd rfl h
       · exact hr
theorem Zack {L:List Line} {P:List ByteArray} (hr:Zab L=true):Zab (setB L P).1=true:=by
 unfold setB;split
 · exact hr
 · split
   · exact hr
   · exact Zaiw hr
theorem Zanv {L:List Line} {P:List ByteArray} (hr:Zab L=true):Zab (delB L P).1=true:=by
 unfold delB;split
 · exact hr
 · split
   · exact hr
   · rename_i k hk;split
     · exact hr
     · exact(Zanm hr (Zdn hr hk).1).1
theorem Zaje {m b:Int} (h:0≤m∧m≤3) (hb:b=1∨b=2) (on:Bool):0≤(if on=true then bits .or .i64 m b else bits .andNot .i64 m b)∧(if on=true then bits .or .i64 m b else bits .andNot .i64 m b)≤3:=by
 have hm:m=0∨m=1∨m=2∨m=3:=by omega
 rcases hm with rfl|rfl|rfl|rfl<;>rcases hb with rfl|rfl<;>cases on<;>decide
theorem Zapt {l:Line} (h:0≤l.mark∧l.mark≤3) {b:Int} (hb:b=1∨b=2) (on:Bool):0≤(Zabv l b on).mark∧(Zabv l b on).mark≤3:=Zaje h hb on
theorem Zwg {L:List Line} {P:List ByteArray} {b:Int} {on:Bool} (hr:Zab L=true):Zab (Zhu L P b on).1=true:=by
 unfold Zhu;split
 · exact hr
 · rename_i hb;split
   · exact hr
   · split
     · exact hr
     · rename_i k hk;have hkl:=(Zdn hr hk).1;split
       · exact hr
       · have hm:=Zapt (mark_at hr hkl) (b:=b) (by omega) on
         have:=(Zaem hr hkl hm).1;unfold markB at this;rw[Zaq hkl,Zbe hkl]at this;rw[Zcd hkl];exact this
theorem Zakt {L:List Line} (hr:Zab L=true) {k:Nat} (hk:k<L.length) {m:Int} (hm:0≤m∧m≤3):Zad (markB L k m)=Zad L:=by
 obtain⟨h1,h2⟩:=Zaem hr hk hm;refine Zpp (Zcx h1).1.1 (Zcx hr).1.1 fun q=> ?_
 rw[Zdt h1,Zdt hr,h2];split
 · rename_i e;rw[e,st_at hr hk];exact⟨fun _=>(mark_at hr hk).1,fun _=>hm.1⟩
 · exact Iff.rfl
theorem Zakg {K N:List Line} (hK:Zab K=true) (hN:Zab N=true) {i k:Nat} (hi:i<K.length) (hk:k<N.length) (hlen:(pa K i).length=(pa N k).length)
 (hno: ∀ q∈Zad N,preB (pa N k) q=true→q=pa N k) (h200:N.length+(endB K i-(i+1))≤200):
 Zab (Go.Proofs.Zq.insMB N (k+1) ((Zcg K i).drop 1))=true∧ ∀ q,stB (Go.Proofs.Zq.insMB N (k+1) ((Zcg K i).drop 1)) q=if preB (pa N k) q=true∧q≠pa N k then stB K (pa K i++q.drop (pa N k).length)else stB N q:=by
 obtain⟨ht,hf⟩:=Zcx hN;obtain⟨e1,e2⟩:=Zbb K i hi;obtain⟨n,hn⟩: ∃ n,endB K i=i+1+n:=⟨endB K i-(i+1),by omega⟩
 obtain⟨T,hT⟩: ∃ T,pa N k=T:=⟨_,rfl⟩;obtain⟨P,hP⟩: ∃ P,pa K i=P:=⟨_,rfl⟩;rw[hT]at hlen hno⊢;rw[hP]at hlen⊢;have hTm:T∈Zad N:=hT▸Zbp.2 ⟨k,hk,rfl⟩
 have hsub: ∀ j,j<n→ ∃ s,s≠ []∧pa K (i+1+j)=P++s:=fun j hj=>by
  obtain⟨s,hs⟩:=(Zes hK hi (show i+1+j<K.length by omega)).2 ⟨by omega,by omega⟩
  rw[hP]at hs;refine⟨s,fun e=> ?_,hs⟩
  rw[e,Ybg,←hP]at hs;have:=Zwj hK (show i+1+j<K.length by omega) hi hs
  omega
 obtain⟨V,hV⟩: ∃ V,(Zcg K i).drop 1=V:=⟨_,rfl⟩;rw[hV];have hVl:V.length=n:=by rw[←hV,Yan,Zjf hi];omega
 have hVj: ∀ j (h:j<V.length),∃ h2:i+1+j<K.length,V[j]=K[i+1+j]:=fun j h=>by
  refine⟨by omega, ?_⟩
  have:V[j]?=K[i+1+j]?:=by
   rw[←hV];unfold Zcg;rw[Ycp,Ycv,Yam (by omega),Ycp]
   congr 1;omega
  rw[Yaj h,Yaj (by omega)]at this
  injection this
 obtain⟨S,hS⟩: ∃ S,(List.range n).map (fun j=>T++(pa K (i+1+j)).drop P.length)=S:=⟨_,rfl⟩
 have hSl:S.length=n:=by rw[←hS,Yay,Yfb]
 have hSj: ∀ j (h:j<S.length),S[j]=T++(pa K (i+1+j)).drop P.length:=fun j h=>by subst hS;rw[Ycz,List.getElem_range]
 have hSs: ∀ j (h:j<S.length),∃ s,s≠ []∧pa K (i+1+j)=P++s∧S[j]=T++s:=fun j h=>by
  obtain⟨s,h1,h2⟩:=hsub j (by omega)
  refine⟨s,h1,h2, ?_⟩;rw[hSj j h,h2];simp
 have hSm: ∀ q,q∈S↔ ∃ s,s≠ []∧P++s∈Zad K∧q=T++s:=fun q=>by
  constructor
  · intro h;obtain⟨j,hj,rfl⟩:=Ybs h;obtain⟨s,h1,h2,h3⟩:=hSs j hj;exact⟨s,h1,h2▸Zbp.2 ⟨_,by omega,rfl⟩,h3⟩
  · rintro⟨s,h1,h2,rfl⟩;obtain⟨m,hm,e⟩:=Zbp.1 h2;obtain⟨g1,g2⟩:=(Zes hK hi hm).1 ⟨s,by rw[e,hP]⟩
    have hne:m≠i:=fun e'=>by
     rw[e',hP]at e;exact h1 (by simpa using e)
    rw[Yer];refine⟨m-(i+1),by omega, ?_⟩
    rw[hSj,show i+1+(m-(i+1))=m by omega,e];simp
 have hfV:Zgr S V:=Zya (by omega) fun j h1 h2=>by
  obtain⟨h3,h4⟩:=hVj j h2;obtain⟨s,s1,s2,s3⟩:=hSs j h1;have hd:=(Zac hK).2.1;have g1:=Zcy hd (i+1+j) h3;have g2:=Zbz hd h3;have g3:=Zel hK h3;have g4:=Zcf hd h3;rw[Zbe h3]at g3;rw[Zaq h3]at g2 g4;rw[h4,s3];refine⟨g1.1, ?_, ?_⟩
  · rw[s2,Yae]at g2;rw[Yae];omega
  · rw[←g3,s2,Ycd,Ycd,Ycy,Ycy];cases hs:s.getLast? with
    |none=>exact absurd (List.getLast?_eq_none_iff.1 hs) s1
    |some x=>rfl
 have hlo: ∀ q∈(Zad N).take (k+1),q=T∨pLt q T:=fun q h=>by
  obtain⟨j,hj,e⟩:=Ybs h;rw[Yah,Zaf]at hj;rw[Ycs,←Zfu (by omega)]at e
  rcases Ybp j k with g|g
  · exact .inr (by rw[←e,←hT];exact Znd hN g hk)
  · exact .inl (by rw[←e,←hT,show j=k by omega])
 have hhi: ∀ q∈(Zad N).drop (k+1),pLt T q∧ ∀ s,q≠T++s:=fun q h=>by
  obtain⟨j,hj,e⟩:=Ybs h;rw[Yan,Zaf]at hj;rw[Ydr,←Zfu (by omega)]at e
  have h1:pLt T q:=by rw[←e,←hT];exact Znd hN (by omega) (by omega)
  refine⟨h1,fun s es=> ?_⟩
  have:=hno q (by rw[←e];exact Zbp.2 ⟨_,by omega,rfl⟩) (Zbn.2 ⟨s,es⟩)
  rw[this]at h1;exact Zby _ h1
 have hpush: ∀ s:List ByteArray,s≠ []→pLt T (T++s):=fun s h=>by
  cases s with
  |nil=>exact absurd rfl h
  |cons x l=>exact Zms T x l
 have hSq: ∀ q∈S,∃ s,s≠ []∧P++s∈Zad K∧q=T++s:=fun q h=>(hSm q).1 h
 have hmem: ∀ q,q∈(Zad N).take (k+1)++S++(Zad N).drop (k+1)↔q∈Zad N∨q∈S:=fun q=>by
  rw[Ybn,Ybn]
  conv=>rhs;lhs;rw[←Ybk (k+1) (Zad N),Ybn]
  constructor
  · rintro((h|h)|h)
    · exact .inl (.inl h)
    · exact .inr h
    · exact .inl (.inr h)
  · rintro((h|h)|h)
    · exact .inl (.inl h)
    · exact .inr h
    · exact .inl (.inr h)
 obtain⟨X,hX⟩: ∃ X,Go.Proofs.Zq.insMB N (k+1) V=X:=⟨_,rfl⟩;have hXe:X=N.take (k+1)++V++N.drop (k+1):=hX.symm
 have hres:Zab X=true∧Zad X=(Zad N).take (k+1)++S++(Zad N).drop (k+1):=by
  rw[hXe];refine Zlu (Zhi (Zhi (Ziw _ hf) hfV) (Ziv _ hf)) ⟨?_,fun q hq=> ?_⟩ ?_
  · rw [Ybc,Yfg,Yfg];refine⟨ht.1.sublist (List.take_sublist _ _),⟨?_,ht.1.sublist (List.drop_sublist _ _),fun a ha b hb=> ?_⟩,fun a ha b hb=> ?_⟩
    · rw[Ydx];intro a b ha hb hab;obtain⟨s,-,s2,s3⟩:=hSs a ha;obtain⟨r,-,r2,r3⟩:=hSs b hb;have h1:=Znd hK (show i+1+a<i+1+b by omega) (show i+1+b<K.length by omega)
      rw[s2,r2,Zgi]at h1;rw[s3,r3,Zgi];exact h1
    · obtain⟨s,-,-,rfl⟩:=hSq a ha;exact beside s (hhi b hb).1 (hhi b hb).2
    · rcases Ybn.1 hb with hb|hb
      · obtain⟨s,s1,-,rfl⟩:=hSq b hb;rcases hlo a ha with e|e
        · rw[e];exact hpush s s1
        · exact Zcl e (hpush s s1)
      · rcases hlo a ha with e|e
        · rw[e];exact(hhi b hb).1
        · exact Zcl e (hhi b hb).1
  · rcases(hmem q).1 hq with h|h
    · obtain⟨h1,h2⟩:=ht.2 q h;exact⟨h1,h2.imp (fun h=>(hmem _).2 (.inl h)) id⟩
    · obtain⟨s,s1,s2,rfl⟩:=hSq q h;refine⟨by simp[s1], .inl ((hmem _).2 ?_)⟩
      rw[Ycr s1];by_cases h0:s.dropLast= []
      · rw[h0,Ybg];exact .inl hTm
      · refine .inr ((hSm _).2 ⟨_,h0, ?_,rfl⟩);rcases((Zcx hK).1.2 _ s2).2 with h|h
        · rwa [Ycr s1]at h
        · rw[Ycr s1]at h;exact absurd (Yey.1 h).2 h0
  · rw[Yae,Yae,Yah,Yan];omega
 rw[hX]
 have hz:(Zad X).zip X=((Zad N).take (k+1)).zip (N.take (k+1))++S.zip V++((Zad N).drop (k+1)).zip (N.drop (k+1)):=by
  rw[hres.2,hXe,List.zip_append (by simp[Zaf,hSl,hVl]),List.zip_append (by simp[Zaf])]
 have hzN:=Zbfr (Zad N) N (k+1) (Zaf N);refine⟨hres.1,fun q=> ?_⟩
 by_cases hq:q∈Zad N∨q∈S
 · obtain⟨l,hl⟩:=Zbfs (X:=X) (q:=q) (by rw[hres.2];exact(hmem q).2 hq)
   rw[Zasm hres.1 hl];rw[hz,Ybn,Ybn]at hl
   have old:(q,l)∈(Zad N).zip N→l.mark=if preB T q=true∧q≠T then stB K (P++q.drop T.length)else stB N q:=fun h=>by
    rw[Yab fun hh=>hh.2 (hno q (List.of_mem_zip h).1 hh.1),Zasm hN h]
   rcases hl with(hl|hl)|hl
   · exact old (by rw[hzN];exact List.mem_append_left _ hl)
   · obtain⟨j,hj,e⟩:=Ybs hl;rw[List.length_zip]at hj;rw[List.getElem_zip]at e;injection e with e1 e2
     obtain⟨h3,h4⟩:=hVj j (by omega)
     obtain⟨s,s1,s2,s3⟩:=hSs j (by omega)
     rw[s3]at e1;rw[Yam ⟨Zbn.2 ⟨s,e1.symm⟩,fun e=>s1 (by rw[e]at e1;simpa using e1)⟩,←e1,←e2,h4,show P++(T++s).drop T.length=pa K (i+1+j) by rw[s2];simp,st_at hK h3]
   · exact old (by rw[hzN];exact List.mem_append_right _ hl)
 · rw[st_none hres.1 (by rw[hres.2];exact fun h=>hq ((hmem q).1 h))]
   split
   · rename_i h;obtain⟨h1,h2⟩:=h;obtain⟨s,hs⟩:=Zbn.1 h1;refine(st_none hK fun hm=>hq (.inr ((hSm q).2 ⟨s, ?_, ?_,hs⟩))).symm
     · rintro rfl;rw[Ybg]at hs;exact h2 hs
     · rw[hs]at hm;simpa using hm
   · exact(st_none hN fun h=>hq (.inl h)).symm
theorem Zagw {L K R:List Line} {P:List ByteArray} {s:ByteArray} {i:Nat} (hK:Zab K=true) (hi:i<K.length) (hP:pa K i=P) (hU:P.dropLast= []∨P.dropLast∈Zad L) (h:Zdp L P s (Zcg K i)=(R,0)):
 Zab R=true∧ ∀ q,stB R q=if preB (P.dropLast++ [s]) q=true then stB K (P++q.drop P.length)else stB L q:=by
 have hPne:P≠ []:=by
  have:=Zbz (Zac hK).2.1 hi;rw[hP]at this;intro e;rw[e]at this;simp at this
 have hTl:(P.dropLast++ [s]).length=P.length:=by
  have:=Ydf.2 hPne;rw[Yae,Ycb];simp;omega
 unfold Zdp at h;obtain⟨T,hT⟩: ∃ T,P.dropLast++ [s]=T:=⟨_,rfl⟩;rw[hT]at h hTl⊢;split at h
 · injection h with _ h;exact absurd h (by decide)
 · rename_i h1;split at h
   · injection h with _ h;exact absurd h (by decide)
   · rename_i h2;split at h
     · rename_i h3;injection h with _ h
       exact absurd h h3
     · rename_i h3;injection h with h _
       have ha:addB L T=((addB L T).1,0):=by rw[←Decidable.not_not.1 h3]
       generalize (addB L T).1=M at *;obtain⟨hL,-,-,hTne,hM,hMs⟩:=Zamo ha;obtain⟨-,k,hk⟩:=Zsg ha;obtain⟨hkl,hkp⟩:=Zdn hM hk;have hTL: ¬ T∈Zad L:=fun hm=>h1 ((Zcz hL).2 hm)
       have hMs2: ∀ q,stB M q=if q=T then 0 else stB L q:=fun q=>by
        rw[hMs];by_cases hq:q=T
        · rw[Yam hq,Yab (by rw[hq,←Zdt hL];exact hTL),Yam ⟨by rw[hq];exact hTne,by rw[hq];exact Zbn.2 ⟨[],by simp⟩⟩]
        · rw [Yab hq];by_cases h0:0≤stB L q
          · rw[Yam h0]
          · rw [Yab h0,Yab,(Zbhd hL).1 fun hm=>h0 ((Zdt hL).1 hm)]
            rintro⟨g1,g2⟩;obtain⟨r,hr⟩:=Zbn.1 g2;by_cases hr0:r= []
            · rw[hr0,Ybg]at hr;exact hq hr.symm
            · have hd:P.dropLast=q++r.dropLast:=by
               have:=congrArg List.dropLast (hT.trans hr)
               rwa [Yeq,Ycr hr0]at this
              rcases hU with hU|hU
              · rw[hU]at hd;exact g1 (Yey.1 hd.symm).1
              · rw[hd]at hU;exact h0 ((Zdt hL).1 (Zty hL g1 hU))
       rw[hk]at h;simp only[Yfj]at h
       have hl0:Zck (Zcg K i) 0=K[i]:=by
        have hp:0<(Zcg K i).length:=by rw[Zjf hi];have:=Zbb K i hi;omega
        have e0:(Zcg K i)[0]?=some K[i]:=by
         unfold Zcg;rw[Ycv,Yam (by have:=Zbb K i hi;omega),Ycp,Ydy,Yaj hi]
        rw[Zcd hp];rw[Yaj hp]at e0;injection e0
       rw[hl0]at h;have hmk:=mark_at hK hi;obtain⟨g1,g2⟩:=Zaem hM hkl hmk;have g3:=Zakt hM hkl hmk;have hNl:(markB M k K[i].mark).length=M.length:=Zabu _ _ _;generalize markB M k K[i].mark=N at *;have hkN:pa N k=T:=by
        unfold pa;rw[g3];exact hkp
       rw[hkp]at g2
       have hno: ∀ q∈Zad N,preB (pa N k) q=true→q=pa N k:=fun q hq hp=>by
        rw[hkN]at hp⊢;refine Decidable.byContradiction fun hne=> ?_
        rw[g3,Zdt hM,hMs2,Yab hne,←Zdt hL]at hq;obtain⟨r,hr⟩:=Zbn.1 hp;rw[hr]at hq;exact hTL (Zty hL hTne hq)
       have hMl:M.length≤L.length+1:=by
        have:=List.Nodup.length_le_of_subset (Zaey hM) (l₂:=T::Zad L) fun q hq=>by
         rw[Zdt hM,hMs2]at hq;by_cases e:q=T
         · rw[e];exact Ycg ..
         · rw[Yab e,←Zdt hL]at hq;exact Yca _ hq
        rw[Ybd,Zaf,Zaf]at this;exact this
       have hpl:=Zjf hi;obtain⟨r1,r2⟩:=Zakg hK g1 hi (k:=k) (by omega) (by rw[hkN,hP,hTl]) hno (by have:=Zbb K i hi;omega)
       rw[h]at r1 r2;refine⟨r1,fun q=> ?_⟩
       rw[r2,hkN,hP,hTl];by_cases hp:preB T q=true
       · rw[Yam hp];by_cases e:q=T
         · rw[Yab fun hh=>hh.2 e,g2,Yam e,e,show T.drop P.length= []from Ybe (by omega),Ybg,←hP,st_at hK hi]
         · rw[Yam ⟨hp,e⟩]
       · rw[Yab hp,Yab fun hh=>hp hh.1]
         have e: ¬ q=T:=fun e=>hp (by rw[e];exact Zbn.2 ⟨[],by simp⟩)
         rw[g2,Yab e,hMs2,Yab e]
theorem up_of {L:List Line} (hr:Zab L=true) {P:List ByteArray} (h:P∈Zad L):P.dropLast= []∨P.dropLast∈Zad L:=((Zcx hr).1.2 P h).2.symm
theorem Zbbq {L R:List Line} {P:List ByteArray} {s:ByteArray} {k:Nat} (hr:Zab L=true) (hk:Zas L P=some k) (h:Zdp L P s (Zcg L k)=(R,0)):
 Zab R=true∧ ∀ q,stB R q=if preB (P.dropLast++ [s]) q=true then stB L (P++q.drop P.length)else stB L q:=by
 obtain⟨h1,h2⟩:=Zdn hr hk;exact Zagw hr h1 h2 (up_of hr (Zbp.2 ⟨k,h1,h2⟩)) h
theorem Zbha {L R:List Line} {P:List ByteArray} {s:ByteArray} {k:Nat} (hr:Zab L=true) (hk:Zas L P=some k) (h:Zdp (L.take k++L.drop (endB L k)) P s (Zcg L k)=(R,0)):
 Zab R=true∧ ∀ q,stB R q=if preB (P.dropLast++ [s]) q=true then stB L (P++q.drop P.length)else if preB P q=true then -1 else stB L q:=by
 obtain⟨h1,h2⟩:=Zdn hr hk;obtain⟨c1,c2⟩:=Zanm hr h1;rw[h2]at c2;have hne:P≠ []:=((Zcx hr).1.2 P (Zbp.2 ⟨k,h1,h2⟩)).1
 have hU:P.dropLast= []∨P.dropLast∈Zad (cutB L k):=(up_of hr (Zbp.2 ⟨k,h1,h2⟩)).imp id fun h=>by
  rw[Zdt c1,c2,Yab,←Zdt hr]
  · exact h
  · intro hp;obtain⟨r,e⟩:=Zbn.1 hp;have:=congrArg List.length e;have hp2:=Ydf.2 hne;rw[Yae,Ycb]at this;omega
 obtain⟨r1,r2⟩:=Zagw (L:=cutB L k) hr h1 h2 hU h;exact⟨r1,fun q=>by rw[r2,c2]⟩
theorem Zajq {L:List Line} {P:List ByteArray} {s:ByteArray} (hr:Zab L=true) (h:(Zkv L P s).2=0):Zab (Zkv L P s).1=true:=by
 unfold Zkv at h⊢;split
 · exact hr
 · rename_i h1;rw[Yab h1]at h;split
   · exact hr
   · rename_i h2;rw[Yab h2]at h;split
     · exact hr
     · rename_i k hk;rw[hk]at h;simp only at h;split
       · exact hr
       · rename_i h3;rw[Yab h3]at h;exact(Zbbq hr hk (R:=(Zdp L P s (Zcg L k)).1) (by rw[←h])).1
theorem Zarr {L:List Line} {P:List ByteArray} {s:ByteArray} (hr:Zab L=true) (h:(renB L P s).2=0):Zab (renB L P s).1=true:=by
 unfold renB at h⊢;split
 · exact hr
 · rename_i h1;rw[Yab h1]at h;split
   · exact hr
   · rename_i h2;rw[Yab h2]at h;split
     · exact hr
     · rename_i k hk;rw[hk]at h;simp only at h;split
       · exact hr
       · rename_i h3;rw[Yab h3]at h;split
         · exact hr
         · rename_i h4;rw[Yab h4]at h;split
           · exact hr
           · rename_i h5;exact(Zbha hr hk (R:=(Zdp (L.take k++L.drop (endB L k)) P s (Zcg L k)).1) (by rw[←Decidable.not_not.1 h5])).1
end Edt
namespace Prs
open Go Go.Lib Go.Sort Go.Proofs Tre Lx Sch
def Zpy (t:Tok):Prop:=t.word.size≤40∧(t.kind=5→t.bit=1∨t.bit=2)
theorem Zazy (l:List UInt8):(unqB l).1.length≤40:=by
 unfold unqB;simp only;split
 · exact Yas _
 · split
   · exact Yas _
   · simp only;omega
theorem Zbhm (s:List UInt8) (p:Nat):Zpy (tokB s p).1:=by
 unfold tokB;split
 · refine⟨Yas _,fun h=> ?_⟩
   simp only at h;unfold Zjn at h;split at h
   · cases h
   · split at h
     · cases h
     · split at h<;>cases h
 · split
   · exact⟨Yas _,fun h=>by cases h⟩
   · simp only;split
     · rename_i hb;refine⟨Yas _,fun _=> ?_⟩
       simp only;unfold bitB at hb⊢;split
       · exact .inl rfl
       · rename_i h1;rw[Yab h1]at hb;split
         · exact .inr rfl
         · rename_i h2;rw[Yab h2]at hb;exact absurd hb (by decide)
     · exact⟨Zazy _,fun h=>by cases h⟩
theorem Zafy (s:List UInt8): ∀ (f p:Nat) (out:List Tok),(∀ t∈out,Zpy t)→ ∀ t∈(Zjr s f p out).1,Zpy t
 |0,_,_,h=>h
 | f + 1,p,out,h=>by
   unfold Zjr;simp only;split
   · intro t ht;cases ht
   · split
     · exact h
     · split
       · intro t ht;cases ht
       · refine Zafy s f _ _ fun t ht=> ?_
         rcases Ybn.1 ht with ht|ht
         · exact h t ht
         · rw[Ybu]at ht;rw[ht];exact Zbhm _ _
theorem Zbab (s:List UInt8): ∀ t∈(allB s).1,Zpy t:=Zafy s _ _ _ fun _ h=>by cases h
theorem Zayj {b m:Int} (h:0≤b∧b≤3) (hm:m=1∨m=2):0≤bits .or .i64 b m∧bits .or .i64 b m≤3:=by
 have hb:b=0∨b=1∨b=2∨b=3:=by omega
 rcases hb with rfl|rfl|rfl|rfl<;>rcases hm with rfl|rfl<;>exact⟨by decide,by decide⟩
theorem Ztr: ∀ (l:List Tok) (b mk:Int) (ok:Bool) (l1:List Tok),(∀ t∈l,Zpy t)→0≤b∧b≤3→Zbs b l=(mk,ok,l1)→(0≤mk∧mk≤3)∧ ∀ t∈l1,Zpy t
 | [],b,mk,ok,l1,ht,hb,h=>by
   unfold Zbs at h;injection h with h1 h;injection h with _ h
   rw[←h1,←h];exact⟨hb,fun t ht=>by cases ht⟩
 | t ::r,b,mk,ok,l1,ht,hb,h=>by
   unfold Zbs at h;split at h
   · rename_i hk;split at h
     · injection h with h1 h;injection h with _ h
       rw[←h1,←h];exact⟨by decide,ht⟩
     · exact Ztr r _ mk ok l1 (fun x hx=>ht x (Yca _ hx)) (Zayj hb ((ht t (Ycg ..)).2 hk)) h
   · injection h with h1 h;injection h with _ h
     rw[←h1,←h];exact⟨hb,ht⟩
structure Fine (p:Pst):Prop where
 tok: ∀ t∈p.l,Zpy t
 snd: ∀ i,i<p.nodes.length→Zco (Zav p.nodes i).line=true
 dep: ∀ i,i<p.nodes.length→((Zav p.nodes i).up= -1∧(Zav p.nodes i).line.depth=0)∨ ∃ j:Nat,j<i∧(Zav p.nodes i).up=(j:Int)∧(Zav p.nodes i).line.depth=(Zav p.nodes j).line.depth+1
 opn: ∀ j (h:j<p.opn.length),p.opn[j]<p.nodes.length∧(Zav p.nodes p.opn[j]).line.depth=(j:Int)
theorem Zagq (l:List Tok) (h: ∀ t∈l,Zpy t):Fine ⟨l,[],[]⟩:=⟨h,fun _ h=>absurd h (Ydm _),fun _ h=>absurd h (Ydm _),fun _ h=>absurd h (Ydm _)⟩
theorem Zanz {l:List Tok} (h: ∀ t∈l,Zpy t) (n:Nat): ∀ t∈l.drop n,Zpy t:=fun t ht=>h t (Yfh ht)
theorem Zaog {l r:List Tok} {N:List Nd} {o:List Nat} (h:Fine ⟨l,N,o⟩) (hr: ∀ t∈r,Zpy t) {mk:Int} {s:ByteArray} (hs:s.size≤40) (hm:0≤mk∧mk≤3) (ho:o.length<16):
 Fine ⟨r,N++ [⟨⟨o.length,s,mk⟩,topB o⟩],o⟩:=by
 obtain⟨-,h2,h3,h4⟩:=h;simp only at h2 h3 h4;refine⟨hr,fun i hi=> ?_,fun i hi=> ?_,fun j hj=> ?_⟩
 · rw[Yae]at hi;simp only[Ybd,Ydz]at hi;rcases Ybp i N.length with hl|hl
   · rw[Zds hl];exact h2 i hl
   · obtain rfl:i=N.length:=by omega
     rw[Zfz];unfold Zco;simp only[Yaq,Yao];omega
 · rw [Yae]at hi;simp only[Ybd,Ydz]at hi;rcases Ybp i N.length with hl|hl
   · rw[Zds hl];rcases h3 i hl with g|⟨j,j1,j2,j3⟩
     · exact .inl g
     · exact .inr ⟨j,j1,j2,by rw[Zds (show j<N.length by omega)];exact j3⟩
   · obtain rfl:i=N.length:=by omega
     rw[Zfz];rcases Ybj o.length with h0|h0
     · have e:o= []:=Yap h0;subst e;exact .inl ⟨rfl,rfl⟩
     · obtain⟨g1,g2⟩:=h4 (o.length-1) (by omega)
       refine .inr ⟨o[o.length-1],g1, ?_, ?_⟩
       · show topB o=_;unfold topB;rw[Ydh,Yaj (by omega)]
       · rw[Zds g1,g2];show(o.length:Int)=_;omega
 · obtain⟨g1,g2⟩:=h4 j hj;exact⟨Ycc g1 (by simp),by rw[Zds g1];exact g2⟩
theorem Zbce {en:Int} {p:Pst} (h:Fine p) (he:(stB en p).2.1=0):Fine (stB en p).2.2:=by
 by_cases hk:(Zci en p.l).1=3
 · by_cases h0:p.opn.length=0
   · rw[Zup hk h0]at he;cases he
   · rw[Zsc hk h0];refine⟨Zanz h.tok 1,h.snd,h.dep,fun j hj=> ?_⟩
     simp only[Yah]at hj;simp only[Ycs];exact h.opn j (by omega)
 · rw [Zzm hk]at he⊢;obtain⟨mk,ok,l1,hm⟩: ∃ mk ok l1,Zbs 0 p.l=(mk,ok,l1):=⟨_,_,_,rfl⟩;obtain⟨hmr,hl1⟩:=Ztr _ _ _ _ _ h.tok (by decide) hm
   cases ok with
   |false=>rw[Zyq hm]at he;cases he
   | true=>
     by_cases hz:(nameB mk ⟨l1,p.nodes,p.opn⟩).1=0
     · rw [Zrs hm hz]at he⊢;obtain⟨t1,r1,e1⟩:=Zrt _ _ _ _ hm;obtain⟨e4,-,ho,-⟩:=Zahp (p:=⟨l1,p.nodes,p.opn⟩) e1 hz;rw[e4]at he⊢;have hf:Fine ⟨p.l,p.nodes,p.opn⟩:=h;have ht1:Zpy t1:=hl1 t1 (by rw[e1];exact Ycg ..)
       have hr1: ∀ t∈r1,Zpy t:=fun t ht=>hl1 t (by rw[e1];exact Yca _ ht)
       have g:=Zaog (r:=r1.drop 1) (mk:=mk) hf (Zanz hr1 1) ht1.1 hmr ho;obtain⟨nd,hnd⟩: ∃ nd:Nd,nd=⟨⟨(p.opn.length:Nat),t1.word,mk⟩,topB p.opn⟩:=⟨_,rfl⟩;have hndd:nd.line.depth=(p.opn.length:Int):=by rw[hnd]
       rw[←hnd]at g he⊢;clear hnd;by_cases h2:(Zci en r1).1=2
       · rw[end_open h2];refine⟨g.tok,g.snd,g.dep,fun j hj=> ?_⟩
         simp only[Yae,Ybd,Ydz]at hj;rcases Ybp j p.opn.length with hl|hl
         · simp only[Ydq hl];exact g.opn j hl
         · obtain rfl:j=p.opn.length:=by omega
           have e5:(p.opn++ [(p.nodes++ [nd]).length-1])[p.opn.length]'(by simp)=p.nodes.length:=by simp
           show(p.opn++ [(p.nodes++ [nd]).length-1])[p.opn.length]'(by simp)<(p.nodes++ [nd]).length∧(Zav (p.nodes++ [nd]) ((p.opn++ [(p.nodes++ [nd]).length-1])[p.opn.length]'(by simp))).line.depth=_
           rw[e5];exact⟨by simp,by rw[Zfz];exact hndd⟩
       · by_cases h4:(Zci en r1).1=4
         · rw[Zxu h4];exact g
         · rw[Zadt h2 h4]at he;cases he
     · rw[Zto hm hz]at he;exact absurd he hz
theorem Zye {en:Int}: ∀ (k:Nat) {p:Pst},Good p→Fine p→(goB en k p).2.1=0→Good (goB en k p).2.2∧Fine (goB en k p).2.2
 |0,p,hg,hf,_=>⟨hg,hf⟩
 | k + 1,p,hg,hf,h=>by
   unfold goB at h⊢;by_cases hl:p.l= []
   · rw[Yam hl];exact⟨hg,hf⟩
   · rw[Yab hl]at h⊢;by_cases he:(stB en p).2.1=0
     · rw[Yab (by simp[he])]at h⊢
       exact Zye k (Ztg hg hl he).1 (Zbce hf he) h
     · rw[Yam he]at h;exact absurd h he
def Zho:Nat→List Nd→List ByteArray→Int→List (List ByteArray)
 |0,_,_,_=> []
 |k+1,N,U,u=>(Zcv N u).flatMap fun i=>(U++ [(Zav N i).line.word])::Zho k N (U++ [(Zav N i).line.word]) (i:Nat)
theorem Zaax {α:Type} {f:α→List (List ByteArray)} {g:α→List Line}: ∀ (l:List α),(∀ x∈l,Zgr (f x) (g x))→Zgr (l.flatMap f) (l.flatMap g)
 | [],_=>trivial
 | x::l,h=>by
   rw[Ybl,Ybl];exact Zhi (h x (Ycg ..)) (Zaax l fun y hy=>h y (Yca _ hy))
section
variable {p:Pst} (hf:Fine p)
include hf
theorem Zbcn {u:Nat} {i:Nat} (hi:i∈Zcv p.nodes (u:Int)):(Zav p.nodes i).line.depth=(Zav p.nodes u).line.depth+1:=by
 obtain⟨h1,h2⟩:=Zcn.1 hi;rcases hf.dep i h1 with⟨g1,-⟩|⟨j,-,g2,g3⟩
 · omega
 · rw[g2]at h2;rw[g3,show j=u by omega]
theorem Zbdw {i:Nat} (hi:i∈Zcv p.nodes (-1)):(Zav p.nodes i).line.depth=0:=by
 obtain⟨h1,h2⟩:=Zcn.1 hi;rcases hf.dep i h1 with⟨-,g1⟩|⟨j,-,g2,-⟩
 · exact g1
 · omega
theorem Zacm: ∀ (k:Nat) (U:List ByteArray) (u:Int),(∀ i∈Zcv p.nodes u,(Zav p.nodes i).line.depth=(U.length:Int))→Zgr (Zho k p.nodes U u) (Zmd k p.nodes u)
 |0,_,_,_=>trivial
 | k+1,U,u,h=>by
   unfold Zho Zmd;refine Zaax _ fun i hi=>⟨⟨hf.snd i (Zcn.1 hi).1, ?_, ?_⟩,Zacm k _ _ fun j hj=> ?_⟩
   · rw[h i hi,Yae];simp
   · rw[Ycd,Ycy];rfl
   · rw[Zbcn hf hj,h i hi,Yae];simp
end
theorem Zpo {N:List Nd}: ∀ {k:Nat} {U:List ByteArray} {u:Int} {q:List ByteArray},q∈Zho k N U u→ ∃ i∈Zcv N u,∃ s,q=U++(Zav N i).line.word::s
 |0,_,_,_,h=>by cases h
 | k+1,U,u,q,h=>by
   unfold Zho at h;obtain⟨i,hi,h⟩:=Ydk.1 h;rcases Yav.1 h with h|h
   · exact⟨i,hi,[],h⟩
   · obtain⟨j,-,s,e⟩:=Zpo h;exact⟨i,hi,_,by rw[e,Ybc];rfl⟩
theorem Zaig {N:List Nd}: ∀ {k:Nat} {U:List ByteArray} {u:Int} {q:List ByteArray},q∈Zho k N U u→q.dropLast=U∨q.dropLast∈Zho k N U u
 |0,_,_,_,h=>by cases h
 | k +1,U,u,q,h=>by
   unfold Zho at h⊢;obtain⟨i,hi,h⟩:=Ydk.1 h;rcases Yav.1 h with h|h
   · left;rw[h,Yeq]
   · right
     refine Ydk.2 ⟨i,hi, ?_⟩;rcases Zaig h with e|e
     · rw[e];exact Ycg ..
     · exact Yca _ e
theorem Zazh {N:List Nd} (ha:Zrl N) (u:Int):(Zcv N u).Pairwise fun i j=>(Zav N i).line.word.toList<(Zav N j).line.word.toList:=by
 have hc:=Zahx N
 have hle: ∀ a b,(!(ltOf (cmpW N)) b a)=true↔cmpW N a b≤0:=fun a b=>by
  rw[hc.le_iff a b];unfold ltOf;rw[Ydp,decide_eq_false_iff_not];omega
 have h1:(Zcv N u).Pairwise fun x y=>(!(ltOf (cmpW N)) y x)=true:=by
  unfold Zcv;refine List.pairwise_mergeSort (le:=fun x y=> !(ltOf (cmpW N)) y x) (fun a b c h1 h2=> ?_) (fun a b=> ?_) _
  · rw[hle]at h1 h2⊢;exact hc.trans a b c h1 h2
  · rw[Yef,hle,hle];have:=hc.le_iff b a;omega
 refine(h1.and (Ydt.1 (Zuj N u))).imp_of_mem ?_;intro a b hma hmb ⟨h2,hne⟩;rw[hle]at h2;obtain⟨a1,a2⟩:=Zcn.1 hma;obtain⟨b1,b2⟩:=Zcn.1 hmb;have h0:cmpW N a b≠0:=fun h0=>hne (ha a b a1 b1 (a2.trans b2.symm) (ByteArray.ext (Yec.1 (Zqe (show compareBytes _ _=0 from h0)))))
 have h3:=Zsp.1 (show compareBytes (Zav N a).line.word.data.toList (Zav N b).line.word.data.toList<0 by have h4:compareBytes (Zav N a).line.word.data.toList (Zav N b).line.word.data.toList=cmpW N a b:=rfl;omega)
 rw[Lib.toList_data,Lib.toList_data];exact h3
theorem Zaif {N:List Nd} (ha:Zrl N): ∀ (k:Nat) (U:List ByteArray) (u:Int),(Zho k N U u).Pairwise pLt
 |0,_,_=>List.Pairwise.nil
 | k +1,U,u=>by
   unfold Zho;rw[List.pairwise_flatMap];refine⟨fun i _=>Ycj.2 ⟨fun q hq=> ?_,Zaif ha k _ _⟩,(Zazh ha u).imp fun {i j} hij x hx y hy=> ?_⟩
   · obtain⟨j,-,s,e⟩:=Zpo hq;rw[e];exact Zms _ _ _
   · have key: ∀ {i:Nat} {x:List ByteArray},x∈(U++ [(Zav N i).line.word])::Zho k N (U++ [(Zav N i).line.word]) (i:Nat)→ ∃ s,x=U++(Zav N i).line.word::s:=fun {i x} hx=>by
      rcases Yav.1 hx with h|h
      · exact⟨[],h⟩
      · obtain⟨j,-,s,e⟩:=Zpo h;exact⟨_,by rw[e,Ybc];rfl⟩
     obtain⟨s,rfl⟩:=key hx;obtain⟨r,rfl⟩:=key hy;rw[Zgi];exact Zke hij
theorem Zacn {p:Pst} (hg:Good p) (hf:Fine p) (k:Nat):Zab (Zmd k p.nodes (-1))=true∧Zad (Zmd k p.nodes (-1))=Zho k p.nodes [] (-1):=by
 refine Zlu (Zacm hf k [] (-1) fun i hi=>by rw[Zbdw hf hi];rfl) ⟨Zaif hg.ap _ _ _,fun q hq=>⟨?_,(Zaig hq).symm⟩⟩ (Yat (Zug hg.ups k (-1)) hg.len)
 obtain⟨i,-,s,e⟩:=Zpo hq;rw[e];simp
theorem Zaly {s:ByteArray} (h:(Zir s).2.2=0):Zab (Zir s).1=true:=by
 unfold Zir at h⊢;simp only at h⊢;split
 · rfl
 · rename_i h1;rw[Yab h1]at h;split
   · rfl
   · rename_i h2;rw[Yab h2]at h;split
     · rfl
     · obtain⟨g1,g2⟩:=Zye _ (good_nil _) (Zagq _ (Zbab _)) (Decidable.not_not.1 h2);exact(Zacn g1 g2 _).1
end Prs
namespace Edt
open Go Go.Lib Tre Sch Lns Prs Go.Proofs.Zq
structure PsOk (t:Int) (S:Ps):Prop where
 run:Zab S.run=true
 back:Zab S.back=true
 revs: ∀ r∈S.revs,Zab r.2=true
 base: ∀ k,k<3→Zab (S.ses k).base=true
 mine: ∀ k,k<3→Zab (S.ses k).mine=true
 len:(S.revs.length:Int)=min (Zbl S) 5
 last:0≤Zbl S∧Zbl S≤t
 clock:0≤S.clock∧S.clock≤2147483647
 dead:S.dead=0∨S.clock<S.dead∧S.dead≤S.clock+65535
 nums: ∀ (i:Nat) r,S.revs[i]?=some r→r.1=Zbl S-((S.revs.length:Int)-1-i)
 top: ∀ r,S.revs.getLast?=some r→r.2=S.run
 none:S.revs= []→S.run= []
 lock:0≤S.lock∧S.lock≤3
def Zeo:Ps:=⟨[],[],⟨false,[],[]⟩,⟨false,[],[]⟩,⟨false,[],[]⟩,0,0,0,[]⟩
theorem Zbr:Zab []=true:=by decide
theorem ses3 {p:Ss→Prop} {S:Ps} (h0:p S.s0) (h1:p S.s1) (h2:p S.s2) (k:Nat):p (S.ses k):=by
 unfold Ps.ses;split
 · exact h0
 · split
   · exact h1
   · exact h2
theorem Zom:PsOk 0 Zeo where
 run:=Zbr
 back:=Zbr
 revs _ h:=by cases h
 base k _:=ses3 (p:=fun s=>Zab s.base=true) Zbr Zbr Zbr k
 mine k _:=ses3 (p:=fun s=>Zab s.mine=true) Zbr Zbr Zbr k
 len:=rfl
 last:=by decide
 clock:=by decide
 dead:= .inl rfl
 nums i r h:=by cases h
 top r h:=by cases h
 none _:=rfl
 lock:=by decide
theorem PsOk.mono {t u:Int} {S:Ps} (h:PsOk t S) (hu:t≤u):PsOk u S:={h with last:=⟨h.last.1,Int.le_trans h.last.2 hu⟩}
theorem PsOk.len5 {t:Int} {S:Ps} (h:PsOk t S):S.revs.length≤5:=by have:=h.len;omega
theorem Zow (S:Ps) (T:List Line):Zbl (Zej S T)=Zbl S+1:=by
 have:(Zej S T).revs.getLast?=some (Zbl S+1,T):=by
  show((S.revs++ [(Zbl S+1,T)]).drop (S.revs.length+1-5)).getLast?=_;rw[List.getLast?_drop,Yab (by simp;omega),Ycy];rfl
 conv=>lhs;unfold Zbl
 rw[this]
theorem Zaho (S:Ps) (T:List Line):(Zej S T).revs.getLast?=some (Zbl S+1,T):=by
 show((S.revs++ [(Zbl S+1,T)]).drop (S.revs.length+1-5)).getLast?=_;rw[List.getLast?_drop,Yab (by simp;omega),Ycy];rfl
theorem Zahn (S:Ps) (T:List Line):(Zej S T).revs.length=S.revs.length+1-(S.revs.length+1-5):=by
 show((S.revs++ [(Zbl S+1,T)]).drop (S.revs.length+1-5)).length=_;rw[Yan,Yae];rfl
theorem PsOk.made {t:Int} {S:Ps} (h:PsOk t S) {T:List Line} (hT:Zab T=true):PsOk (t+1) (Zej S T) where
 run:=hT
 back:=h.back
 revs r hr:=by
  have hr:r∈(S.revs++ [(Zbl S+1,T)]).drop (S.revs.length+1-5):=hr;rcases Ybn.1 (Yfh hr)with hr|hr
  · exact h.revs r hr
  · rw[Ybu]at hr;rw[hr];exact hT
 base k hk:=h.base k hk
 mine k hk:=h.mine k hk
 len:=by
  rw[Zahn,Zow];have h1:=h.len;have h2:=h.last;omega
 last:=by rw[Zow];have:=h.last;omega
 clock:=h.clock
 dead:=h.dead
 nums i r hi:=by
  have hi:((S.revs++ [(Zbl S+1,T)]).drop (S.revs.length+1-5))[i]?=some r:=hi;rw[Ycp]at hi;rw[Zow,Zahn];by_cases hl:S.revs.length+1-5+i<S.revs.length
  · rw[Ych hl]at hi;rw[h.nums _ _ hi];omega
  · rw[Ybm (by omega)]at hi
    have h0:S.revs.length+1-5+i-S.revs.length=0:=by
     cases hx:S.revs.length+1-5+i-S.revs.length with
     |zero=>rfl
     |succ n=>rw[hx]at hi;cases hi
    rw[h0]at hi;injection hi with hi
    rw[←hi];show Zbl S+1=_;omega
 top r hr:=by
  rw[Zaho]at hr;injection hr with hr
  rw[←hr];rfl
 none hr:=by
  have:=Zaho S T;rw[hr]at this;cases this
 lock:=h.lock
theorem PsOk.setSes {t:Int} {S:Ps} (h:PsOk t S) {k:Nat} (hk:k<3) {b:Bool} {B M:List Line} (h1:Zab B=true) (h2:Zab M=true):PsOk t (S.setSes k ⟨b,B,M⟩):=by
 obtain⟨f0,f1,f2,f3,f4,f5⟩:=Zbv S k ⟨b,B,M⟩;have fl:Zbl (S.setSes k ⟨b,B,M⟩)=Zbl S:=by unfold Zbl;rw[f1]
 refine⟨f0▸h.run,f5▸h.back,f1▸h.revs,fun j hj=> ?_,fun j hj=> ?_,by rw[f1,fl];exact h.len,by rw[fl];exact h.last,by rw[f3];exact h.clock,by rw[f3,f4];exact h.dead,fun i r hr=> ?_,fun r hr=> ?_,fun hr=> ?_,by rw[f2];exact h.lock⟩
 · rw[Zod S k j _ hk hj];split
   · exact h1
   · exact h.base j hj
 · rw[Zod S k j _ hk hj];split
   · exact h2
   · exact h.mine j hj
 · rw[f1]at hr;rw[fl,f1];exact h.nums i r hr
 · rw[f1]at hr;rw[f0];exact h.top r hr
 · rw[f1]at hr;rw[f0];exact h.none hr
def Step (t:Int) (S:Ps) (z:Ps×Int×Int):Prop:=
 PsOk (t+1) z.1∧(z.2.1≠0→z.1=S)∧(Zbl z.1=Zbl S∨Zbl z.1=Zbl S+1∧z.2.2=Zbl z.1)
section
variable {t:Int} {S:Ps} (h:PsOk t S)
include h
theorem Zey (e n:Int):Step t S (S,e,n):=⟨h.mono (by omega),fun _=>rfl, .inl rfl⟩
omit h in
theorem Zhp {S':Ps} (h':PsOk t S') (hl:Zbl S'=Zbl S) (n:Int):Step t S (S',0,n):=⟨h'.mono (by omega),fun g=>absurd rfl g, .inl hl⟩
omit h in
theorem Zacr {S':Ps} (h':PsOk t S') (hl:Zbl S'=Zbl S) {T:List Line} (hT:Zab T=true):Step t S (Zej S' T,0,Zbl (Zej S' T)):=
 ⟨h'.made hT,fun g=>absurd rfl g, .inr ⟨by rw[Zow,hl],rfl⟩⟩
theorem Zasv (n:Int):Step t S (Zne S n):=by
 by_cases h1:n<0∨2147483647-S.clock<n
 · rw[Zbhi h1];exact Zey h _ _
 · have hc:=h.clock;by_cases h2:S.dead=0∨S.clock+n<S.dead
   · rw[Zbhj h1 h2];refine Zhp (S:=S) (S':={S with clock:=S.clock+n}) {h with clock:= ?_,dead:= ?_} rfl _
     · show 0≤S.clock+n∧S.clock+n≤2147483647;omega
     · show S.dead=0∨S.clock+n<S.dead∧S.dead≤S.clock+n+65535;have:=h.dead;omega
   · rw[Zbhk h1 h2];refine Zacr (S:=S) (S':=Zrm S n) {h with clock:= ?_,dead:= .inl rfl,back:=Zbr} rfl h.back
     show 0≤S.clock+n∧S.clock+n≤2147483647;omega
theorem Zaow (kind:Int) {k:Nat} (hk:k<3):Step t S (Zkx S kind k):=by
 have hl: ∀ l,0≤l∧l≤3→PsOk t {S with lock:=l}:=fun l hl=>{h with lock:=hl}
 have hsl: ∀ b B M,Zbl (S.setSes k ⟨b,B,M⟩)=Zbl S:=fun b B M=>by unfold Zbl;rw[(Zbv S k _).2.1]
 unfold Zkx;split
 · split
   · exact Zey h _ _
   · exact Zhp (h.setSes hk h.run h.run) (hsl _ _ _) _
 · split
   · have g:=h.setSes hk (b:=false) Zbr Zbr;refine Zhp (S:=S) (S':={S.setSes k ⟨false,[],[]⟩with lock:=if S.lock=(k:Int)+1 then 0 else S.lock}) {g with lock:= ?_} (hsl false [] []) _
     show 0≤(if S.lock=(k:Int)+1 then 0 else S.lock)∧(if S.lock=(k:Int)+1 then 0 else S.lock)≤3
     have:=h.lock;split<;>omega
   · split
     · split
       · exact Zey h _ _
       · exact Zhp (S:=S) (hl ((k:Int)+1) (by omega)) rfl _
     · split
       · split
         · exact Zey h _ _
         · exact Zhp (S:=S) (hl 0 (by omega)) rfl _
       · exact Zey h _ _
omit h in
theorem Zxn {B M R:List Line} (h1:Zab B=true) (h2:Zab M=true) (h3:Zab R=true) (he:(Zba B M R).2.1=0):Zab (Zba B M R).1=true:=by
 unfold Zba at he⊢;split
 · exact Zbr
 · rename_i g1;rw[Yab g1]at he;split
   · exact Zbr
   · rename_i g2;rw[Yab g2]at he;split
     · exact Zbr
     · split
       · exact Zbr
       · exact(Znv h1 h2 h3 (Decidable.not_not.1 g1)).1
theorem Zadl {k:Nat} (hk:k<3) (n:Int):Step t S (Zez S k n):=by
 unfold Zez;split
 · exact Zey h _ _
 · rename_i hn;simp only;split
   · exact Zey h _ _
   · rename_i he;have hT:=Zxn (h.base k hk) (h.mine k hk) h.run (Decidable.not_not.1 he);have g:=h.setSes hk (b:=true) hT hT;generalize (Zba (S.ses k).base (S.ses k).mine S.run).1=T at *;have gl:Zbl (S.setSes k ⟨true,T,T⟩)=Zbl S:=by unfold Zbl;rw[(Zbv S k _).2.1]
     split
     · exact Zhp g gl _
     · refine Zacr ?_ ?_ hT
       · unfold Zkl;have hc:=g.clock;split
         · exact {g with dead:= .inl rfl,back:=Zbr}
         · split
           · refine {g with dead:= .inr ?_,back:=h.run}
             show(S.setSes k ⟨true,T,T⟩).clock<(S.setSes k ⟨true,T,T⟩).clock+n∧(S.setSes k ⟨true,T,T⟩).clock+n≤(S.setSes k ⟨true,T,T⟩).clock+65535;omega
           · refine {g with dead:= .inr ?_}
             show(S.setSes k ⟨true,T,T⟩).clock<(S.setSes k ⟨true,T,T⟩).clock+n∧(S.setSes k ⟨true,T,T⟩).clock+n≤(S.setSes k ⟨true,T,T⟩).clock+65535;omega
       · unfold Zkl;split
         · exact gl
         · split<;>exact gl
theorem Zaji {k:Nat} (hk:k<3) (o:Opp) (he:(Zed S o k).2.1=0):Zab (Zed S o k).1=true:=by
 have hm:=h.mine k hk;unfold Zed at he⊢;simp only at he⊢;split
 · exact Zack hm
 · rename_i k1;rw [Yab k1]at he;split
   · exact Zanv hm
   · rename_i k2;rw[Yab k2]at he;split
     · exact Zwg hm
     · rename_i k3;rw[Yab k3]at he;split
       · exact Zwg hm
       · rename_i k4;rw[Yab k4]at he;split
         · rename_i k5;rw[Yam k5]at he;exact Zarr hm he
         · rename_i k5;rw[Yab k5]at he;split
           · rename_i k6;rw[Yam k6]at he;exact Zajq hm he
           · rename_i k6;rw[Yab k6]at he;split
             · rename_i k7;rw[Yam k7]at he;exact Zaly he
             · split
               · split
                 · exact Zbr
                 · simp only;cases hg:S.revs[S.revs.length-1-o.n.toNat]? with
                   |none=>exact Zbr
                   |some r=>exact h.revs r (List.mem_of_getElem? hg)
               · exact hm
theorem Zlf (o :Opp) (who:Int):Step t S (doS S o who):=by
 unfold doS;split
 · exact Zasv h _
 · split
   · exact Zey h _ _
   · rename_i hw;have hk:who.toNat<3:=by omega
     split
     · exact Zey h _ _
     · split
       · exact Zaow h _ hk
       · split
         · exact Zey h _ _
         · split
           · exact Zey h _ _
           · split
             · exact Zadl h hk _
             · split
               · rename_i he;exact Zhp (h.setSes hk (h.base _ hk) (Zaji h hk o he)) (by unfold Zbl;rw[(Zbv S who.toNat _).2.1]) _
               · exact Zey h _ _
end
end Edt
