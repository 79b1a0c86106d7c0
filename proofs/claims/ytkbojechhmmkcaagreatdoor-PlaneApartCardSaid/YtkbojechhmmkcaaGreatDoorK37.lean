import Derived.Test.YtkbojechhmmkcaaGreatDoorK36
set_option linter.unusedVariables false
set_option linter.unusedSimpArgs false
namespace Edt
open Go Go.Lib Tre Sch Lns Prs Go.Proofs.Zq
theorem Zahh {S S':List (List ByteArray)} {P:List ByteArray} (h1:S.Pairwise pLt) (h2:S'.Pairwise pLt) (h: ∀ w,P++ [w]∈S↔P++ [w]∈S'):kw S P=kw S' P:=by
 unfold kw
 rw[Zpp (h1.filter _) (h2.filter _) fun q=>by
  rw[Ycu,Ycu];constructor
  · rintro⟨a,b⟩;obtain⟨w,rfl⟩:=Ziy.1 b;exact⟨(h w).1 a,b⟩
  · rintro⟨a,b⟩;obtain⟨w,rfl⟩:=Ziy.1 b;exact⟨(h w).2 a,b⟩]
theorem Znu {P:List ByteArray} (h:Zwn P=true) {r:Rule} (hr:Zfi P=some r) (S:List (List ByteArray)):Zng S r.path P=false:=by
 unfold Zwn at h;rw[hr]at h;simp only[Ydp,Ydl,decide_eq_false_iff_not]at h;obtain⟨⟨⟨⟨h1,h2⟩,h3⟩,h4⟩,h5⟩:=h;unfold Zng;rw[Yab h1,Yab (fun e=>e.elim h2 h3),Yab h4,Yab h5]
theorem faults_same {S S':List (List ByteArray)} {P:List ByteArray} (hq:Zwn P=true) (hk:kw S P=kw S' P):Zgn S P=Zgn S' P:=by
 unfold Zgn;cases hr:Zfi P with
 |none=>rfl
 |some r=>simp only;unfold Zael;rw[hk,Znu hq hr,Znu hq hr]
theorem Zalx (S:List (List ByteArray)):Zgn S [tPol]= []:=by
 have h:(match Zfi [tPol]with|some r=> !r.one|none=>false)=true:=by decide+kernel
 have hn:Zek [tPol]= []:=by decide+kernel
 have hq:Zwn [tPol]=true:=by decide+kernel
 unfold Zgn;rw[Zaab,Yam rfl];cases hr:Zfi [tPol]with
 |none=>rw[hr]at h;cases h
 | some r=>
   rw[hr]at h;simp only[Ydp]at h;simp only;unfold Zael oneS Zapy;rw[hn,Znu hq hr,h];rfl
structure One (a x:ByteArray) (L:List Line):Prop where
 right:Zab L=true
 set:setB [] [tPol,a,tAct,x]=(L,0)
 path:Zad L=aP a x
 zero: ∀ p∈aP a x,stB L p=0
 fault: ∀ p∈aP a x,Zgn (aP a x) p= []∧Zwn p=true
theorem Zbaq {a x:ByteArray} (h:aOne a x=true):One a x (aL a x):=by
 unfold aOne at h;simp only[Yaq,Yao]at h;obtain⟨⟨⟨⟨h1,h2⟩,h3⟩,h4⟩,h5⟩:=h;have hs:setB [] [tPol,a,tAct,x]=(aL a x,0):=Prod.ext (Zahz h1) h2
 refine⟨by have:=Zack (L:= []) (P:= [tPol,a,tAct,x]) Zbr;rwa [hs]at this,hs,h3,fun p hp=>by simpa using Ybt.1 h4 p hp,fun p hp=>by
  have:=Ybt.1 h5 p hp;rw[Yaq,Yao]at this;exact this⟩
theorem Zkz {a x:ByteArray} {p:List ByteArray}:p∈aP a x↔p= [tPol]∨p= [tPol,a]∨p= [tPol,a,tAct]∨p= [tPol,a,tAct,x]:=by simp[aP]
theorem Zaml {a x:ByteArray} {p:List ByteArray} (h:p∈aP a x) (hl:1<p.length):p.dropLast∈aP a x:=by
 rcases Zkz.1 h with rfl|rfl|rfl|rfl
 · simp at hl
 all_goals simp[aP]
theorem Zamm {a x:ByteArray} {p:List ByteArray} (h:p∈aP a x) {k:Nat} (hk:k<p.length):p.take (k+1)∈aP a x:=by
 rcases Zkz.1 h with rfl|rfl|rfl|rfl
 · obtain rfl:k=0:=by simp at hk;omega
   simp[aP]
 · have:k=0∨k=1:=by simp at hk;omega
   rcases this with rfl|rfl<;>simp[aP]
 · have:k=0∨k=1∨k=2:=by simp at hk;omega
   rcases this with rfl|rfl|rfl<;>simp[aP]
 · have:k=0∨k=1∨k=2∨k=3:=by simp at hk;omega
   rcases this with rfl|rfl|rfl|rfl<;>simp[aP]
theorem Zxd {a x:ByteArray} {p:List ByteArray} (h:p∈aP a x):p.headD ⟨#[]⟩=tPol:=by
 rcases Zkz.1 h with rfl|rfl|rfl|rfl<;>rfl
theorem Zbaa {a b x y:ByteArray} (hab:a≠b) {p:List ByteArray} (h:p∈aP a x) (hp:p≠ [tPol]) (w:ByteArray): ¬ p++ [w]∈aP b y:=by
 have hba: ¬ b=a:=fun e=>hab e.symm
 rcases Zkz.1 h with rfl|rfl|rfl|rfl
 · exact absurd rfl hp
 all_goals
  rw[Zkz];simp[hab]
theorem Zyv: ∀ {l m:List (List ByteArray)},l.Nodup→(∀ x∈l,x∈m)→l.length≤m.length
 | [],_,_,_=>Yas _
 | x::l,m,hn,h=>by
   obtain⟨h1,h2⟩:=List.nodup_cons.1 hn;have hx:=h x (Ycg ..);have h3:=Zyv (m:=m.filter fun z=>decide (z≠x)) h2 fun y hy=>Ycu.2 ⟨h y (Yca _ hy),Yal fun e=>h1 (by rw[←e];exact hy)⟩
   have h4:(m.filter fun z=>decide (z≠x)).length<m.length:=List.length_filter_lt_length_iff_exists.2 ⟨x,hx,by simp⟩
   simp only[Ybd];omega
theorem Zasl {A:List (List ByteArray)} (h:A.Pairwise pLt):A.Nodup:=h.imp fun {a b} hlt e=>by rw[e]at hlt;exact Zby _ hlt
theorem Zahr {L:List Line} (hr:Zab L=true) (h: ∀ p∈Zad L,stB L p=0):ofS (Zad L) Zht=L:=by
 refine Eq.trans ?_ (Zayd hr);unfold ofS;refine Yeg fun p hp=> ?_
 unfold Zic Zht;rw[h p hp]
section
variable {a b x y:ByteArray} {A M:List Line} (hA:One a x A) (hM:One b y M) (hab:a≠b)
include hA hM
theorem Zaad (p:List ByteArray):p∈allP [] M A↔p∈aP b y∨p∈aP a x:=by
 rw[Zmn,hM.path,hA.path,show Zad ([]:List Line)= []from rfl];simp
theorem Zaac {p:List ByteArray} (hp:p∈allP [] M A):decB [] M A p=0:=by
 have e0:stB [] p= -1:=by
  have h1:=(Zacq Zbr p).1;have h2: ¬ 0≤stB [] p:=fun g=>by have:=(Zdt Zbr).2 g;cases this
  omega
 have hA1:stB A p=0∨stB A p= -1∧ ¬ p∈aP a x:=by
  by_cases h:p∈aP a x
  · exact .inl (hA.zero p h)
  · have h1:=Zacq hA.right p;have h2: ¬ 0≤stB A p:=fun g=>h (hA.path▸(Zdt hA.right).2 g)
    exact .inr ⟨by omega,h⟩
 have hM1:stB M p=0∨stB M p= -1∧ ¬ p∈aP b y:=by
  by_cases h:p∈aP b y
  · exact .inl (hM.zero p h)
  · have h1:=Zacq hM.right p;have h2: ¬ 0≤stB M p:=fun g=>h (hM.path▸(Zdt hM.right).2 g)
    exact .inr ⟨by omega,h⟩
 unfold decB;rw[e0];rcases hA1 with h1|⟨h1,n1⟩<;>rcases hM1 with h2|⟨h2,n2⟩<;>rw[h1,h2]
 · rfl
 · rfl
 · rfl
 · rcases(Zaad hA hM p).1 hp with h|h
   · exact absurd h n2
   · exact absurd h n1
theorem Zams {p:List ByteArray} (hp:p∈allP [] M A):conB [] M A p=false:=by
 unfold conB;rw[Zaac hA hM hp];by_cases hl:1<p.length
 · have hd:p.dropLast∈allP [] M A:=(Zaad hA hM _).2 (((Zaad hA hM p).1 hp).imp (fun h=>Zaml h hl) (fun h=>Zaml h hl))
   rw[Zaac hA hM hd,Ydl];exact⟨rfl,by rw[Yal hl];rfl⟩
 · rw[Yai hl];rfl
theorem Zatu:Zdw [] M A=(ofS (allP [] M A) (decB [] M A),0,0):=by
 have hb:badL [] M A= []:=List.filter_eq_nil_iff.2 fun p hp=>by rw[Zams hA hM hp];decide
 have hg:Zrp [] M A=allP [] M A:=Yee.2 fun p hp=>by
  unfold Ztf;rw[Zams hA hM hp,Zaac hA hM hp];rfl
 have hlen:(allP [] M A).length≤8:=by
  have:=Zzp (Zad []++Zad M++Zad A);rw[hM.path,hA.path]at this;unfold allP;rw[hM.path,hA.path];exact this
 unfold Zdw;rw[hb,hg,Yab (by decide),Yab (by omega)]
include hab
theorem Zbfx:(allP [] M A).length=7:=by
 have hba: ¬ b=a:=fun e=>hab e.symm
 have hE: ∀ p,p∈allP [] M A↔p∈([[tPol],[tPol,a],[tPol,a,tAct],[tPol,a,tAct,x],[tPol,b],[tPol,b,tAct],[tPol,b,tAct,y]]:List (List ByteArray)):=fun p=>by
  rw[Zaad hA hM,Zkz,Zkz];simp only[Yav,Ybq,or_false];constructor
  · rintro((h|h|h|h)|h|h|h|h)<;>simp[h]
  · rintro(h|h|h|h|h|h|h)<;>simp[h]
 have hN:([[tPol],[tPol,a],[tPol,a,tAct],[tPol,a,tAct,x],[tPol,b],[tPol,b,tAct],[tPol,b,tAct,y]]:List (List ByteArray)).Nodup:=by
  simp[hab]
 have h1:=Zyv (Zasl (Zsb _:(allP [] M A).Pairwise pLt)) fun p hp=>(hE p).1 hp
 have h2:=Zyv hN fun p hp=>(hE p).2 hp
 exact Nat.le_antisymm h1 h2
theorem Zaja: ∃ X,Zba [] M A=(X,0,0)∧Zab X=true∧X.length=7∧ ∀ p,p∈Zad X↔p∈aP b y∨p∈aP a x:=by
 have hmg:=Zatu hA hM;obtain⟨X,hX⟩: ∃ X,ofS (allP [] M A) (decB [] M A)=X:=⟨_,rfl⟩;rw[hX]at hmg;have hmr:=Znv (B:= []) (M:=M) (T:=A) Zbr hM.right hA.right (by rw[hmg])
 rw[hmg]at hmr;obtain⟨r1,r2,r3,-,-⟩:=hmr
 have hg:Zrp [] M A=allP [] M A:=Yee.2 fun p hp=>by
  unfold Ztf;rw[Zams hA hM hp,Zaac hA hM hp];rfl
 rw[hg]at r2 r3;simp only at r1 r2 r3;have hmem: ∀ p,p∈Zad X↔p∈aP b y∨p∈aP a x:=fun p=>by rw[r2];exact Zaad hA hM p
 have hz: ∀ p∈Zad X,stB X p=0:=fun p hp=>by
  rw[r2]at hp;rw[r3 p hp,Zaac hA hM hp]
 have hact:actP X=Zad X:=Yee.2 fun p hp=>by
  unfold onB offB;rw[Ydp,Yfc];intro k hk;have hk:=Ycm.1 hk;rw[hz (p.take (k+1)) ((hmem _).2 (((hmem p).1 hp).imp (fun h=>Zamm h hk) (fun h=>Zamm h hk)))]
  decide
 have hacB:Zal X=X:=by unfold Zal;rw[hact];exact Zahr r1 hz
 have hexP:expP X=Zad X:=by
  unfold expP;rw[hact];refine Yee.2 fun p hp=> ?_
  unfold Znt;rw[show p.headD ⟨#[]⟩=tPol from((hmem p).1 hp).elim Zxd Zxd];decide+kernel
 have hexB:Zih X=X:=by unfold Zih;rw[hexP];exact Zahr r1 hz
 have hw:Zdk X [Zfr]= []:=by
  have hn:Zas X [Zfr]=none:=by
   cases hf:Zas X [Zfr]with
   |none=>rfl
   | some k=>
     have h1:=(Zcz r1).1 (show(Zas X [Zfr]).isSome=true by rw[hf];rfl)
     have h2:([Zfr]:List ByteArray).headD ⟨#[]⟩=tPol:=((hmem _).1 h1).elim Zxd Zxd;exact absurd h2 (by decide+kernel)
  unfold Zdk;rw[hn];rfl
 have hex:Zdx X=(X,0):=by
  unfold Zdx;rw[hacB,hw,hexB];rfl
 have hck:Zhx X= []:=by
  rw[Zadj r1];unfold Zanc;rw[List.flatMap_eq_nil_iff];intro p hp;by_cases h0:p= [tPol]
  · rw[h0];exact Zalx _
  · rcases(hmem p).1 hp with h|h
    · obtain⟨f1,f2⟩:=hM.fault p h;rw[←f1,←hM.path];refine faults_same f2 (Zahh (Zcx r1).1.1 (Zcx hM.right).1.1 fun w=> ?_)
      rw[hmem,hM.path];exact⟨fun g=>g.elim id fun g=>absurd g (Zbaa (fun e=>hab e.symm) h h0 w), .inl⟩
    · obtain⟨f1,f2⟩:=hA.fault p h;rw[←f1,←hA.path];refine faults_same f2 (Zahh (Zcx r1).1.1 (Zcx hA.right).1.1 fun w=> ?_)
      rw[hmem,hA.path];exact⟨fun g=>g.elim (fun g=>absurd g (Zbaa hab h h0 w)) id, .inr⟩
 refine⟨X,Zbgb hmg hex r1 (by rw[hck];decide),r1, ?_,hmem⟩
 rw[←hX,Zlt];exact Zbfx hA hM hab
end
end Edt
