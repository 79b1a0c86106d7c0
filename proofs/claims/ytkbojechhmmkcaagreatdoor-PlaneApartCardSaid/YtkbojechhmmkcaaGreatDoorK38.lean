import Derived.Test.YtkbojechhmmkcaaGreatDoorK37
set_option linter.unusedVariables false
set_option linter.unusedSimpArgs false
namespace Edt
open Go Go.Lib Tre Sch Lns Prs Go.Proofs.Zq
def Zhv (a:ByteArray):List ByteArray:= [tPol,a,tAct,tPer]
def Zen (b:ByteArray):List ByteArray:= [tPol,b,tAct,tDen]
def apS (A M:List Line):Ps:=⟨[],[],⟨true,[],A⟩,⟨true,[],M⟩,⟨false,[],[]⟩,0,0,0,[]⟩
def apT (A M:List Line):Ps:=⟨A,[(1,A)],⟨true,A,A⟩,⟨true,[],M⟩,⟨false,[],[]⟩,0,0,0,[]⟩
section
variable {a b:ByteArray} {A M:List Line} (hA:One a tPer A) (hM:One b tDen M)
include hA hM
theorem Zatv:(doS (doS (doS (doS Zeo (opQ 1 []) 0).1 (opQ 1 []) 1).1 (opQ 5 (Zhv a)) 0).1 (opQ 5 (Zen b)) 1).1=apS A M:=by
 have e1:(doS (doS Zeo (opQ 1 []) 0).1 (opQ 1 []) 1).1=⟨[],[],⟨true,[],[]⟩,⟨true,[],[]⟩,⟨false,[],[]⟩,0,0,0,[]⟩:=rfl;rw[e1];have e2:doS ⟨[],[],⟨true,[],[]⟩,⟨true,[],[]⟩,⟨false,[],[]⟩,0,0,0,[]⟩ (opQ 5 (Zhv a)) 0=_:=do_8 (o:=opQ 5 (Zhv a)) (k:=0) (show(5:Int)≠15 by decide) (show(1:Int)≤5 by decide) (show(5:Int)≤15 by decide) (by decide) rfl (show(4:Int)<5 by decide) (show(5:Int)≠13 by decide) (show(5:Int)≠14 by decide) (fun h=>h.1 rfl)
 rw[show Zed ⟨[],[],⟨true,[],[]⟩,⟨true,[],[]⟩,⟨false,[],[]⟩,0,0,0,[]⟩ (opQ 5 (Zhv a)) 0=((setB [] (Zhv a)).1,(setB [] (Zhv a)).2,0)from rfl,show setB [] (Zhv a)=(A,0)from hA.set,Yam rfl]at e2;rw[e2];have e3:doS ⟨[],[],⟨true,[],A⟩,⟨true,[],[]⟩,⟨false,[],[]⟩,0,0,0,[]⟩ (opQ 5 (Zen b)) 1=_:=do_8 (o:=opQ 5 (Zen b)) (k:=1) (show(5:Int)≠15 by decide) (show(1:Int)≤5 by decide) (show(5:Int)≤15 by decide) (by decide) rfl (show(4:Int)<5 by decide) (show(5:Int)≠13 by decide) (show(5:Int)≠14 by decide) (fun h=>h.1 rfl)
 rw[show Zed ⟨[],[],⟨true,[],A⟩,⟨true,[],[]⟩,⟨false,[],[]⟩,0,0,0,[]⟩ (opQ 5 (Zen b)) 1=((setB [] (Zen b)).1,(setB [] (Zen b)).2,0)from rfl,show setB [] (Zen b)=(M,0)from hM.set,Yam rfl]at e3;exact congrArg Prod.fst e3
omit hM in
theorem Zaqg:A.length=4:=by rw[←Zaf,hA.path];rfl
omit hM in
theorem Zatt (hc:Zba [] A []=(A,0,0)):doS (apS A M) (opQ 14 []) 0=(apT A M,0,1):=by
 have e:doS (apS A M) (opQ 14 []) 0=_:=do_7 (o:=opQ 14 []) (k:=0) (show(14:Int)≠15 by decide) (by decide) rfl rfl (fun h=>h.1 rfl)
 rw[e];unfold Zez;rw[Yab (by decide),show Zba ((apS A M).ses 0).base ((apS A M).ses 0).mine (apS A M).run=(A,0,0)from hc]
 simp only;rw[Yab (by decide),Yab (by rw[show(apS A M).run= []from rfl,Zxw A [] (by rw[Zaqg hA];decide)];simp)]
 rfl
theorem Zajc (hab:a≠b): ∃ S6,doS (apT A M) (opQ 14 []) 1=(S6,0,2)∧Zab S6.run=true∧S6.run.length=7∧0≤Zcj S6.run (Zhv a)∧0≤Zcj S6.run (Zen b):=by
 obtain⟨X,hX,hr,hl,hm⟩:=Zaja hA hM hab
 have hf: ∀ P,P∈Zad X→0≤Zcj X P:=fun P h=>by
  rw[Zqt hr];have:=(Zcz hr).2 h;cases hk:Zas X P with
  |none=>rw[hk]at this;cases this
  |some k=>simp
 have e:doS (apT A M) (opQ 14 []) 1=_:=do_7 (o:=opQ 14 []) (k:=1) (show(14:Int)≠15 by decide) (by decide) rfl rfl (fun h=>h.1 rfl)
 rw[e];unfold Zez;rw[Yab (by decide),show Zba ((apT A M).ses 1).base ((apT A M).ses 1).mine (apT A M).run=(X,0,0)from hX]
 simp only;rw[Yab (by decide),Yab (by rw[show(apT A M).run=A from rfl,Zxw X A (by rw[Zaqg hA,hl];decide)];simp)]
 exact⟨_,rfl,hr,hl,hf _ ((hm _).2 (.inr (Zkz.2 (.inr (.inr (.inr rfl)))))),hf _ ((hm _).2 (.inl (Zkz.2 (.inr (.inr (.inr rfl))))))⟩
omit hM in
theorem Zajb (hc:(Zba [] M A).2=(7,1)) (hab:a=b):doS (apT A M) (opQ 14 []) 1=(apT A M,7,1)∧0≤Zcj A (Zhv a)∧Zcj A (Zen b)= -1:=by
 have e:doS (apT A M) (opQ 14 []) 1=_:=do_7 (o:=opQ 14 []) (k:=1) (show(14:Int)≠15 by decide) (by decide) rfl rfl (fun h=>h.1 rfl)
 refine⟨?_, ?_, ?_⟩
 · rw[e];unfold Zez;rw[Yab (by decide),show Zba ((apT A M).ses 1).base ((apT A M).ses 1).mine (apT A M).run=Zba [] M A from rfl]
   simp only;rw[show(Zba [] M A).2.1=7 by rw[hc],show(Zba [] M A).2.2=1 by rw[hc],Yam (by decide)]
 · rw[Zqt hA.right];have:=(Zcz hA.right).2 (show Zhv a∈Zad A by rw[hA.path];exact Zkz.2 (.inr (.inr (.inr rfl))))
   cases hk:Zas A (Zhv a)with
   |none=>rw[hk]at this;cases this
   |some k=>simp
 · rw[Zqt hA.right];cases hk:Zas A (Zen b)with
   |none=>rfl
   | some k=>
     have h1:=(Zcz hA.right).1 (show(Zas A (Zen b)).isSome=true by rw[hk];rfl)
     rw[hA.path,Zkz]at h1;have hd: ¬ tDen=tPer:=by decide+kernel
     simp[Zen,hd]at h1
end
theorem Zbfw {n m:Nat} (hn:aOk n=true) (hm:aOk m=true): ∃ S T,(doS (doS (doS (doS Zeo (opQ 1 []) 0).1 (opQ 1 []) 1).1 (opQ 5 (Zhv (tDig n))) 0).1 (opQ 5 (Zen (tDig m))) 1).1=S∧doS S (opQ 14 []) 0=(T,0,1)∧
 ((tDig n=tDig m∧doS T (opQ 14 []) 1=(T,7,1)∧0≤Zcj T.run (Zhv (tDig n))∧Zcj T.run (Zen (tDig m))= -1)∨
  (tDig n≠tDig m∧ ∃ U,doS T (opQ 14 []) 1=(U,0,2)∧Zab U.run=true∧U.run.length=7∧0≤Zcj U.run (Zhv (tDig n))∧0≤Zcj U.run (Zen (tDig m)))):=by
 unfold aOk at hn hm;simp only[Yaq,Yao]at hn hm;obtain⟨⟨⟨⟨n1,-⟩,n3⟩,n4⟩,n5⟩:=hn;obtain⟨⟨⟨⟨-,m2⟩,-⟩,-⟩,-⟩:=hm;have hA:=Zbaq n1;have hM:=Zbaq m2;refine⟨_,_,Zatv hA hM,Zatt hA (M:=aL (tDig m) tDen) (Prod.ext (Zahz n3) n4), ?_⟩;by_cases h:tDig n=tDig m
 · exact .inl ⟨h,Zajb hA (M:=aL (tDig m) tDen) (by rw[←h];exact n5) h⟩
 · exact .inr ⟨h,Zajc hA hM h⟩
end Edt
