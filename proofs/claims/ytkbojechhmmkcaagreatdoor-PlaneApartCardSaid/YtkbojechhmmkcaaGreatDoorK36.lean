import Derived.Test.YtkbojechhmmkcaaGreatDoorK35
import Derived.Test.YtkbojechhmmkcaaGreatDoorK34
set_option linter.unusedVariables false
set_option linter.unusedSimpArgs false
namespace Edt
open Go Go.Lib Tre Sch Lns Prs Go.Proofs.Zq
def tDen:ByteArray:=⟨#[100,101,110,121]⟩
def aP (a x:ByteArray):List (List ByteArray):= [[tPol],[tPol,a],[tPol,a,tAct],[tPol,a,tAct,x]]
def aL (a x:ByteArray):List Line:= [⟨0,tPol,0⟩,⟨1,a,0⟩,⟨2,tAct,0⟩,⟨3,x,0⟩]
def Zazd (L M:List Line):Bool:=decide (L.map Line.depth=M.map Line.depth)&&decide (L.map Line.word=M.map Line.word)&&decide (L.map Line.mark=M.map Line.mark)
theorem Zahz: ∀ {L M:List Line},Zazd L M=true→L=M:=by
 intro L M h;unfold Zazd at h;simp only[Yaq,Yao]at h;obtain⟨⟨h1,h2⟩,h3⟩:=h;refine List.ext_getElem (by have:=congrArg List.length h1;simpa using this) fun k k1 k2=> ?_
 have e1:=Yen h1 (by simpa using k1)
 have e2:=Yen h2 (by simpa using k1)
 have e3:=Yen h3 (by simpa using k1)
 simp only[Ycz]at e1 e2 e3;cases hL:L[k];cases hM:M[k];rw[hL,hM]at e1 e2 e3;simp only at e1 e2 e3;rw[e1,e2,e3]
def Zwn (P:List ByteArray):Bool:=match Zfi P with|none=>true|some r=> !(decide (Zee r.path=m1)||decide (Zee r.path=m2)||decide (Zee r.path=m3)||decide (Zee r.path=m4)||decide (Zee r.path=m5))
def aOne (a x:ByteArray):Bool:=
 Zazd (setB [] [tPol,a,tAct,x]).1 (aL a x)&&decide ((setB [] [tPol,a,tAct,x]).2=0)&&decide (Zad (aL a x)=aP a x)&&(aP a x).all (fun p=>decide (stB (aL a x) p=0))&&(aP a x).all (fun p=>decide (Zgn (aP a x) p= [])&&Zwn p)
def aOk (n:Nat):Bool:=
 aOne (tDig n) tPer&&aOne (tDig n) tDen&&Zazd (Zba [] (aL (tDig n) tPer) []).1 (aL (tDig n) tPer)&&decide ((Zba [] (aL (tDig n) tPer) []).2=(0,0))&&decide ((Zba [] (aL (tDig n) tDen) (aL (tDig n) tPer)).2=(7,1))
end Edt
