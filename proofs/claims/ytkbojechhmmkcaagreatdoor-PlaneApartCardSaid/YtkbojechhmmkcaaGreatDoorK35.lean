import Derived.Test.YtkbojechhmmkcaaGreatDoorK30
set_option linter.unusedVariables false
set_option linter.unusedSimpArgs false
namespace Edt
open Go Go.Lib Tre Sch Lns Prs Go.Proofs.Zq
def opQ (kind:Int) (p:List ByteArray):Opp:=⟨kind,p,⟨#[]⟩,0,0,⟨#[]⟩⟩
def tPol:ByteArray:=⟨#[112,111,108,105,99,121]⟩
def tAct:ByteArray:=⟨#[97,99,116,105,111,110]⟩
def tPer:ByteArray:=⟨#[112,101,114,109,105,116]⟩
def tFro:ByteArray:=⟨#[102,114,111,109]⟩
def tNet:ByteArray:=⟨#[49,48,46,48,46,48,46,48,47,56]⟩
def tDig (n:Nat):ByteArray:=⟨(decDigits (1+n)).toArray⟩
def tS (a:ByteArray):Ps:=
 (doS (doS (doS (doS (doS (doS (doS Zeo (opQ 1 []) 0).1 (opQ 5 [tPol,a,tAct,tPer]) 0).1 (opQ 14 []) 0).1 (opQ 1 []) 1).1 (opQ 6 [tPol,a]) 0).1 (opQ 5 [tPol,a,tFro,tNet]) 1).1 (opQ 14 []) 0).1
def tOk (n:Nat):Bool:=
 let p:=tS (tDig n)
 let z:=doS p (opQ 14 []) 1
 let y:=doS z.1 (opQ 13 []) 1
 decide (Zbl p=2)&&decide (p.run.length=1)&&decide (z.2=(8,1))&&decide (y.2=(8,1))&&decide (z.1.run.length=1)&&decide ((doS (doS (doS y.1 (opQ 2 []) 1).1 (opQ 1 []) 1).1 (opQ 14 []) 1).2=(0,0))
end Edt
