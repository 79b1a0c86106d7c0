import Derived.Test.YtkbojechhmmkcaaGreatDoorK34
import Derived.Test.YtkbojechhmmkcaaGreatDoorK35
set_option linter.unusedVariables false
set_option linter.unusedSimpArgs false
namespace Go.Proofs.Zq
open Tryz
open Go Go.RowKit Go.Sort Tre Lx Prs Lns Edt Sch
theorem Zafb {W:World} {b:Nat} {T:TypeId} {P:List ByteArray} (h:Bl W b (sv P).toArray T):Rd W 1 (some ⟨b,0,none⟩) P.length (sv P):=
 ⟨by rw[Zie,Nat.mul_one],fun _=>⟨_,rfl,h.lt,fun j v hv=>by
  have h1:=h.cell j;rw[Ycw,hv]at h1;rw[Zag,Ybi];exact h1⟩⟩
theorem Zaql {W:World} {b:Nat} {T:TypeId} {L:List OpM} (h:Bl W b (opcs L).toArray T) (hx: ∀ x∈L,x.Ok W):Ops W (some ⟨b,0,none⟩) L:=
 ⟨⟨Zhm L,fun _=>⟨_,rfl,h.lt,fun j v hv=>by
   have h1:=h.cell j;rw[Ycw,hv]at h1;rw[Zag,Ybi];exact h1⟩⟩,hx⟩
theorem okQ {W:World} {k who:Int} {A:Option Addr} {c:Nat} {P:List ByteArray} (h:Rd W 1 A P.length (sv P)) (hc:P.length≤c) (h1:c≤10):(OpM.mk (opQ k P) who A c).Ok W:=⟨h,hc,Yat h1 (by decide),by show -9223372036854775808≤(0:Int)∧(0:Int)≤9223372036854775807;omega⟩
end Go.Proofs.Zq
