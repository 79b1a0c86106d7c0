/- The card of PlaneApart: what it calls begins nothing beside it. -/
import Derived.Test.YtkbojechhmmkcaaGreatDoorCPlaneApartA
namespace Go.Proofs.YtkbojechhmmkcaaGreatDoor.cPlaneApart
open Go Go.ChangeShapes Go.WideShapes Go.ChangeAt Go.RowKit
open Go.ChangeMaps (open_string)
set_option maxRecDepth 100000 in
set_option maxHeartbeats 40000000 in
theorem goes : false = Rows.planeApartRow.goesBy Tryz.pinned.checked.prog := by
  have h1 : Tryz.pinned.checked.prog.funcNamed Rows.planeApartRow.func = some 5 := by as_aux_lemma => kernel_rfl
  have h2 : ((Tryz.pinned.checked.prog.closure 5).any fun g => (Tryz.pinned.checked.prog.funcs[g]?).any Func.goes) = false := by as_aux_lemma => kernel_rfl
  have h3 : Tryz.pinned.checked.prog.funcs.any Func.goes = false := by as_aux_lemma => kernel_rfl
  unfold OpenClaim.goesBy Program.goesAt Program.goesFrom
  rw [h1]
  show false = ((Program.goes _ _) || false)
  unfold Program.goes
  rw [h2, h3, Bool.and_false]
  rfl

end Go.Proofs.YtkbojechhmmkcaaGreatDoor.cPlaneApart
