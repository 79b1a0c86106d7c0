/-
  DERIVED. GIVEN WITH THE SEED: THE CARDS: each row of YtdamidelojccaaaGreatDoorRows.lean that lists a variable, with what it lists TIED to the program's text (the seventh form; the later family's looks); each row that meets fmt, with fmt's text TOLD by the authors' own Lean function (tested against real Go, not proved from fmt's source: count such statements apart). THE CARD IS WHAT COUNTS. Prove the row's statement (the work); the ties are given (YtdamidelojccaaaGreatDoorTie.lean); close each card by the builder's one call (the guide's Derived/Test/ToyasCard.lean, 'card_holds'). Laid BY PROGRAM, IN A SANDBOX (cutbox-door.mjs). By AI agents, Wed Nov 11 2026. No macro, syntax, notation, axiom, sorry.
-/
import Derived.Test.YtdamidelojccaaaGreatDoorRows
import GoSem.ClaimSeven
namespace Go.Proofs.YtdamidelojccaaaGreatDoor
namespace Rows

/-- THE TIED CARD OF 'ferrysliplaw20.PlaneStays'. -/
def planeStaysCard : Claim7 := { stood := { row := planeStaysRow, standIns := [], harness := (true, "b6002e7524b9518e7adfe168f70bf6956723b71c65f472dc760ec3d691a758e5"), looks := true }, kinds := [], alts := [], laidByText := true, laidKinds := [.data, .data, .data, .data, .sentinel, .sentinel, .pinned], laidTests := true, laidLooks := .later }
def PlaneStaysCardSaid : Prop := Claim7.holds Tryz.pinned (.plain (OpenSpec.ofChange planeStaysSpec)) planeStaysCard

/-- THE SECOND FORM's CARD OF 'ferrysliplaw20.PlaneStays'. -/
def planeStaysUptoCard : Claim7 := { stood := { row := planeStaysUptoRow, standIns := [], harness := (true, "b6002e7524b9518e7adfe168f70bf6956723b71c65f472dc760ec3d691a758e5"), looks := true }, kinds := [], alts := [], laidByText := true, laidKinds := [.data, .data, .data, .data, .sentinel, .sentinel, .pinned], laidTests := true, laidLooks := .later }
def PlaneStaysUptoCardSaid : Prop := Claim7.holds Tryz.pinned (.plain (OpenSpec.upto planeStaysSpec)) planeStaysUptoCard
end Rows
end Go.Proofs.YtdamidelojccaaaGreatDoor
