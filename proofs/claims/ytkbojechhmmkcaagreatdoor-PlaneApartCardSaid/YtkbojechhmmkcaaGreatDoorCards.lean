/-
  DERIVED. GIVEN WITH THE SEED: THE CARDS: each row of YtkbojechhmmkcaaGreatDoorRows.lean that lists a variable, with what it lists TIED to the program's text (the seventh form; the later family's looks); each row that meets fmt, with fmt's text TOLD by the authors' own Lean function (tested against real Go, not proved from fmt's source: count such statements apart). THE CARD IS WHAT COUNTS. Prove the row's statement (the work); the ties are given (YtkbojechhmmkcaaGreatDoorTie.lean); close each card by the builder's one call (the guide's Derived/Test/ToyasCard.lean, 'card_holds'). Laid BY PROGRAM, IN A SANDBOX (cutbox-door.mjs). By AI agents, Wed Nov 11 2026. No macro, syntax, notation, axiom, sorry.
-/
import Derived.Test.YtkbojechhmmkcaaGreatDoorRows
import GoSem.ClaimSeven
namespace Go.Proofs.YtkbojechhmmkcaaGreatDoor
namespace Rows

/-- THE TIED CARD OF 'ferrysliplaw20.PlaneTimer'. -/
def planeTimerCard : Claim7 := { stood := { row := planeTimerRow, standIns := [], harness := (true, "7f93ccfe86c1ea95e39c2bf7f302156a3b449de1937bf909673b449f639f632b"), looks := true }, kinds := [], alts := [], laidByText := true, laidKinds := [.data, .data, .data, .data, .sentinel, .sentinel, .pinned], laidTests := true, laidLooks := .later }
def PlaneTimerCardSaid : Prop := Claim7.holds Tryz.pinned (.plain (OpenSpec.ofChange planeTimerSpec)) planeTimerCard

/-- THE TIED CARD OF 'ferrysliplaw20.PlaneShown'. -/
def planeShownCard : Claim7 := { stood := { row := planeShownRow, standIns := [], harness := (true, "7f93ccfe86c1ea95e39c2bf7f302156a3b449de1937bf909673b449f639f632b"), looks := true }, kinds := [], alts := [], laidByText := true, laidKinds := [.data, .data, .data, .data, .sentinel, .sentinel, .pinned], laidTests := true, laidLooks := .later }
def PlaneShownCardSaid : Prop := Claim7.holds Tryz.pinned (.plain (OpenSpec.ofChange planeShownSpec)) planeShownCard

/-- THE TIED CARD OF 'ferrysliplaw20.PlaneApart'. -/
def planeApartCard : Claim7 := { stood := { row := planeApartRow, standIns := [], harness := (true, "7f93ccfe86c1ea95e39c2bf7f302156a3b449de1937bf909673b449f639f632b"), looks := true }, kinds := [], alts := [], laidByText := true, laidKinds := [.data, .data, .data, .data, .sentinel, .sentinel, .pinned], laidTests := true, laidLooks := .later }
def PlaneApartCardSaid : Prop := Claim7.holds Tryz.pinned (.plain (OpenSpec.ofChange planeApartSpec)) planeApartCard

/-- THE TIED CARD OF 'ferrysliplaw20.PlaneTorn'. -/
def planeTornCard : Claim7 := { stood := { row := planeTornRow, standIns := [], harness := (true, "7f93ccfe86c1ea95e39c2bf7f302156a3b449de1937bf909673b449f639f632b"), looks := true }, kinds := [], alts := [], laidByText := true, laidKinds := [.data, .data, .data, .data, .sentinel, .sentinel, .pinned], laidTests := true, laidLooks := .later }
def PlaneTornCardSaid : Prop := Claim7.holds Tryz.pinned (.plain (OpenSpec.ofChange planeTornSpec)) planeTornCard

/-- THE TIED CARD OF 'ferrysliplaw20.PlaneLocked'. -/
def planeLockedCard : Claim7 := { stood := { row := planeLockedRow, standIns := [], harness := (true, "7f93ccfe86c1ea95e39c2bf7f302156a3b449de1937bf909673b449f639f632b"), looks := true }, kinds := [], alts := [], laidByText := true, laidKinds := [.data, .data, .data, .data, .sentinel, .sentinel, .pinned], laidTests := true, laidLooks := .later }
def PlaneLockedCardSaid : Prop := Claim7.holds Tryz.pinned (.plain (OpenSpec.ofChange planeLockedSpec)) planeLockedCard

/-- THE SECOND FORM's CARD OF 'ferrysliplaw20.PlaneTimer'. -/
def planeTimerUptoCard : Claim7 := { stood := { row := planeTimerUptoRow, standIns := [], harness := (true, "7f93ccfe86c1ea95e39c2bf7f302156a3b449de1937bf909673b449f639f632b"), looks := true }, kinds := [], alts := [], laidByText := true, laidKinds := [.data, .data, .data, .data, .sentinel, .sentinel, .pinned], laidTests := true, laidLooks := .later }
def PlaneTimerUptoCardSaid : Prop := Claim7.holds Tryz.pinned (.plain (OpenSpec.upto planeTimerSpec)) planeTimerUptoCard

/-- THE SECOND FORM's CARD OF 'ferrysliplaw20.PlaneShown'. -/
def planeShownUptoCard : Claim7 := { stood := { row := planeShownUptoRow, standIns := [], harness := (true, "7f93ccfe86c1ea95e39c2bf7f302156a3b449de1937bf909673b449f639f632b"), looks := true }, kinds := [], alts := [], laidByText := true, laidKinds := [.data, .data, .data, .data, .sentinel, .sentinel, .pinned], laidTests := true, laidLooks := .later }
def PlaneShownUptoCardSaid : Prop := Claim7.holds Tryz.pinned (.plain (OpenSpec.upto planeShownSpec)) planeShownUptoCard

/-- THE SECOND FORM's CARD OF 'ferrysliplaw20.PlaneApart'. -/
def planeApartUptoCard : Claim7 := { stood := { row := planeApartUptoRow, standIns := [], harness := (true, "7f93ccfe86c1ea95e39c2bf7f302156a3b449de1937bf909673b449f639f632b"), looks := true }, kinds := [], alts := [], laidByText := true, laidKinds := [.data, .data, .data, .data, .sentinel, .sentinel, .pinned], laidTests := true, laidLooks := .later }
def PlaneApartUptoCardSaid : Prop := Claim7.holds Tryz.pinned (.plain (OpenSpec.upto planeApartSpec)) planeApartUptoCard

/-- THE SECOND FORM's CARD OF 'ferrysliplaw20.PlaneTorn'. -/
def planeTornUptoCard : Claim7 := { stood := { row := planeTornUptoRow, standIns := [], harness := (true, "7f93ccfe86c1ea95e39c2bf7f302156a3b449de1937bf909673b449f639f632b"), looks := true }, kinds := [], alts := [], laidByText := true, laidKinds := [.data, .data, .data, .data, .sentinel, .sentinel, .pinned], laidTests := true, laidLooks := .later }
def PlaneTornUptoCardSaid : Prop := Claim7.holds Tryz.pinned (.plain (OpenSpec.upto planeTornSpec)) planeTornUptoCard

/-- THE SECOND FORM's CARD OF 'ferrysliplaw20.PlaneLocked'. -/
def planeLockedUptoCard : Claim7 := { stood := { row := planeLockedUptoRow, standIns := [], harness := (true, "7f93ccfe86c1ea95e39c2bf7f302156a3b449de1937bf909673b449f639f632b"), looks := true }, kinds := [], alts := [], laidByText := true, laidKinds := [.data, .data, .data, .data, .sentinel, .sentinel, .pinned], laidTests := true, laidLooks := .later }
def PlaneLockedUptoCardSaid : Prop := Claim7.holds Tryz.pinned (.plain (OpenSpec.upto planeLockedSpec)) planeLockedUptoCard
end Rows
end Go.Proofs.YtkbojechhmmkcaaGreatDoor
