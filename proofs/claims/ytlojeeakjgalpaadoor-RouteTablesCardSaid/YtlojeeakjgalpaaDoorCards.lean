/-
  DERIVED. GIVEN WITH THE SEED: THE CARDS: each row of YtlojeeakjgalpaaDoorRows.lean that lists a variable, with what it lists TIED to the program's text (the seventh form; the later family's looks); each row that meets fmt, with fmt's text TOLD by the authors' own Lean function (tested against real Go, not proved from fmt's source: count such statements apart). THE CARD IS WHAT COUNTS. Prove the row's statement (the work); the ties are given (YtlojeeakjgalpaaDoorTie.lean); close each card by the builder's one call (the guide's Derived/Test/ToyasCard.lean, 'card_holds'). Laid BY PROGRAM, IN A SANDBOX (cutbox-door.mjs). By AI agents, Wed Nov 11 2026. No macro, syntax, notation, axiom, sorry.
-/
import Derived.Test.YtlojeeakjgalpaaDoorRows
import GoSem.ClaimSeven
namespace Go.Proofs.YtlojeeakjgalpaaDoor
namespace Rows

/-- THE TIED CARD OF 'ferrysliplaw10.AddrIn'. -/
def addrInCard : Claim7 := { stood := { row := addrInRow, standIns := [], harness := (true, "09aaba8b93e188751051ae1620064248154d9b516a01eeab663ab7d385e8cec4"), looks := true }, kinds := [], alts := [], laidByText := true, laidKinds := [.data, .data, .data, .data, .sentinel, .sentinel, .pinned], laidTests := true, laidLooks := .later }
def AddrInCardSaid : Prop := Claim7.holds Tryd.pinned (.plain (OpenSpec.ofChange addrInSpec)) addrInCard

/-- THE TIED CARD OF 'ferrysliplaw15.RouteOwn'. -/
def routeOwnCard : Claim7 := { stood := { row := routeOwnRow, standIns := [], harness := (true, "09aaba8b93e188751051ae1620064248154d9b516a01eeab663ab7d385e8cec4"), looks := true }, kinds := [], alts := [], laidByText := true, laidKinds := [.data, .data, .data, .data, .sentinel, .sentinel, .pinned], laidTests := true, laidLooks := .later }
def RouteOwnCardSaid : Prop := Claim7.holds Tryd.pinned (.plain (OpenSpec.ofChange routeOwnSpec)) routeOwnCard

/-- THE TIED CARD OF 'ferrysliplaw15.RouteLong'. -/
def routeLongCard : Claim7 := { stood := { row := routeLongRow, standIns := [], harness := (true, "09aaba8b93e188751051ae1620064248154d9b516a01eeab663ab7d385e8cec4"), looks := true }, kinds := [], alts := [], laidByText := true, laidKinds := [.data, .data, .data, .data, .sentinel, .sentinel, .pinned], laidTests := true, laidLooks := .later }
def RouteLongCardSaid : Prop := Claim7.holds Tryd.pinned (.plain (OpenSpec.ofChange routeLongSpec)) routeLongCard

/-- THE TIED CARD OF 'ferrysliplaw15.RouteTurned'. -/
def routeTurnedCard : Claim7 := { stood := { row := routeTurnedRow, standIns := [], harness := (true, "09aaba8b93e188751051ae1620064248154d9b516a01eeab663ab7d385e8cec4"), looks := true }, kinds := [], alts := [], laidByText := true, laidKinds := [.data, .data, .data, .data, .sentinel, .sentinel, .pinned], laidTests := true, laidLooks := .later }
def RouteTurnedCardSaid : Prop := Claim7.holds Tryd.pinned (.plain (OpenSpec.ofChange routeTurnedSpec)) routeTurnedCard

/-- THE TIED CARD OF 'ferrysliplaw15.RouteTables'. -/
def routeTablesCard : Claim7 := { stood := { row := routeTablesRow, standIns := [], harness := (true, "09aaba8b93e188751051ae1620064248154d9b516a01eeab663ab7d385e8cec4"), looks := true }, kinds := [], alts := [], laidByText := true, laidKinds := [.data, .data, .data, .data, .sentinel, .sentinel, .pinned], laidTests := true, laidLooks := .later }
def RouteTablesCardSaid : Prop := Claim7.holds Tryd.pinned (.plain (OpenSpec.ofChange routeTablesSpec)) routeTablesCard

/-- THE TIED CARD OF 'ferrysliplaw15.RouteOne'. -/
def routeOneCard : Claim7 := { stood := { row := routeOneRow, standIns := [], harness := (true, "09aaba8b93e188751051ae1620064248154d9b516a01eeab663ab7d385e8cec4"), looks := true }, kinds := [], alts := [], laidByText := true, laidKinds := [.data, .data, .data, .data, .sentinel, .sentinel, .pinned], laidTests := true, laidLooks := .later }
def RouteOneCardSaid : Prop := Claim7.holds Tryd.pinned (.plain (OpenSpec.ofChange routeOneSpec)) routeOneCard

/-- THE TIED CARD OF 'ferrysliplaw15.RoutePermits'. -/
def routePermitsCard : Claim7 := { stood := { row := routePermitsRow, standIns := [], harness := (true, "09aaba8b93e188751051ae1620064248154d9b516a01eeab663ab7d385e8cec4"), looks := true }, kinds := [], alts := [], laidByText := true, laidKinds := [.data, .data, .data, .data, .sentinel, .sentinel, .pinned], laidTests := true, laidLooks := .later }
def RoutePermitsCardSaid : Prop := Claim7.holds Tryd.pinned (.plain (OpenSpec.ofChange routePermitsSpec)) routePermitsCard

/-- THE SECOND FORM's CARD OF 'ferrysliplaw10.AddrIn'. -/
def addrInUptoCard : Claim7 := { stood := { row := addrInUptoRow, standIns := [], harness := (true, "09aaba8b93e188751051ae1620064248154d9b516a01eeab663ab7d385e8cec4"), looks := true }, kinds := [], alts := [], laidByText := true, laidKinds := [.data, .data, .data, .data, .sentinel, .sentinel, .pinned], laidTests := true, laidLooks := .later }
def AddrInUptoCardSaid : Prop := Claim7.holds Tryd.pinned (.plain (OpenSpec.upto addrInSpec)) addrInUptoCard

/-- THE SECOND FORM's CARD OF 'ferrysliplaw15.RouteOwn'. -/
def routeOwnUptoCard : Claim7 := { stood := { row := routeOwnUptoRow, standIns := [], harness := (true, "09aaba8b93e188751051ae1620064248154d9b516a01eeab663ab7d385e8cec4"), looks := true }, kinds := [], alts := [], laidByText := true, laidKinds := [.data, .data, .data, .data, .sentinel, .sentinel, .pinned], laidTests := true, laidLooks := .later }
def RouteOwnUptoCardSaid : Prop := Claim7.holds Tryd.pinned (.plain (OpenSpec.upto routeOwnSpec)) routeOwnUptoCard

/-- THE SECOND FORM's CARD OF 'ferrysliplaw15.RouteLong'. -/
def routeLongUptoCard : Claim7 := { stood := { row := routeLongUptoRow, standIns := [], harness := (true, "09aaba8b93e188751051ae1620064248154d9b516a01eeab663ab7d385e8cec4"), looks := true }, kinds := [], alts := [], laidByText := true, laidKinds := [.data, .data, .data, .data, .sentinel, .sentinel, .pinned], laidTests := true, laidLooks := .later }
def RouteLongUptoCardSaid : Prop := Claim7.holds Tryd.pinned (.plain (OpenSpec.upto routeLongSpec)) routeLongUptoCard

/-- THE SECOND FORM's CARD OF 'ferrysliplaw15.RouteTurned'. -/
def routeTurnedUptoCard : Claim7 := { stood := { row := routeTurnedUptoRow, standIns := [], harness := (true, "09aaba8b93e188751051ae1620064248154d9b516a01eeab663ab7d385e8cec4"), looks := true }, kinds := [], alts := [], laidByText := true, laidKinds := [.data, .data, .data, .data, .sentinel, .sentinel, .pinned], laidTests := true, laidLooks := .later }
def RouteTurnedUptoCardSaid : Prop := Claim7.holds Tryd.pinned (.plain (OpenSpec.upto routeTurnedSpec)) routeTurnedUptoCard

/-- THE SECOND FORM's CARD OF 'ferrysliplaw15.RouteTables'. -/
def routeTablesUptoCard : Claim7 := { stood := { row := routeTablesUptoRow, standIns := [], harness := (true, "09aaba8b93e188751051ae1620064248154d9b516a01eeab663ab7d385e8cec4"), looks := true }, kinds := [], alts := [], laidByText := true, laidKinds := [.data, .data, .data, .data, .sentinel, .sentinel, .pinned], laidTests := true, laidLooks := .later }
def RouteTablesUptoCardSaid : Prop := Claim7.holds Tryd.pinned (.plain (OpenSpec.upto routeTablesSpec)) routeTablesUptoCard

/-- THE SECOND FORM's CARD OF 'ferrysliplaw15.RouteOne'. -/
def routeOneUptoCard : Claim7 := { stood := { row := routeOneUptoRow, standIns := [], harness := (true, "09aaba8b93e188751051ae1620064248154d9b516a01eeab663ab7d385e8cec4"), looks := true }, kinds := [], alts := [], laidByText := true, laidKinds := [.data, .data, .data, .data, .sentinel, .sentinel, .pinned], laidTests := true, laidLooks := .later }
def RouteOneUptoCardSaid : Prop := Claim7.holds Tryd.pinned (.plain (OpenSpec.upto routeOneSpec)) routeOneUptoCard

/-- THE SECOND FORM's CARD OF 'ferrysliplaw15.RoutePermits'. -/
def routePermitsUptoCard : Claim7 := { stood := { row := routePermitsUptoRow, standIns := [], harness := (true, "09aaba8b93e188751051ae1620064248154d9b516a01eeab663ab7d385e8cec4"), looks := true }, kinds := [], alts := [], laidByText := true, laidKinds := [.data, .data, .data, .data, .sentinel, .sentinel, .pinned], laidTests := true, laidLooks := .later }
def RoutePermitsUptoCardSaid : Prop := Claim7.holds Tryd.pinned (.plain (OpenSpec.upto routePermitsSpec)) routePermitsUptoCard
end Rows
end Go.Proofs.YtlojeeakjgalpaaDoor
