/-
  DERIVED. GIVEN WITH THE SEED: THE CARDS: each row of YtbhaapkafgieiaaGreatDoorRows.lean that lists a variable, with what it lists TIED to the program's text (the seventh form; the later family's looks); each row that meets fmt, with fmt's text TOLD by the authors' own Lean function (tested against real Go, not proved from fmt's source: count such statements apart). THE CARD IS WHAT COUNTS. Prove the row's statement (the work); the ties are given (YtbhaapkafgieiaaGreatDoorTie.lean); close each card by the builder's one call (the guide's Derived/Test/ToyasCard.lean, 'card_holds'). Laid BY PROGRAM, IN A SANDBOX (cutbox-door.mjs). By AI agents, Wed Nov 11 2026. No macro, syntax, notation, axiom, sorry.
-/
import Derived.Test.YtbhaapkafgieiaaGreatDoorRows
import GoSem.ClaimSeven
namespace Go.Proofs.YtbhaapkafgieiaaGreatDoor
namespace Rows

/-- THE TIED CARD OF 'wigwaglaw12.RouteSteps'. -/
def routeStepsCard : Claim7 := { stood := { row := routeStepsRow, standIns := [], harness := (true, "deba888e26a52764a3119dae7e27fa66e161f52d0ef378f1deecf42d75415c6c"), looks := true }, kinds := [], alts := [], laidByText := true, laidKinds := [.handle], laidTests := true, laidLooks := .later }
def RouteStepsCardSaid : Prop := Claim7.holds Tryz.pinned (.plain (OpenSpec.ofChange routeStepsSpec)) routeStepsCard

/-- THE TIED CARD OF 'wigwaglaw12.RouteNears'. -/
def routeNearsCard : Claim7 := { stood := { row := routeNearsRow, standIns := [], harness := (true, "deba888e26a52764a3119dae7e27fa66e161f52d0ef378f1deecf42d75415c6c"), looks := true }, kinds := [], alts := [], laidByText := true, laidKinds := [.handle], laidTests := true, laidLooks := .later }
def RouteNearsCardSaid : Prop := Claim7.holds Tryz.pinned (.plain (OpenSpec.ofChange routeNearsSpec)) routeNearsCard

/-- THE TIED CARD OF 'wigwaglaw12.RoutePlays'. -/
def routePlaysCard : Claim7 := { stood := { row := routePlaysRow, standIns := [], harness := (true, "deba888e26a52764a3119dae7e27fa66e161f52d0ef378f1deecf42d75415c6c"), looks := true }, kinds := [], alts := [], laidByText := true, laidKinds := [.handle], laidTests := true, laidLooks := .later }
def RoutePlaysCardSaid : Prop := Claim7.holds Tryz.pinned (.plain (OpenSpec.ofChange routePlaysSpec)) routePlaysCard

/-- THE TIED CARD OF 'wigwaglaw12.RouteOwn'. -/
def routeOwnCard : Claim7 := { stood := { row := routeOwnRow, standIns := [], harness := (true, "deba888e26a52764a3119dae7e27fa66e161f52d0ef378f1deecf42d75415c6c"), looks := true }, kinds := [], alts := [], laidByText := true, laidKinds := [.handle], laidTests := true, laidLooks := .later }
def RouteOwnCardSaid : Prop := Claim7.holds Tryz.pinned (.plain (OpenSpec.ofChange routeOwnSpec)) routeOwnCard

/-- THE TIED CARD OF 'wigwaglaw12.RouteCalm'. -/
def routeCalmCard : Claim7 := { stood := { row := routeCalmRow, standIns := [], harness := (true, "deba888e26a52764a3119dae7e27fa66e161f52d0ef378f1deecf42d75415c6c"), looks := true }, kinds := [], alts := [], laidByText := true, laidKinds := [.handle], laidTests := true, laidLooks := .later }
def RouteCalmCardSaid : Prop := Claim7.holds Tryz.pinned (.plain (OpenSpec.ofChange routeCalmSpec)) routeCalmCard

/-- THE TIED CARD OF 'wigwaglaw20.TreeCalm'. -/
def treeCalmCard : Claim7 := { stood := { row := treeCalmRow, standIns := [], harness := (true, "deba888e26a52764a3119dae7e27fa66e161f52d0ef378f1deecf42d75415c6c"), looks := true }, kinds := [], alts := [], laidByText := true, laidKinds := [.handle], laidTests := true, laidLooks := .later }
def TreeCalmCardSaid : Prop := Claim7.holds Tryz.pinned (.plain (OpenSpec.ofChange treeCalmSpec)) treeCalmCard

/-- THE SECOND FORM's CARD OF 'wigwaglaw12.RouteSteps'. -/
def routeStepsUptoCard : Claim7 := { stood := { row := routeStepsUptoRow, standIns := [], harness := (true, "deba888e26a52764a3119dae7e27fa66e161f52d0ef378f1deecf42d75415c6c"), looks := true }, kinds := [], alts := [], laidByText := true, laidKinds := [.handle], laidTests := true, laidLooks := .later }
def RouteStepsUptoCardSaid : Prop := Claim7.holds Tryz.pinned (.plain (OpenSpec.upto routeStepsSpec)) routeStepsUptoCard

/-- THE SECOND FORM's CARD OF 'wigwaglaw12.RouteNears'. -/
def routeNearsUptoCard : Claim7 := { stood := { row := routeNearsUptoRow, standIns := [], harness := (true, "deba888e26a52764a3119dae7e27fa66e161f52d0ef378f1deecf42d75415c6c"), looks := true }, kinds := [], alts := [], laidByText := true, laidKinds := [.handle], laidTests := true, laidLooks := .later }
def RouteNearsUptoCardSaid : Prop := Claim7.holds Tryz.pinned (.plain (OpenSpec.upto routeNearsSpec)) routeNearsUptoCard

/-- THE SECOND FORM's CARD OF 'wigwaglaw12.RoutePlays'. -/
def routePlaysUptoCard : Claim7 := { stood := { row := routePlaysUptoRow, standIns := [], harness := (true, "deba888e26a52764a3119dae7e27fa66e161f52d0ef378f1deecf42d75415c6c"), looks := true }, kinds := [], alts := [], laidByText := true, laidKinds := [.handle], laidTests := true, laidLooks := .later }
def RoutePlaysUptoCardSaid : Prop := Claim7.holds Tryz.pinned (.plain (OpenSpec.upto routePlaysSpec)) routePlaysUptoCard

/-- THE SECOND FORM's CARD OF 'wigwaglaw12.RouteOwn'. -/
def routeOwnUptoCard : Claim7 := { stood := { row := routeOwnUptoRow, standIns := [], harness := (true, "deba888e26a52764a3119dae7e27fa66e161f52d0ef378f1deecf42d75415c6c"), looks := true }, kinds := [], alts := [], laidByText := true, laidKinds := [.handle], laidTests := true, laidLooks := .later }
def RouteOwnUptoCardSaid : Prop := Claim7.holds Tryz.pinned (.plain (OpenSpec.upto routeOwnSpec)) routeOwnUptoCard

/-- THE SECOND FORM's CARD OF 'wigwaglaw12.RouteCalm'. -/
def routeCalmUptoCard : Claim7 := { stood := { row := routeCalmUptoRow, standIns := [], harness := (true, "deba888e26a52764a3119dae7e27fa66e161f52d0ef378f1deecf42d75415c6c"), looks := true }, kinds := [], alts := [], laidByText := true, laidKinds := [.handle], laidTests := true, laidLooks := .later }
def RouteCalmUptoCardSaid : Prop := Claim7.holds Tryz.pinned (.plain (OpenSpec.upto routeCalmSpec)) routeCalmUptoCard

/-- THE SECOND FORM's CARD OF 'wigwaglaw20.TreeCalm'. -/
def treeCalmUptoCard : Claim7 := { stood := { row := treeCalmUptoRow, standIns := [], harness := (true, "deba888e26a52764a3119dae7e27fa66e161f52d0ef378f1deecf42d75415c6c"), looks := true }, kinds := [], alts := [], laidByText := true, laidKinds := [.handle], laidTests := true, laidLooks := .later }
def TreeCalmUptoCardSaid : Prop := Claim7.holds Tryz.pinned (.plain (OpenSpec.upto treeCalmSpec)) treeCalmUptoCard
end Rows
end Go.Proofs.YtbhaapkafgieiaaGreatDoor
