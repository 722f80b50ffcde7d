/-
  DERIVED. GIVEN WITH THE SEED: THE CARDS: each row of YtbhmpbgoanmdlaaDoorRows.lean that lists a variable, with what it lists TIED to the program's text (the seventh form; the later family's looks); each row that meets fmt, with fmt's text TOLD by the authors' own Lean function (tested against real Go, not proved from fmt's source: count such statements apart). THE CARD IS WHAT COUNTS. Prove the row's statement (the work); the ties are given (YtbhmpbgoanmdlaaDoorTie.lean); close each card by the builder's one call (the guide's Derived/Test/ToyasCard.lean, 'card_holds'). Laid BY PROGRAM, IN A SANDBOX (cutbox-door.mjs). By AI agents, Wed Nov 11 2026. No macro, syntax, notation, axiom, sorry.
-/
import Derived.Test.YtbhmpbgoanmdlaaDoorRows
import GoSem.ClaimSeven
namespace Go.Proofs.YtbhmpbgoanmdlaaDoor
namespace Rows

/-- THE TIED CARD OF 'paddocklaw17.RouteTurned'. -/
def routeTurnedCard : Claim7 := { stood := { row := routeTurnedRow, standIns := [], harness := (true, "aada2f8f565a219d109ac386df0e36a8bcd0651e2e1d7135da8604cfb3ab3918"), looks := true }, kinds := [], alts := [], laidByText := true, laidKinds := [.sentinel, .sentinel, .sentinel, .sentinel, .sentinel, .sentinel], laidTests := true, laidLooks := .later }
def RouteTurnedCardSaid : Prop := Claim7.holds Tryd.pinned (.plain (OpenSpec.ofChange routeTurnedSpec)) routeTurnedCard

/-- THE TIED CARD OF 'paddocklaw17.RouteFreed'. -/
def routeFreedCard : Claim7 := { stood := { row := routeFreedRow, standIns := [], harness := (true, "aada2f8f565a219d109ac386df0e36a8bcd0651e2e1d7135da8604cfb3ab3918"), looks := true }, kinds := [], alts := [], laidByText := true, laidKinds := [.sentinel, .sentinel, .sentinel, .sentinel, .sentinel, .sentinel], laidTests := true, laidLooks := .later }
def RouteFreedCardSaid : Prop := Claim7.holds Tryd.pinned (.plain (OpenSpec.ofChange routeFreedSpec)) routeFreedCard

/-- THE TIED CARD OF 'paddocklaw17.RouteParts'. -/
def routePartsCard : Claim7 := { stood := { row := routePartsRow, standIns := [], harness := (true, "aada2f8f565a219d109ac386df0e36a8bcd0651e2e1d7135da8604cfb3ab3918"), looks := true }, kinds := [], alts := [], laidByText := true, laidKinds := [.sentinel, .sentinel, .sentinel, .sentinel, .sentinel, .sentinel, .sentinel], laidTests := true, laidLooks := .later }
def RoutePartsCardSaid : Prop := Claim7.holds Tryd.pinned (.plain (OpenSpec.ofChange routePartsSpec)) routePartsCard

/-- THE TIED CARD OF 'paddocklaw17.RouteFollows'. -/
def routeFollowsCard : Claim7 := { stood := { row := routeFollowsRow, standIns := [], harness := (true, "aada2f8f565a219d109ac386df0e36a8bcd0651e2e1d7135da8604cfb3ab3918"), looks := true }, kinds := [], alts := [], laidByText := true, laidKinds := [.sentinel, .sentinel, .sentinel, .sentinel, .sentinel, .sentinel, .sentinel, .sentinel, .sentinel, .sentinel], laidTests := true, laidLooks := .later }
def RouteFollowsCardSaid : Prop := Claim7.holds Tryd.pinned (.plain (OpenSpec.ofChange routeFollowsSpec)) routeFollowsCard

/-- THE TIED CARD OF 'paddocklaw17.RouteFinds'. -/
def routeFindsCard : Claim7 := { stood := { row := routeFindsRow, standIns := [], harness := (true, "aada2f8f565a219d109ac386df0e36a8bcd0651e2e1d7135da8604cfb3ab3918"), looks := true }, kinds := [], alts := [], laidByText := true, laidKinds := [.sentinel, .sentinel, .sentinel, .sentinel, .sentinel, .sentinel, .sentinel, .sentinel, .sentinel, .sentinel], laidTests := true, laidLooks := .later }
def RouteFindsCardSaid : Prop := Claim7.holds Tryd.pinned (.plain (OpenSpec.ofChange routeFindsSpec)) routeFindsCard

/-- THE TIED CARD OF 'paddocklaw17.RouteLeast'. -/
def routeLeastCard : Claim7 := { stood := { row := routeLeastRow, standIns := [], harness := (true, "aada2f8f565a219d109ac386df0e36a8bcd0651e2e1d7135da8604cfb3ab3918"), looks := true }, kinds := [], alts := [], laidByText := true, laidKinds := [.sentinel, .sentinel, .sentinel, .sentinel, .sentinel, .sentinel, .sentinel], laidTests := true, laidLooks := .later }
def RouteLeastCardSaid : Prop := Claim7.holds Tryd.pinned (.plain (OpenSpec.ofChange routeLeastSpec)) routeLeastCard

/-- THE TIED CARD OF 'paddocklaw17.RouteDirs'. -/
def routeDirsCard : Claim7 := { stood := { row := routeDirsRow, standIns := [], harness := (true, "aada2f8f565a219d109ac386df0e36a8bcd0651e2e1d7135da8604cfb3ab3918"), looks := true }, kinds := [], alts := [], laidByText := true, laidKinds := [.sentinel, .sentinel, .sentinel, .sentinel, .sentinel, .sentinel, .sentinel, .sentinel, .sentinel, .sentinel], laidTests := true, laidLooks := .later }
def RouteDirsCardSaid : Prop := Claim7.holds Tryd.pinned (.plain (OpenSpec.ofChange routeDirsSpec)) routeDirsCard

/-- THE SECOND FORM's CARD OF 'paddocklaw17.RouteTurned'. -/
def routeTurnedUptoCard : Claim7 := { stood := { row := routeTurnedUptoRow, standIns := [], harness := (true, "aada2f8f565a219d109ac386df0e36a8bcd0651e2e1d7135da8604cfb3ab3918"), looks := true }, kinds := [], alts := [], laidByText := true, laidKinds := [.sentinel, .sentinel, .sentinel, .sentinel, .sentinel, .sentinel], laidTests := true, laidLooks := .later }
def RouteTurnedUptoCardSaid : Prop := Claim7.holds Tryd.pinned (.plain (OpenSpec.upto routeTurnedSpec)) routeTurnedUptoCard

/-- THE SECOND FORM's CARD OF 'paddocklaw17.RouteFreed'. -/
def routeFreedUptoCard : Claim7 := { stood := { row := routeFreedUptoRow, standIns := [], harness := (true, "aada2f8f565a219d109ac386df0e36a8bcd0651e2e1d7135da8604cfb3ab3918"), looks := true }, kinds := [], alts := [], laidByText := true, laidKinds := [.sentinel, .sentinel, .sentinel, .sentinel, .sentinel, .sentinel], laidTests := true, laidLooks := .later }
def RouteFreedUptoCardSaid : Prop := Claim7.holds Tryd.pinned (.plain (OpenSpec.upto routeFreedSpec)) routeFreedUptoCard

/-- THE SECOND FORM's CARD OF 'paddocklaw17.RouteParts'. -/
def routePartsUptoCard : Claim7 := { stood := { row := routePartsUptoRow, standIns := [], harness := (true, "aada2f8f565a219d109ac386df0e36a8bcd0651e2e1d7135da8604cfb3ab3918"), looks := true }, kinds := [], alts := [], laidByText := true, laidKinds := [.sentinel, .sentinel, .sentinel, .sentinel, .sentinel, .sentinel, .sentinel], laidTests := true, laidLooks := .later }
def RoutePartsUptoCardSaid : Prop := Claim7.holds Tryd.pinned (.plain (OpenSpec.upto routePartsSpec)) routePartsUptoCard

/-- THE SECOND FORM's CARD OF 'paddocklaw17.RouteFollows'. -/
def routeFollowsUptoCard : Claim7 := { stood := { row := routeFollowsUptoRow, standIns := [], harness := (true, "aada2f8f565a219d109ac386df0e36a8bcd0651e2e1d7135da8604cfb3ab3918"), looks := true }, kinds := [], alts := [], laidByText := true, laidKinds := [.sentinel, .sentinel, .sentinel, .sentinel, .sentinel, .sentinel, .sentinel, .sentinel, .sentinel, .sentinel], laidTests := true, laidLooks := .later }
def RouteFollowsUptoCardSaid : Prop := Claim7.holds Tryd.pinned (.plain (OpenSpec.upto routeFollowsSpec)) routeFollowsUptoCard

/-- THE SECOND FORM's CARD OF 'paddocklaw17.RouteFinds'. -/
def routeFindsUptoCard : Claim7 := { stood := { row := routeFindsUptoRow, standIns := [], harness := (true, "aada2f8f565a219d109ac386df0e36a8bcd0651e2e1d7135da8604cfb3ab3918"), looks := true }, kinds := [], alts := [], laidByText := true, laidKinds := [.sentinel, .sentinel, .sentinel, .sentinel, .sentinel, .sentinel, .sentinel, .sentinel, .sentinel, .sentinel], laidTests := true, laidLooks := .later }
def RouteFindsUptoCardSaid : Prop := Claim7.holds Tryd.pinned (.plain (OpenSpec.upto routeFindsSpec)) routeFindsUptoCard

/-- THE SECOND FORM's CARD OF 'paddocklaw17.RouteLeast'. -/
def routeLeastUptoCard : Claim7 := { stood := { row := routeLeastUptoRow, standIns := [], harness := (true, "aada2f8f565a219d109ac386df0e36a8bcd0651e2e1d7135da8604cfb3ab3918"), looks := true }, kinds := [], alts := [], laidByText := true, laidKinds := [.sentinel, .sentinel, .sentinel, .sentinel, .sentinel, .sentinel, .sentinel], laidTests := true, laidLooks := .later }
def RouteLeastUptoCardSaid : Prop := Claim7.holds Tryd.pinned (.plain (OpenSpec.upto routeLeastSpec)) routeLeastUptoCard

/-- THE SECOND FORM's CARD OF 'paddocklaw17.RouteDirs'. -/
def routeDirsUptoCard : Claim7 := { stood := { row := routeDirsUptoRow, standIns := [], harness := (true, "aada2f8f565a219d109ac386df0e36a8bcd0651e2e1d7135da8604cfb3ab3918"), looks := true }, kinds := [], alts := [], laidByText := true, laidKinds := [.sentinel, .sentinel, .sentinel, .sentinel, .sentinel, .sentinel, .sentinel, .sentinel, .sentinel, .sentinel], laidTests := true, laidLooks := .later }
def RouteDirsUptoCardSaid : Prop := Claim7.holds Tryd.pinned (.plain (OpenSpec.upto routeDirsSpec)) routeDirsUptoCard
end Rows
end Go.Proofs.YtbhmpbgoanmdlaaDoor
