/-
  DERIVED. GIVEN WITH THE SEED: THE CARDS: each row of YtnfobdonmkefdaaDoorRows.lean that lists a variable, with what it lists TIED to the program's text (the seventh form; the later family's looks); each row that meets fmt, with fmt's text TOLD by the authors' own Lean function (tested against real Go, not proved from fmt's source: count such statements apart). THE CARD IS WHAT COUNTS. Prove the row's statement (the work); the ties are given (YtnfobdonmkefdaaDoorTie.lean); close each card by the builder's one call (the guide's Derived/Test/ToyasCard.lean, 'card_holds'). Laid BY PROGRAM, IN A SANDBOX (cutbox-door.mjs). By AI agents, Wed Nov 11 2026. No macro, syntax, notation, axiom, sorry.
-/
import Derived.Test.YtnfobdonmkefdaaDoorRows
import GoSem.ClaimSeven
namespace Go.Proofs.YtnfobdonmkefdaaDoor
namespace Rows

/-- THE TIED CARD OF 'paddocklaw16.StepsBack'. -/
def stepsBackCard : Claim7 := { stood := { row := stepsBackRow, standIns := [], harness := (true, "1733ca4b2ca3e2aa5273fcf2e142e7e146ad3f8a00f9bce9b61d43d71784abd3"), looks := true }, kinds := [], alts := [], laidByText := true, laidKinds := [.sentinel, .sentinel, .sentinel, .sentinel, .sentinel], laidTests := true, laidLooks := .later }
def StepsBackCardSaid : Prop := Claim7.holds Tryd.pinned (.plain (OpenSpec.ofChange stepsBackSpec)) stepsBackCard

/-- THE TIED CARD OF 'paddocklaw16.StepsReturn'. -/
def stepsReturnCard : Claim7 := { stood := { row := stepsReturnRow, standIns := [], harness := (true, "1733ca4b2ca3e2aa5273fcf2e142e7e146ad3f8a00f9bce9b61d43d71784abd3"), looks := true }, kinds := [], alts := [], laidByText := true, laidKinds := [.sentinel, .sentinel, .sentinel, .sentinel, .sentinel], laidTests := true, laidLooks := .later }
def StepsReturnCardSaid : Prop := Claim7.holds Tryd.pinned (.plain (OpenSpec.ofChange stepsReturnSpec)) stepsReturnCard

/-- THE TIED CARD OF 'paddocklaw16.StepsFreed'. -/
def stepsFreedCard : Claim7 := { stood := { row := stepsFreedRow, standIns := [], harness := (true, "1733ca4b2ca3e2aa5273fcf2e142e7e146ad3f8a00f9bce9b61d43d71784abd3"), looks := true }, kinds := [], alts := [], laidByText := true, laidKinds := [.sentinel, .sentinel, .sentinel, .sentinel, .sentinel], laidTests := true, laidLooks := .later }
def StepsFreedCardSaid : Prop := Claim7.holds Tryd.pinned (.plain (OpenSpec.ofChange stepsFreedSpec)) stepsFreedCard

/-- THE TIED CARD OF 'paddocklaw16.StepsCosts'. -/
def stepsCostsCard : Claim7 := { stood := { row := stepsCostsRow, standIns := [], harness := (true, "1733ca4b2ca3e2aa5273fcf2e142e7e146ad3f8a00f9bce9b61d43d71784abd3"), looks := true }, kinds := [], alts := [], laidByText := true, laidKinds := [.sentinel, .sentinel, .sentinel, .sentinel, .sentinel, .sentinel, .sentinel, .sentinel, .sentinel, .sentinel], laidTests := true, laidLooks := .later }
def StepsCostsCardSaid : Prop := Claim7.holds Tryd.pinned (.plain (OpenSpec.ofChange stepsCostsSpec)) stepsCostsCard

/-- THE TIED CARD OF 'paddocklaw16.StepsAround'. -/
def stepsAroundCard : Claim7 := { stood := { row := stepsAroundRow, standIns := [], harness := (true, "1733ca4b2ca3e2aa5273fcf2e142e7e146ad3f8a00f9bce9b61d43d71784abd3"), looks := true }, kinds := [], alts := [], laidByText := true, laidKinds := [.sentinel, .sentinel, .sentinel, .sentinel, .sentinel, .sentinel, .sentinel, .sentinel, .sentinel, .sentinel], laidTests := true, laidLooks := .later }
def StepsAroundCardSaid : Prop := Claim7.holds Tryd.pinned (.plain (OpenSpec.ofChange stepsAroundSpec)) stepsAroundCard

/-- THE TIED CARD OF 'paddocklaw16.StepsOf'. -/
def stepsOfCard : Claim7 := { stood := { row := stepsOfRow, standIns := [], harness := (true, "1733ca4b2ca3e2aa5273fcf2e142e7e146ad3f8a00f9bce9b61d43d71784abd3"), looks := true }, kinds := [], alts := [], laidByText := true, laidKinds := [.sentinel, .sentinel, .sentinel, .sentinel, .sentinel, .sentinel, .sentinel, .sentinel, .sentinel, .sentinel], laidTests := true, laidLooks := .later }
def StepsOfCardSaid : Prop := Claim7.holds Tryd.pinned (.plain (OpenSpec.ofChange stepsOfSpec)) stepsOfCard

/-- THE TIED CARD OF 'paddocklaw16.StepsSets'. -/
def stepsSetsCard : Claim7 := { stood := { row := stepsSetsRow, standIns := [], harness := (true, "1733ca4b2ca3e2aa5273fcf2e142e7e146ad3f8a00f9bce9b61d43d71784abd3"), looks := true }, kinds := [], alts := [], laidByText := true, laidKinds := [.sentinel, .sentinel, .sentinel, .sentinel, .sentinel, .sentinel, .sentinel, .sentinel, .sentinel, .sentinel], laidTests := true, laidLooks := .later }
def StepsSetsCardSaid : Prop := Claim7.holds Tryd.pinned (.plain (OpenSpec.ofChange stepsSetsSpec)) stepsSetsCard

/-- THE SECOND FORM's CARD OF 'paddocklaw16.StepsBack'. -/
def stepsBackUptoCard : Claim7 := { stood := { row := stepsBackUptoRow, standIns := [], harness := (true, "1733ca4b2ca3e2aa5273fcf2e142e7e146ad3f8a00f9bce9b61d43d71784abd3"), looks := true }, kinds := [], alts := [], laidByText := true, laidKinds := [.sentinel, .sentinel, .sentinel, .sentinel, .sentinel], laidTests := true, laidLooks := .later }
def StepsBackUptoCardSaid : Prop := Claim7.holds Tryd.pinned (.plain (OpenSpec.upto stepsBackSpec)) stepsBackUptoCard

/-- THE SECOND FORM's CARD OF 'paddocklaw16.StepsReturn'. -/
def stepsReturnUptoCard : Claim7 := { stood := { row := stepsReturnUptoRow, standIns := [], harness := (true, "1733ca4b2ca3e2aa5273fcf2e142e7e146ad3f8a00f9bce9b61d43d71784abd3"), looks := true }, kinds := [], alts := [], laidByText := true, laidKinds := [.sentinel, .sentinel, .sentinel, .sentinel, .sentinel], laidTests := true, laidLooks := .later }
def StepsReturnUptoCardSaid : Prop := Claim7.holds Tryd.pinned (.plain (OpenSpec.upto stepsReturnSpec)) stepsReturnUptoCard

/-- THE SECOND FORM's CARD OF 'paddocklaw16.StepsFreed'. -/
def stepsFreedUptoCard : Claim7 := { stood := { row := stepsFreedUptoRow, standIns := [], harness := (true, "1733ca4b2ca3e2aa5273fcf2e142e7e146ad3f8a00f9bce9b61d43d71784abd3"), looks := true }, kinds := [], alts := [], laidByText := true, laidKinds := [.sentinel, .sentinel, .sentinel, .sentinel, .sentinel], laidTests := true, laidLooks := .later }
def StepsFreedUptoCardSaid : Prop := Claim7.holds Tryd.pinned (.plain (OpenSpec.upto stepsFreedSpec)) stepsFreedUptoCard

/-- THE SECOND FORM's CARD OF 'paddocklaw16.StepsCosts'. -/
def stepsCostsUptoCard : Claim7 := { stood := { row := stepsCostsUptoRow, standIns := [], harness := (true, "1733ca4b2ca3e2aa5273fcf2e142e7e146ad3f8a00f9bce9b61d43d71784abd3"), looks := true }, kinds := [], alts := [], laidByText := true, laidKinds := [.sentinel, .sentinel, .sentinel, .sentinel, .sentinel, .sentinel, .sentinel, .sentinel, .sentinel, .sentinel], laidTests := true, laidLooks := .later }
def StepsCostsUptoCardSaid : Prop := Claim7.holds Tryd.pinned (.plain (OpenSpec.upto stepsCostsSpec)) stepsCostsUptoCard

/-- THE SECOND FORM's CARD OF 'paddocklaw16.StepsAround'. -/
def stepsAroundUptoCard : Claim7 := { stood := { row := stepsAroundUptoRow, standIns := [], harness := (true, "1733ca4b2ca3e2aa5273fcf2e142e7e146ad3f8a00f9bce9b61d43d71784abd3"), looks := true }, kinds := [], alts := [], laidByText := true, laidKinds := [.sentinel, .sentinel, .sentinel, .sentinel, .sentinel, .sentinel, .sentinel, .sentinel, .sentinel, .sentinel], laidTests := true, laidLooks := .later }
def StepsAroundUptoCardSaid : Prop := Claim7.holds Tryd.pinned (.plain (OpenSpec.upto stepsAroundSpec)) stepsAroundUptoCard

/-- THE SECOND FORM's CARD OF 'paddocklaw16.StepsOf'. -/
def stepsOfUptoCard : Claim7 := { stood := { row := stepsOfUptoRow, standIns := [], harness := (true, "1733ca4b2ca3e2aa5273fcf2e142e7e146ad3f8a00f9bce9b61d43d71784abd3"), looks := true }, kinds := [], alts := [], laidByText := true, laidKinds := [.sentinel, .sentinel, .sentinel, .sentinel, .sentinel, .sentinel, .sentinel, .sentinel, .sentinel, .sentinel], laidTests := true, laidLooks := .later }
def StepsOfUptoCardSaid : Prop := Claim7.holds Tryd.pinned (.plain (OpenSpec.upto stepsOfSpec)) stepsOfUptoCard

/-- THE SECOND FORM's CARD OF 'paddocklaw16.StepsSets'. -/
def stepsSetsUptoCard : Claim7 := { stood := { row := stepsSetsUptoRow, standIns := [], harness := (true, "1733ca4b2ca3e2aa5273fcf2e142e7e146ad3f8a00f9bce9b61d43d71784abd3"), looks := true }, kinds := [], alts := [], laidByText := true, laidKinds := [.sentinel, .sentinel, .sentinel, .sentinel, .sentinel, .sentinel, .sentinel, .sentinel, .sentinel, .sentinel], laidTests := true, laidLooks := .later }
def StepsSetsUptoCardSaid : Prop := Claim7.holds Tryd.pinned (.plain (OpenSpec.upto stepsSetsSpec)) stepsSetsUptoCard
end Rows
end Go.Proofs.YtnfobdonmkefdaaDoor
