/-
  DERIVED. GIVEN WITH THE SEED: THE CARDS: each row of YtegcnkcjmebheaaDoorRows.lean that lists a variable, with what it lists TIED to the program's text (the seventh form; the later family's looks); each row that meets fmt, with fmt's text TOLD by the authors' own Lean function (tested against real Go, not proved from fmt's source: count such statements apart). THE CARD IS WHAT COUNTS. Prove the row's statement (the work); the ties are given (YtegcnkcjmebheaaDoorTie.lean); close each card by the builder's one call (the guide's Derived/Test/ToyasCard.lean, 'card_holds'). Laid BY PROGRAM, IN A SANDBOX (cutbox-door.mjs). By AI agents, Wed Nov 11 2026. No macro, syntax, notation, axiom, sorry.
-/
import Derived.Test.YtegcnkcjmebheaaDoorRows
import GoSem.ClaimSeven
namespace Go.Proofs.YtegcnkcjmebheaaDoor
namespace Rows

/-- THE TIED CARD OF 'paddocklaw07.TableKeeps'. -/
def tableKeepsCard : Claim7 := { stood := { row := tableKeepsRow, standIns := [], harness := (true, "f817711e0a39cf97db3f439c5be13cf0f47f8669dc5e479b25deec2f059806ab"), looks := true }, kinds := [], alts := [], laidByText := true, laidKinds := [.data, .sentinel, .sentinel, .sentinel, .sentinel], laidTests := true, laidLooks := .later }
def TableKeepsCardSaid : Prop := Claim7.holds Tryd.pinned (.plain (OpenSpec.ofChange tableKeepsSpec)) tableKeepsCard

/-- THE TIED CARD OF 'paddocklaw07.TableSets'. -/
def tableSetsCard : Claim7 := { stood := { row := tableSetsRow, standIns := [], harness := (true, "f817711e0a39cf97db3f439c5be13cf0f47f8669dc5e479b25deec2f059806ab"), looks := true }, kinds := [], alts := [], laidByText := true, laidKinds := [.data, .sentinel, .sentinel, .sentinel, .sentinel], laidTests := true, laidLooks := .later }
def TableSetsCardSaid : Prop := Claim7.holds Tryd.pinned (.plain (OpenSpec.ofChange tableSetsSpec)) tableSetsCard

/-- THE TIED CARD OF 'paddocklaw07.TableFull'. -/
def tableFullCard : Claim7 := { stood := { row := tableFullRow, standIns := [], harness := (true, "f817711e0a39cf97db3f439c5be13cf0f47f8669dc5e479b25deec2f059806ab"), looks := true }, kinds := [], alts := [], laidByText := true, laidKinds := [.data, .sentinel, .sentinel, .sentinel, .sentinel, .sentinel, .sentinel, .sentinel, .sentinel, .sentinel, .sentinel], laidTests := true, laidLooks := .later }
def TableFullCardSaid : Prop := Claim7.holds Tryd.pinned (.plain (OpenSpec.ofChange tableFullSpec)) tableFullCard

/-- THE TIED CARD OF 'paddocklaw07.TablePlays'. -/
def tablePlaysCard : Claim7 := { stood := { row := tablePlaysRow, standIns := [], harness := (true, "f817711e0a39cf97db3f439c5be13cf0f47f8669dc5e479b25deec2f059806ab"), looks := true }, kinds := [], alts := [], laidByText := true, laidKinds := [.data, .sentinel, .sentinel, .sentinel, .sentinel, .sentinel, .sentinel, .sentinel, .sentinel, .sentinel, .sentinel], laidTests := true, laidLooks := .later }
def TablePlaysCardSaid : Prop := Claim7.holds Tryd.pinned (.plain (OpenSpec.ofChange tablePlaysSpec)) tablePlaysCard

/-- THE SECOND FORM's CARD OF 'paddocklaw07.TableKeeps'. -/
def tableKeepsUptoCard : Claim7 := { stood := { row := tableKeepsUptoRow, standIns := [], harness := (true, "f817711e0a39cf97db3f439c5be13cf0f47f8669dc5e479b25deec2f059806ab"), looks := true }, kinds := [], alts := [], laidByText := true, laidKinds := [.data, .sentinel, .sentinel, .sentinel, .sentinel], laidTests := true, laidLooks := .later }
def TableKeepsUptoCardSaid : Prop := Claim7.holds Tryd.pinned (.plain (OpenSpec.upto tableKeepsSpec)) tableKeepsUptoCard

/-- THE SECOND FORM's CARD OF 'paddocklaw07.TableSets'. -/
def tableSetsUptoCard : Claim7 := { stood := { row := tableSetsUptoRow, standIns := [], harness := (true, "f817711e0a39cf97db3f439c5be13cf0f47f8669dc5e479b25deec2f059806ab"), looks := true }, kinds := [], alts := [], laidByText := true, laidKinds := [.data, .sentinel, .sentinel, .sentinel, .sentinel], laidTests := true, laidLooks := .later }
def TableSetsUptoCardSaid : Prop := Claim7.holds Tryd.pinned (.plain (OpenSpec.upto tableSetsSpec)) tableSetsUptoCard

/-- THE SECOND FORM's CARD OF 'paddocklaw07.TableFull'. -/
def tableFullUptoCard : Claim7 := { stood := { row := tableFullUptoRow, standIns := [], harness := (true, "f817711e0a39cf97db3f439c5be13cf0f47f8669dc5e479b25deec2f059806ab"), looks := true }, kinds := [], alts := [], laidByText := true, laidKinds := [.data, .sentinel, .sentinel, .sentinel, .sentinel, .sentinel, .sentinel, .sentinel, .sentinel, .sentinel, .sentinel], laidTests := true, laidLooks := .later }
def TableFullUptoCardSaid : Prop := Claim7.holds Tryd.pinned (.plain (OpenSpec.upto tableFullSpec)) tableFullUptoCard

/-- THE SECOND FORM's CARD OF 'paddocklaw07.TablePlays'. -/
def tablePlaysUptoCard : Claim7 := { stood := { row := tablePlaysUptoRow, standIns := [], harness := (true, "f817711e0a39cf97db3f439c5be13cf0f47f8669dc5e479b25deec2f059806ab"), looks := true }, kinds := [], alts := [], laidByText := true, laidKinds := [.data, .sentinel, .sentinel, .sentinel, .sentinel, .sentinel, .sentinel, .sentinel, .sentinel, .sentinel, .sentinel], laidTests := true, laidLooks := .later }
def TablePlaysUptoCardSaid : Prop := Claim7.holds Tryd.pinned (.plain (OpenSpec.upto tablePlaysSpec)) tablePlaysUptoCard
end Rows
end Go.Proofs.YtegcnkcjmebheaaDoor
