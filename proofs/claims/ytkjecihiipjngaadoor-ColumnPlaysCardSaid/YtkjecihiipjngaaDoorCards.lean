/-
  DERIVED. GIVEN WITH THE SEED: THE CARDS: each row of YtkjecihiipjngaaDoorRows.lean that lists a variable, with what it lists TIED to the program's text (the seventh form; the later family's looks); each row that meets fmt, with fmt's text TOLD by the authors' own Lean function (tested against real Go, not proved from fmt's source: count such statements apart). THE CARD IS WHAT COUNTS. Prove the row's statement (the work); the ties are given (YtkjecihiipjngaaDoorTie.lean); close each card by the builder's one call (the guide's Derived/Test/ToyasCard.lean, 'card_holds'). Laid BY PROGRAM, IN A SANDBOX (cutbox-door.mjs). By AI agents, Wed Nov 11 2026. No macro, syntax, notation, axiom, sorry.
-/
import Derived.Test.YtkjecihiipjngaaDoorRows
import GoSem.ClaimSeven
namespace Go.Proofs.YtkjecihiipjngaaDoor
namespace Rows

/-- THE TIED CARD OF 'paddocklaw05.ColumnTexts'. -/
def columnTextsCard : Claim7 := { stood := { row := columnTextsRow, standIns := [], harness := (true, "a74ba12d92c13c429b9b5cfcef8b080c1105002240253ebe4b7850a7da31653b"), looks := true }, kinds := [], alts := [], laidByText := true, laidKinds := [.sentinel, .sentinel], laidTests := true, laidLooks := .later }
def ColumnTextsCardSaid : Prop := Claim7.holds Tryd.pinned (.plain (OpenSpec.ofChange columnTextsSpec)) columnTextsCard

/-- THE TIED CARD OF 'paddocklaw05.ColumnFull'. -/
def columnFullCard : Claim7 := { stood := { row := columnFullRow, standIns := [], harness := (true, "a74ba12d92c13c429b9b5cfcef8b080c1105002240253ebe4b7850a7da31653b"), looks := true }, kinds := [], alts := [], laidByText := true, laidKinds := [.sentinel, .sentinel], laidTests := true, laidLooks := .later }
def ColumnFullCardSaid : Prop := Claim7.holds Tryd.pinned (.plain (OpenSpec.ofChange columnFullSpec)) columnFullCard

/-- THE TIED CARD OF 'paddocklaw03.MasksBoth'. -/
def masksBothCard : Claim7 := { stood := { row := masksBothRow, standIns := [], harness := (true, "a74ba12d92c13c429b9b5cfcef8b080c1105002240253ebe4b7850a7da31653b"), looks := true }, kinds := [], alts := [], laidByText := true, laidKinds := [.sentinel], laidTests := true, laidLooks := .later }
def MasksBothCardSaid : Prop := Claim7.holds Tryd.pinned (.plain (OpenSpec.ofChange masksBothSpec)) masksBothCard

/-- THE TIED CARD OF 'paddocklaw03.MasksFits'. -/
def masksFitsCard : Claim7 := { stood := { row := masksFitsRow, standIns := [], harness := (true, "a74ba12d92c13c429b9b5cfcef8b080c1105002240253ebe4b7850a7da31653b"), looks := true }, kinds := [], alts := [], laidByText := true, laidKinds := [.sentinel], laidTests := true, laidLooks := .later }
def MasksFitsCardSaid : Prop := Claim7.holds Tryd.pinned (.plain (OpenSpec.ofChange masksFitsSpec)) masksFitsCard

/-- THE TIED CARD OF 'paddocklaw03.MasksOrder'. -/
def masksOrderCard : Claim7 := { stood := { row := masksOrderRow, standIns := [], harness := (true, "a74ba12d92c13c429b9b5cfcef8b080c1105002240253ebe4b7850a7da31653b"), looks := true }, kinds := [], alts := [], laidByText := true, laidKinds := [.sentinel], laidTests := true, laidLooks := .later }
def MasksOrderCardSaid : Prop := Claim7.holds Tryd.pinned (.plain (OpenSpec.ofChange masksOrderSpec)) masksOrderCard

/-- THE TIED CARD OF 'paddocklaw03.MasksKinds'. -/
def masksKindsCard : Claim7 := { stood := { row := masksKindsRow, standIns := [], harness := (true, "a74ba12d92c13c429b9b5cfcef8b080c1105002240253ebe4b7850a7da31653b"), looks := true }, kinds := [], alts := [], laidByText := true, laidKinds := [.data, .sentinel], laidTests := true, laidLooks := .later }
def MasksKindsCardSaid : Prop := Claim7.holds Tryd.pinned (.plain (OpenSpec.ofChange masksKindsSpec)) masksKindsCard

/-- THE TIED CARD OF 'paddocklaw05.ColumnEmpties'. -/
def columnEmptiesCard : Claim7 := { stood := { row := columnEmptiesRow, standIns := [], harness := (true, "a74ba12d92c13c429b9b5cfcef8b080c1105002240253ebe4b7850a7da31653b"), looks := true }, kinds := [], alts := [], laidByText := true, laidKinds := [.sentinel, .sentinel, .sentinel, .sentinel, .sentinel, .sentinel, .sentinel, .sentinel, .sentinel, .sentinel], laidTests := true, laidLooks := .later }
def ColumnEmptiesCardSaid : Prop := Claim7.holds Tryd.pinned (.plain (OpenSpec.ofChange columnEmptiesSpec)) columnEmptiesCard

/-- THE TIED CARD OF 'paddocklaw03.MasksBack'. -/
def masksBackCard : Claim7 := { stood := { row := masksBackRow, standIns := [], harness := (true, "a74ba12d92c13c429b9b5cfcef8b080c1105002240253ebe4b7850a7da31653b"), looks := true }, kinds := [], alts := [], laidByText := true, laidKinds := [.data, .sentinel], laidTests := true, laidLooks := .later }
def MasksBackCardSaid : Prop := Claim7.holds Tryd.pinned (.plain (OpenSpec.ofChange masksBackSpec)) masksBackCard

/-- THE TIED CARD OF 'paddocklaw05.ColumnPlays'. -/
def columnPlaysCard : Claim7 := { stood := { row := columnPlaysRow, standIns := [], harness := (true, "a74ba12d92c13c429b9b5cfcef8b080c1105002240253ebe4b7850a7da31653b"), looks := true }, kinds := [], alts := [], laidByText := true, laidKinds := [.sentinel, .sentinel, .sentinel, .sentinel, .sentinel, .sentinel, .sentinel, .sentinel, .sentinel, .sentinel], laidTests := true, laidLooks := .later }
def ColumnPlaysCardSaid : Prop := Claim7.holds Tryd.pinned (.plain (OpenSpec.ofChange columnPlaysSpec)) columnPlaysCard

/-- THE TIED CARD OF 'paddocklaw03.MasksOf'. -/
def masksOfCard : Claim7 := { stood := { row := masksOfRow, standIns := [], harness := (true, "a74ba12d92c13c429b9b5cfcef8b080c1105002240253ebe4b7850a7da31653b"), looks := true }, kinds := [], alts := [], laidByText := true, laidKinds := [.sentinel, .sentinel, .sentinel, .sentinel, .sentinel, .sentinel, .sentinel, .sentinel, .sentinel, .sentinel], laidTests := true, laidLooks := .later }
def MasksOfCardSaid : Prop := Claim7.holds Tryd.pinned (.plain (OpenSpec.ofChange masksOfSpec)) masksOfCard

/-- THE SECOND FORM's CARD OF 'paddocklaw05.ColumnTexts'. -/
def columnTextsUptoCard : Claim7 := { stood := { row := columnTextsUptoRow, standIns := [], harness := (true, "a74ba12d92c13c429b9b5cfcef8b080c1105002240253ebe4b7850a7da31653b"), looks := true }, kinds := [], alts := [], laidByText := true, laidKinds := [.sentinel, .sentinel], laidTests := true, laidLooks := .later }
def ColumnTextsUptoCardSaid : Prop := Claim7.holds Tryd.pinned (.plain (OpenSpec.upto columnTextsSpec)) columnTextsUptoCard

/-- THE SECOND FORM's CARD OF 'paddocklaw05.ColumnFull'. -/
def columnFullUptoCard : Claim7 := { stood := { row := columnFullUptoRow, standIns := [], harness := (true, "a74ba12d92c13c429b9b5cfcef8b080c1105002240253ebe4b7850a7da31653b"), looks := true }, kinds := [], alts := [], laidByText := true, laidKinds := [.sentinel, .sentinel], laidTests := true, laidLooks := .later }
def ColumnFullUptoCardSaid : Prop := Claim7.holds Tryd.pinned (.plain (OpenSpec.upto columnFullSpec)) columnFullUptoCard

/-- THE SECOND FORM's CARD OF 'paddocklaw03.MasksBoth'. -/
def masksBothUptoCard : Claim7 := { stood := { row := masksBothUptoRow, standIns := [], harness := (true, "a74ba12d92c13c429b9b5cfcef8b080c1105002240253ebe4b7850a7da31653b"), looks := true }, kinds := [], alts := [], laidByText := true, laidKinds := [.sentinel], laidTests := true, laidLooks := .later }
def MasksBothUptoCardSaid : Prop := Claim7.holds Tryd.pinned (.plain (OpenSpec.upto masksBothSpec)) masksBothUptoCard

/-- THE SECOND FORM's CARD OF 'paddocklaw03.MasksFits'. -/
def masksFitsUptoCard : Claim7 := { stood := { row := masksFitsUptoRow, standIns := [], harness := (true, "a74ba12d92c13c429b9b5cfcef8b080c1105002240253ebe4b7850a7da31653b"), looks := true }, kinds := [], alts := [], laidByText := true, laidKinds := [.sentinel], laidTests := true, laidLooks := .later }
def MasksFitsUptoCardSaid : Prop := Claim7.holds Tryd.pinned (.plain (OpenSpec.upto masksFitsSpec)) masksFitsUptoCard

/-- THE SECOND FORM's CARD OF 'paddocklaw03.MasksOrder'. -/
def masksOrderUptoCard : Claim7 := { stood := { row := masksOrderUptoRow, standIns := [], harness := (true, "a74ba12d92c13c429b9b5cfcef8b080c1105002240253ebe4b7850a7da31653b"), looks := true }, kinds := [], alts := [], laidByText := true, laidKinds := [.sentinel], laidTests := true, laidLooks := .later }
def MasksOrderUptoCardSaid : Prop := Claim7.holds Tryd.pinned (.plain (OpenSpec.upto masksOrderSpec)) masksOrderUptoCard

/-- THE SECOND FORM's CARD OF 'paddocklaw03.MasksKinds'. -/
def masksKindsUptoCard : Claim7 := { stood := { row := masksKindsUptoRow, standIns := [], harness := (true, "a74ba12d92c13c429b9b5cfcef8b080c1105002240253ebe4b7850a7da31653b"), looks := true }, kinds := [], alts := [], laidByText := true, laidKinds := [.data, .sentinel], laidTests := true, laidLooks := .later }
def MasksKindsUptoCardSaid : Prop := Claim7.holds Tryd.pinned (.plain (OpenSpec.upto masksKindsSpec)) masksKindsUptoCard

/-- THE SECOND FORM's CARD OF 'paddocklaw05.ColumnEmpties'. -/
def columnEmptiesUptoCard : Claim7 := { stood := { row := columnEmptiesUptoRow, standIns := [], harness := (true, "a74ba12d92c13c429b9b5cfcef8b080c1105002240253ebe4b7850a7da31653b"), looks := true }, kinds := [], alts := [], laidByText := true, laidKinds := [.sentinel, .sentinel, .sentinel, .sentinel, .sentinel, .sentinel, .sentinel, .sentinel, .sentinel, .sentinel], laidTests := true, laidLooks := .later }
def ColumnEmptiesUptoCardSaid : Prop := Claim7.holds Tryd.pinned (.plain (OpenSpec.upto columnEmptiesSpec)) columnEmptiesUptoCard

/-- THE SECOND FORM's CARD OF 'paddocklaw03.MasksBack'. -/
def masksBackUptoCard : Claim7 := { stood := { row := masksBackUptoRow, standIns := [], harness := (true, "a74ba12d92c13c429b9b5cfcef8b080c1105002240253ebe4b7850a7da31653b"), looks := true }, kinds := [], alts := [], laidByText := true, laidKinds := [.data, .sentinel], laidTests := true, laidLooks := .later }
def MasksBackUptoCardSaid : Prop := Claim7.holds Tryd.pinned (.plain (OpenSpec.upto masksBackSpec)) masksBackUptoCard

/-- THE SECOND FORM's CARD OF 'paddocklaw05.ColumnPlays'. -/
def columnPlaysUptoCard : Claim7 := { stood := { row := columnPlaysUptoRow, standIns := [], harness := (true, "a74ba12d92c13c429b9b5cfcef8b080c1105002240253ebe4b7850a7da31653b"), looks := true }, kinds := [], alts := [], laidByText := true, laidKinds := [.sentinel, .sentinel, .sentinel, .sentinel, .sentinel, .sentinel, .sentinel, .sentinel, .sentinel, .sentinel], laidTests := true, laidLooks := .later }
def ColumnPlaysUptoCardSaid : Prop := Claim7.holds Tryd.pinned (.plain (OpenSpec.upto columnPlaysSpec)) columnPlaysUptoCard

/-- THE SECOND FORM's CARD OF 'paddocklaw03.MasksOf'. -/
def masksOfUptoCard : Claim7 := { stood := { row := masksOfUptoRow, standIns := [], harness := (true, "a74ba12d92c13c429b9b5cfcef8b080c1105002240253ebe4b7850a7da31653b"), looks := true }, kinds := [], alts := [], laidByText := true, laidKinds := [.sentinel, .sentinel, .sentinel, .sentinel, .sentinel, .sentinel, .sentinel, .sentinel, .sentinel, .sentinel], laidTests := true, laidLooks := .later }
def MasksOfUptoCardSaid : Prop := Claim7.holds Tryd.pinned (.plain (OpenSpec.upto masksOfSpec)) masksOfUptoCard
end Rows
end Go.Proofs.YtkjecihiipjngaaDoor
