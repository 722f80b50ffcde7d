/-
  DERIVED. GIVEN WITH THE SEED: THE CARDS: each row of YtilobedihjkpjaaDoorRows.lean that lists a variable, with what it lists TIED to the program's text (the seventh form; the later family's looks); each row that meets fmt, with fmt's text TOLD by the authors' own Lean function (tested against real Go, not proved from fmt's source: count such statements apart). THE CARD IS WHAT COUNTS. Prove the row's statement (the work); the ties are given (YtilobedihjkpjaaDoorTie.lean); close each card by the builder's one call (the guide's Derived/Test/ToyasCard.lean, 'card_holds'). Laid BY PROGRAM, IN A SANDBOX (cutbox-door.mjs). By AI agents, Wed Nov 11 2026. No macro, syntax, notation, axiom, sorry.
-/
import Derived.Test.YtilobedihjkpjaaDoorRows
import GoSem.ClaimSeven
namespace Go.Proofs.YtilobedihjkpjaaDoor
namespace Rows

/-- THE TIED CARD OF 'paddocklaw19.FieldSteps'. -/
def fieldStepsCard : Claim7 := { stood := { row := fieldStepsRow, standIns := [], harness := (true, "b8b2a4940e1cb7ef58183b3c1bbe6a025c90c4757ee7c7cd06276075d97c11f4"), looks := true }, kinds := [], alts := [], laidByText := true, laidKinds := [.sentinel, .sentinel, .sentinel, .sentinel, .sentinel], laidTests := true, laidLooks := .later }
def FieldStepsCardSaid : Prop := Claim7.holds Tryd.pinned (.plain (OpenSpec.ofChange fieldStepsSpec)) fieldStepsCard

/-- THE TIED CARD OF 'paddocklaw19.FieldMore'. -/
def fieldMoreCard : Claim7 := { stood := { row := fieldMoreRow, standIns := [], harness := (true, "b8b2a4940e1cb7ef58183b3c1bbe6a025c90c4757ee7c7cd06276075d97c11f4"), looks := true }, kinds := [], alts := [], laidByText := true, laidKinds := [.sentinel, .sentinel, .sentinel, .sentinel, .sentinel], laidTests := true, laidLooks := .later }
def FieldMoreCardSaid : Prop := Claim7.holds Tryd.pinned (.plain (OpenSpec.ofChange fieldMoreSpec)) fieldMoreCard

/-- THE TIED CARD OF 'paddocklaw20.FieldsAnew'. -/
def fieldsAnewCard : Claim7 := { stood := { row := fieldsAnewRow, standIns := [], harness := (true, "b8b2a4940e1cb7ef58183b3c1bbe6a025c90c4757ee7c7cd06276075d97c11f4"), looks := true }, kinds := [], alts := [], laidByText := true, laidKinds := [.sentinel, .sentinel, .sentinel, .sentinel, .sentinel], laidTests := true, laidLooks := .later }
def FieldsAnewCardSaid : Prop := Claim7.holds Tryd.pinned (.plain (OpenSpec.ofChange fieldsAnewSpec)) fieldsAnewCard

/-- THE TIED CARD OF 'paddocklaw19.FieldPlays'. -/
def fieldPlaysCard : Claim7 := { stood := { row := fieldPlaysRow, standIns := [], harness := (true, "b8b2a4940e1cb7ef58183b3c1bbe6a025c90c4757ee7c7cd06276075d97c11f4"), looks := true }, kinds := [], alts := [], laidByText := true, laidKinds := [.sentinel, .sentinel, .sentinel, .sentinel, .sentinel, .sentinel, .sentinel, .sentinel, .sentinel, .sentinel], laidTests := true, laidLooks := .later }
def FieldPlaysCardSaid : Prop := Claim7.holds Tryd.pinned (.plain (OpenSpec.ofChange fieldPlaysSpec)) fieldPlaysCard

/-- THE TIED CARD OF 'paddocklaw19.FieldRoutes'. -/
def fieldRoutesCard : Claim7 := { stood := { row := fieldRoutesRow, standIns := [], harness := (true, "b8b2a4940e1cb7ef58183b3c1bbe6a025c90c4757ee7c7cd06276075d97c11f4"), looks := true }, kinds := [], alts := [], laidByText := true, laidKinds := [.sentinel, .sentinel, .sentinel, .sentinel, .sentinel, .sentinel, .sentinel], laidTests := true, laidLooks := .later }
def FieldRoutesCardSaid : Prop := Claim7.holds Tryd.pinned (.plain (OpenSpec.ofChange fieldRoutesSpec)) fieldRoutesCard

/-- THE TIED CARD OF 'paddocklaw20.FieldsNumbers'. -/
def fieldsNumbersCard : Claim7 := { stood := { row := fieldsNumbersRow, standIns := [], harness := (true, "b8b2a4940e1cb7ef58183b3c1bbe6a025c90c4757ee7c7cd06276075d97c11f4"), looks := true }, kinds := [], alts := [], laidByText := true, laidKinds := [.sentinel, .sentinel, .sentinel, .sentinel, .sentinel, .sentinel, .sentinel, .sentinel, .sentinel, .sentinel], laidTests := true, laidLooks := .later }
def FieldsNumbersCardSaid : Prop := Claim7.holds Tryd.pinned (.plain (OpenSpec.ofChange fieldsNumbersSpec)) fieldsNumbersCard

/-- THE SECOND FORM's CARD OF 'paddocklaw19.FieldSteps'. -/
def fieldStepsUptoCard : Claim7 := { stood := { row := fieldStepsUptoRow, standIns := [], harness := (true, "b8b2a4940e1cb7ef58183b3c1bbe6a025c90c4757ee7c7cd06276075d97c11f4"), looks := true }, kinds := [], alts := [], laidByText := true, laidKinds := [.sentinel, .sentinel, .sentinel, .sentinel, .sentinel], laidTests := true, laidLooks := .later }
def FieldStepsUptoCardSaid : Prop := Claim7.holds Tryd.pinned (.plain (OpenSpec.upto fieldStepsSpec)) fieldStepsUptoCard

/-- THE SECOND FORM's CARD OF 'paddocklaw19.FieldMore'. -/
def fieldMoreUptoCard : Claim7 := { stood := { row := fieldMoreUptoRow, standIns := [], harness := (true, "b8b2a4940e1cb7ef58183b3c1bbe6a025c90c4757ee7c7cd06276075d97c11f4"), looks := true }, kinds := [], alts := [], laidByText := true, laidKinds := [.sentinel, .sentinel, .sentinel, .sentinel, .sentinel], laidTests := true, laidLooks := .later }
def FieldMoreUptoCardSaid : Prop := Claim7.holds Tryd.pinned (.plain (OpenSpec.upto fieldMoreSpec)) fieldMoreUptoCard

/-- THE SECOND FORM's CARD OF 'paddocklaw20.FieldsAnew'. -/
def fieldsAnewUptoCard : Claim7 := { stood := { row := fieldsAnewUptoRow, standIns := [], harness := (true, "b8b2a4940e1cb7ef58183b3c1bbe6a025c90c4757ee7c7cd06276075d97c11f4"), looks := true }, kinds := [], alts := [], laidByText := true, laidKinds := [.sentinel, .sentinel, .sentinel, .sentinel, .sentinel], laidTests := true, laidLooks := .later }
def FieldsAnewUptoCardSaid : Prop := Claim7.holds Tryd.pinned (.plain (OpenSpec.upto fieldsAnewSpec)) fieldsAnewUptoCard

/-- THE SECOND FORM's CARD OF 'paddocklaw19.FieldPlays'. -/
def fieldPlaysUptoCard : Claim7 := { stood := { row := fieldPlaysUptoRow, standIns := [], harness := (true, "b8b2a4940e1cb7ef58183b3c1bbe6a025c90c4757ee7c7cd06276075d97c11f4"), looks := true }, kinds := [], alts := [], laidByText := true, laidKinds := [.sentinel, .sentinel, .sentinel, .sentinel, .sentinel, .sentinel, .sentinel, .sentinel, .sentinel, .sentinel], laidTests := true, laidLooks := .later }
def FieldPlaysUptoCardSaid : Prop := Claim7.holds Tryd.pinned (.plain (OpenSpec.upto fieldPlaysSpec)) fieldPlaysUptoCard

/-- THE SECOND FORM's CARD OF 'paddocklaw19.FieldRoutes'. -/
def fieldRoutesUptoCard : Claim7 := { stood := { row := fieldRoutesUptoRow, standIns := [], harness := (true, "b8b2a4940e1cb7ef58183b3c1bbe6a025c90c4757ee7c7cd06276075d97c11f4"), looks := true }, kinds := [], alts := [], laidByText := true, laidKinds := [.sentinel, .sentinel, .sentinel, .sentinel, .sentinel, .sentinel, .sentinel], laidTests := true, laidLooks := .later }
def FieldRoutesUptoCardSaid : Prop := Claim7.holds Tryd.pinned (.plain (OpenSpec.upto fieldRoutesSpec)) fieldRoutesUptoCard

/-- THE SECOND FORM's CARD OF 'paddocklaw20.FieldsNumbers'. -/
def fieldsNumbersUptoCard : Claim7 := { stood := { row := fieldsNumbersUptoRow, standIns := [], harness := (true, "b8b2a4940e1cb7ef58183b3c1bbe6a025c90c4757ee7c7cd06276075d97c11f4"), looks := true }, kinds := [], alts := [], laidByText := true, laidKinds := [.sentinel, .sentinel, .sentinel, .sentinel, .sentinel, .sentinel, .sentinel, .sentinel, .sentinel, .sentinel], laidTests := true, laidLooks := .later }
def FieldsNumbersUptoCardSaid : Prop := Claim7.holds Tryd.pinned (.plain (OpenSpec.upto fieldsNumbersSpec)) fieldsNumbersUptoCard
end Rows
end Go.Proofs.YtilobedihjkpjaaDoor
