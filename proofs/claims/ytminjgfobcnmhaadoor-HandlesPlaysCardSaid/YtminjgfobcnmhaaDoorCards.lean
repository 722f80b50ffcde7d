/-
  DERIVED. GIVEN WITH THE SEED: THE CARDS: each row of YtminjgfobcnmhaaDoorRows.lean that lists a variable, with what it lists TIED to the program's text (the seventh form; the later family's looks); each row that meets fmt, with fmt's text TOLD by the authors' own Lean function (tested against real Go, not proved from fmt's source: count such statements apart). THE CARD IS WHAT COUNTS. Prove the row's statement (the work); the ties are given (YtminjgfobcnmhaaDoorTie.lean); close each card by the builder's one call (the guide's Derived/Test/ToyasCard.lean, 'card_holds'). Laid BY PROGRAM, IN A SANDBOX (cutbox-door.mjs). By AI agents, Wed Nov 11 2026. No macro, syntax, notation, axiom, sorry.
-/
import Derived.Test.YtminjgfobcnmhaaDoorRows
import GoSem.ClaimSeven
namespace Go.Proofs.YtminjgfobcnmhaaDoor
namespace Rows

/-- THE TIED CARD OF 'paddocklaw10.HeapRises'. -/
def heapRisesCard : Claim7 := { stood := { row := heapRisesRow, standIns := [], harness := (true, "1492f6c9cc629b4e3b7bb5d47c5b84f44a68f999264f2c248d6c152adc0a6e19"), looks := true }, kinds := [], alts := [], laidByText := true, laidKinds := [.sentinel, .sentinel], laidTests := true, laidLooks := .later }
def HeapRisesCardSaid : Prop := Claim7.holds Tryd.pinned (.plain (OpenSpec.ofChange heapRisesSpec)) heapRisesCard

/-- THE TIED CARD OF 'paddocklaw10.HeapMixed'. -/
def heapMixedCard : Claim7 := { stood := { row := heapMixedRow, standIns := [], harness := (true, "1492f6c9cc629b4e3b7bb5d47c5b84f44a68f999264f2c248d6c152adc0a6e19"), looks := true }, kinds := [], alts := [], laidByText := true, laidKinds := [.sentinel, .sentinel], laidTests := true, laidLooks := .later }
def HeapMixedCardSaid : Prop := Claim7.holds Tryd.pinned (.plain (OpenSpec.ofChange heapMixedSpec)) heapMixedCard

/-- THE TIED CARD OF 'paddocklaw04.HandlesApart'. -/
def handlesApartCard : Claim7 := { stood := { row := handlesApartRow, standIns := [], harness := (true, "1492f6c9cc629b4e3b7bb5d47c5b84f44a68f999264f2c248d6c152adc0a6e19"), looks := true }, kinds := [], alts := [], laidByText := true, laidKinds := [.sentinel, .sentinel], laidTests := true, laidLooks := .later }
def HandlesApartCardSaid : Prop := Claim7.holds Tryd.pinned (.plain (OpenSpec.ofChange handlesApartSpec)) handlesApartCard

/-- THE TIED CARD OF 'paddocklaw10.HeapSorts'. -/
def heapSortsCard : Claim7 := { stood := { row := heapSortsRow, standIns := [], harness := (true, "1492f6c9cc629b4e3b7bb5d47c5b84f44a68f999264f2c248d6c152adc0a6e19"), looks := true }, kinds := [], alts := [], laidByText := true, laidKinds := [.sentinel, .sentinel], laidTests := true, laidLooks := .later }
def HeapSortsCardSaid : Prop := Claim7.holds Tryd.pinned (.plain (OpenSpec.ofChange heapSortsSpec)) heapSortsCard

/-- THE TIED CARD OF 'paddocklaw10.HeapOrders'. -/
def heapOrdersCard : Claim7 := { stood := { row := heapOrdersRow, standIns := [], harness := (true, "1492f6c9cc629b4e3b7bb5d47c5b84f44a68f999264f2c248d6c152adc0a6e19"), looks := true }, kinds := [], alts := [], laidByText := true, laidKinds := [.sentinel, .sentinel], laidTests := true, laidLooks := .later }
def HeapOrdersCardSaid : Prop := Claim7.holds Tryd.pinned (.plain (OpenSpec.ofChange heapOrdersSpec)) heapOrdersCard

/-- THE TIED CARD OF 'paddocklaw04.HandlesOnce'. -/
def handlesOnceCard : Claim7 := { stood := { row := handlesOnceRow, standIns := [], harness := (true, "1492f6c9cc629b4e3b7bb5d47c5b84f44a68f999264f2c248d6c152adc0a6e19"), looks := true }, kinds := [], alts := [], laidByText := true, laidKinds := [.sentinel, .sentinel, .sentinel, .sentinel, .sentinel, .sentinel, .sentinel, .sentinel, .sentinel, .sentinel], laidTests := true, laidLooks := .later }
def HandlesOnceCardSaid : Prop := Claim7.holds Tryd.pinned (.plain (OpenSpec.ofChange handlesOnceSpec)) handlesOnceCard

/-- THE TIED CARD OF 'paddocklaw04.HandlesLimits'. -/
def handlesLimitsCard : Claim7 := { stood := { row := handlesLimitsRow, standIns := [], harness := (true, "1492f6c9cc629b4e3b7bb5d47c5b84f44a68f999264f2c248d6c152adc0a6e19"), looks := true }, kinds := [], alts := [], laidByText := true, laidKinds := [.sentinel, .sentinel, .sentinel, .sentinel, .sentinel, .sentinel, .sentinel, .sentinel, .sentinel, .sentinel], laidTests := true, laidLooks := .later }
def HandlesLimitsCardSaid : Prop := Claim7.holds Tryd.pinned (.plain (OpenSpec.ofChange handlesLimitsSpec)) handlesLimitsCard

/-- THE TIED CARD OF 'paddocklaw10.HeapPlays'. -/
def heapPlaysCard : Claim7 := { stood := { row := heapPlaysRow, standIns := [], harness := (true, "1492f6c9cc629b4e3b7bb5d47c5b84f44a68f999264f2c248d6c152adc0a6e19"), looks := true }, kinds := [], alts := [], laidByText := true, laidKinds := [.sentinel, .sentinel, .sentinel, .sentinel, .sentinel, .sentinel, .sentinel, .sentinel, .sentinel, .sentinel], laidTests := true, laidLooks := .later }
def HeapPlaysCardSaid : Prop := Claim7.holds Tryd.pinned (.plain (OpenSpec.ofChange heapPlaysSpec)) heapPlaysCard

/-- THE TIED CARD OF 'paddocklaw04.HandlesBack'. -/
def handlesBackCard : Claim7 := { stood := { row := handlesBackRow, standIns := [], harness := (true, "1492f6c9cc629b4e3b7bb5d47c5b84f44a68f999264f2c248d6c152adc0a6e19"), looks := true }, kinds := [], alts := [], laidByText := true, laidKinds := [.sentinel, .sentinel, .sentinel, .sentinel, .sentinel, .sentinel, .sentinel, .sentinel, .sentinel, .sentinel], laidTests := true, laidLooks := .later }
def HandlesBackCardSaid : Prop := Claim7.holds Tryd.pinned (.plain (OpenSpec.ofChange handlesBackSpec)) handlesBackCard

/-- THE TIED CARD OF 'paddocklaw04.HandlesPlays'. -/
def handlesPlaysCard : Claim7 := { stood := { row := handlesPlaysRow, standIns := [], harness := (true, "1492f6c9cc629b4e3b7bb5d47c5b84f44a68f999264f2c248d6c152adc0a6e19"), looks := true }, kinds := [], alts := [], laidByText := true, laidKinds := [.sentinel, .sentinel, .sentinel, .sentinel, .sentinel, .sentinel, .sentinel, .sentinel, .sentinel, .sentinel], laidTests := true, laidLooks := .later }
def HandlesPlaysCardSaid : Prop := Claim7.holds Tryd.pinned (.plain (OpenSpec.ofChange handlesPlaysSpec)) handlesPlaysCard

/-- THE SECOND FORM's CARD OF 'paddocklaw10.HeapRises'. -/
def heapRisesUptoCard : Claim7 := { stood := { row := heapRisesUptoRow, standIns := [], harness := (true, "1492f6c9cc629b4e3b7bb5d47c5b84f44a68f999264f2c248d6c152adc0a6e19"), looks := true }, kinds := [], alts := [], laidByText := true, laidKinds := [.sentinel, .sentinel], laidTests := true, laidLooks := .later }
def HeapRisesUptoCardSaid : Prop := Claim7.holds Tryd.pinned (.plain (OpenSpec.upto heapRisesSpec)) heapRisesUptoCard

/-- THE SECOND FORM's CARD OF 'paddocklaw10.HeapMixed'. -/
def heapMixedUptoCard : Claim7 := { stood := { row := heapMixedUptoRow, standIns := [], harness := (true, "1492f6c9cc629b4e3b7bb5d47c5b84f44a68f999264f2c248d6c152adc0a6e19"), looks := true }, kinds := [], alts := [], laidByText := true, laidKinds := [.sentinel, .sentinel], laidTests := true, laidLooks := .later }
def HeapMixedUptoCardSaid : Prop := Claim7.holds Tryd.pinned (.plain (OpenSpec.upto heapMixedSpec)) heapMixedUptoCard

/-- THE SECOND FORM's CARD OF 'paddocklaw04.HandlesApart'. -/
def handlesApartUptoCard : Claim7 := { stood := { row := handlesApartUptoRow, standIns := [], harness := (true, "1492f6c9cc629b4e3b7bb5d47c5b84f44a68f999264f2c248d6c152adc0a6e19"), looks := true }, kinds := [], alts := [], laidByText := true, laidKinds := [.sentinel, .sentinel], laidTests := true, laidLooks := .later }
def HandlesApartUptoCardSaid : Prop := Claim7.holds Tryd.pinned (.plain (OpenSpec.upto handlesApartSpec)) handlesApartUptoCard

/-- THE SECOND FORM's CARD OF 'paddocklaw10.HeapSorts'. -/
def heapSortsUptoCard : Claim7 := { stood := { row := heapSortsUptoRow, standIns := [], harness := (true, "1492f6c9cc629b4e3b7bb5d47c5b84f44a68f999264f2c248d6c152adc0a6e19"), looks := true }, kinds := [], alts := [], laidByText := true, laidKinds := [.sentinel, .sentinel], laidTests := true, laidLooks := .later }
def HeapSortsUptoCardSaid : Prop := Claim7.holds Tryd.pinned (.plain (OpenSpec.upto heapSortsSpec)) heapSortsUptoCard

/-- THE SECOND FORM's CARD OF 'paddocklaw10.HeapOrders'. -/
def heapOrdersUptoCard : Claim7 := { stood := { row := heapOrdersUptoRow, standIns := [], harness := (true, "1492f6c9cc629b4e3b7bb5d47c5b84f44a68f999264f2c248d6c152adc0a6e19"), looks := true }, kinds := [], alts := [], laidByText := true, laidKinds := [.sentinel, .sentinel], laidTests := true, laidLooks := .later }
def HeapOrdersUptoCardSaid : Prop := Claim7.holds Tryd.pinned (.plain (OpenSpec.upto heapOrdersSpec)) heapOrdersUptoCard

/-- THE SECOND FORM's CARD OF 'paddocklaw04.HandlesOnce'. -/
def handlesOnceUptoCard : Claim7 := { stood := { row := handlesOnceUptoRow, standIns := [], harness := (true, "1492f6c9cc629b4e3b7bb5d47c5b84f44a68f999264f2c248d6c152adc0a6e19"), looks := true }, kinds := [], alts := [], laidByText := true, laidKinds := [.sentinel, .sentinel, .sentinel, .sentinel, .sentinel, .sentinel, .sentinel, .sentinel, .sentinel, .sentinel], laidTests := true, laidLooks := .later }
def HandlesOnceUptoCardSaid : Prop := Claim7.holds Tryd.pinned (.plain (OpenSpec.upto handlesOnceSpec)) handlesOnceUptoCard

/-- THE SECOND FORM's CARD OF 'paddocklaw04.HandlesLimits'. -/
def handlesLimitsUptoCard : Claim7 := { stood := { row := handlesLimitsUptoRow, standIns := [], harness := (true, "1492f6c9cc629b4e3b7bb5d47c5b84f44a68f999264f2c248d6c152adc0a6e19"), looks := true }, kinds := [], alts := [], laidByText := true, laidKinds := [.sentinel, .sentinel, .sentinel, .sentinel, .sentinel, .sentinel, .sentinel, .sentinel, .sentinel, .sentinel], laidTests := true, laidLooks := .later }
def HandlesLimitsUptoCardSaid : Prop := Claim7.holds Tryd.pinned (.plain (OpenSpec.upto handlesLimitsSpec)) handlesLimitsUptoCard

/-- THE SECOND FORM's CARD OF 'paddocklaw10.HeapPlays'. -/
def heapPlaysUptoCard : Claim7 := { stood := { row := heapPlaysUptoRow, standIns := [], harness := (true, "1492f6c9cc629b4e3b7bb5d47c5b84f44a68f999264f2c248d6c152adc0a6e19"), looks := true }, kinds := [], alts := [], laidByText := true, laidKinds := [.sentinel, .sentinel, .sentinel, .sentinel, .sentinel, .sentinel, .sentinel, .sentinel, .sentinel, .sentinel], laidTests := true, laidLooks := .later }
def HeapPlaysUptoCardSaid : Prop := Claim7.holds Tryd.pinned (.plain (OpenSpec.upto heapPlaysSpec)) heapPlaysUptoCard

/-- THE SECOND FORM's CARD OF 'paddocklaw04.HandlesBack'. -/
def handlesBackUptoCard : Claim7 := { stood := { row := handlesBackUptoRow, standIns := [], harness := (true, "1492f6c9cc629b4e3b7bb5d47c5b84f44a68f999264f2c248d6c152adc0a6e19"), looks := true }, kinds := [], alts := [], laidByText := true, laidKinds := [.sentinel, .sentinel, .sentinel, .sentinel, .sentinel, .sentinel, .sentinel, .sentinel, .sentinel, .sentinel], laidTests := true, laidLooks := .later }
def HandlesBackUptoCardSaid : Prop := Claim7.holds Tryd.pinned (.plain (OpenSpec.upto handlesBackSpec)) handlesBackUptoCard

/-- THE SECOND FORM's CARD OF 'paddocklaw04.HandlesPlays'. -/
def handlesPlaysUptoCard : Claim7 := { stood := { row := handlesPlaysUptoRow, standIns := [], harness := (true, "1492f6c9cc629b4e3b7bb5d47c5b84f44a68f999264f2c248d6c152adc0a6e19"), looks := true }, kinds := [], alts := [], laidByText := true, laidKinds := [.sentinel, .sentinel, .sentinel, .sentinel, .sentinel, .sentinel, .sentinel, .sentinel, .sentinel, .sentinel], laidTests := true, laidLooks := .later }
def HandlesPlaysUptoCardSaid : Prop := Claim7.holds Tryd.pinned (.plain (OpenSpec.upto handlesPlaysSpec)) handlesPlaysUptoCard
end Rows
end Go.Proofs.YtminjgfobcnmhaaDoor
