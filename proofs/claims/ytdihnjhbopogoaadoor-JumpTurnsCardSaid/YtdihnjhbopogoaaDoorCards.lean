/-
  DERIVED. GIVEN WITH THE SEED: THE CARDS: each row of YtdihnjhbopogoaaDoorRows.lean that lists a variable, with what it lists TIED to the program's text (the seventh form; the later family's looks); each row that meets fmt, with fmt's text TOLD by the authors' own Lean function (tested against real Go, not proved from fmt's source: count such statements apart). THE CARD IS WHAT COUNTS. Prove the row's statement (the work); the ties are given (YtdihnjhbopogoaaDoorTie.lean); close each card by the builder's one call (the guide's Derived/Test/ToyasCard.lean, 'card_holds'). Laid BY PROGRAM, IN A SANDBOX (cutbox-door.mjs). By AI agents, Wed Nov 11 2026. No macro, syntax, notation, axiom, sorry.
-/
import Derived.Test.YtdihnjhbopogoaaDoorRows
import GoSem.ClaimSeven
namespace Go.Proofs.YtdihnjhbopogoaaDoor
namespace Rows

/-- THE TIED CARD OF 'paddocklaw18.JumpJumps'. -/
def jumpJumpsCard : Claim7 := { stood := { row := jumpJumpsRow, standIns := [], harness := (true, "8778d803b5b49ea9759b9195fa8284a0c576d72135789fe2c14576efd4462328"), looks := true }, kinds := [], alts := [], laidByText := true, laidKinds := [.sentinel, .sentinel, .sentinel, .sentinel, .sentinel], laidTests := true, laidLooks := .later }
def JumpJumpsCardSaid : Prop := Claim7.holds Tryd.pinned (.plain (OpenSpec.ofChange jumpJumpsSpec)) jumpJumpsCard

/-- THE TIED CARD OF 'paddocklaw18.JumpStraight'. -/
def jumpStraightCard : Claim7 := { stood := { row := jumpStraightRow, standIns := [], harness := (true, "8778d803b5b49ea9759b9195fa8284a0c576d72135789fe2c14576efd4462328"), looks := true }, kinds := [], alts := [], laidByText := true, laidKinds := [.sentinel, .sentinel, .sentinel, .sentinel, .sentinel], laidTests := true, laidLooks := .later }
def JumpStraightCardSaid : Prop := Claim7.holds Tryd.pinned (.plain (OpenSpec.ofChange jumpStraightSpec)) jumpStraightCard

/-- THE TIED CARD OF 'paddocklaw18.JumpExpands'. -/
def jumpExpandsCard : Claim7 := { stood := { row := jumpExpandsRow, standIns := [], harness := (true, "8778d803b5b49ea9759b9195fa8284a0c576d72135789fe2c14576efd4462328"), looks := true }, kinds := [], alts := [], laidByText := true, laidKinds := [.sentinel, .sentinel, .sentinel, .sentinel, .sentinel, .sentinel, .sentinel, .sentinel, .sentinel, .sentinel], laidTests := true, laidLooks := .later }
def JumpExpandsCardSaid : Prop := Claim7.holds Tryd.pinned (.plain (OpenSpec.ofChange jumpExpandsSpec)) jumpExpandsCard

/-- THE TIED CARD OF 'paddocklaw18.JumpSearches'. -/
def jumpSearchesCard : Claim7 := { stood := { row := jumpSearchesRow, standIns := [], harness := (true, "8778d803b5b49ea9759b9195fa8284a0c576d72135789fe2c14576efd4462328"), looks := true }, kinds := [], alts := [], laidByText := true, laidKinds := [.sentinel, .sentinel, .sentinel, .sentinel, .sentinel, .sentinel, .sentinel, .sentinel, .sentinel, .sentinel], laidTests := true, laidLooks := .later }
def JumpSearchesCardSaid : Prop := Claim7.holds Tryd.pinned (.plain (OpenSpec.ofChange jumpSearchesSpec)) jumpSearchesCard

/-- THE TIED CARD OF 'paddocklaw18.JumpTurns'. -/
def jumpTurnsCard : Claim7 := { stood := { row := jumpTurnsRow, standIns := [], harness := (true, "8778d803b5b49ea9759b9195fa8284a0c576d72135789fe2c14576efd4462328"), looks := true }, kinds := [], alts := [], laidByText := true, laidKinds := [.sentinel, .sentinel, .sentinel, .sentinel, .sentinel, .sentinel, .sentinel, .sentinel, .sentinel, .sentinel], laidTests := true, laidLooks := .later }
def JumpTurnsCardSaid : Prop := Claim7.holds Tryd.pinned (.plain (OpenSpec.ofChange jumpTurnsSpec)) jumpTurnsCard

/-- THE TIED CARD OF 'paddocklaw18.JumpRoutes'. -/
def jumpRoutesCard : Claim7 := { stood := { row := jumpRoutesRow, standIns := [], harness := (true, "8778d803b5b49ea9759b9195fa8284a0c576d72135789fe2c14576efd4462328"), looks := true }, kinds := [], alts := [], laidByText := true, laidKinds := [.sentinel, .sentinel, .sentinel, .sentinel, .sentinel, .sentinel, .sentinel, .sentinel, .sentinel, .sentinel], laidTests := true, laidLooks := .later }
def JumpRoutesCardSaid : Prop := Claim7.holds Tryd.pinned (.plain (OpenSpec.ofChange jumpRoutesSpec)) jumpRoutesCard

/-- THE SECOND FORM's CARD OF 'paddocklaw18.JumpJumps'. -/
def jumpJumpsUptoCard : Claim7 := { stood := { row := jumpJumpsUptoRow, standIns := [], harness := (true, "8778d803b5b49ea9759b9195fa8284a0c576d72135789fe2c14576efd4462328"), looks := true }, kinds := [], alts := [], laidByText := true, laidKinds := [.sentinel, .sentinel, .sentinel, .sentinel, .sentinel], laidTests := true, laidLooks := .later }
def JumpJumpsUptoCardSaid : Prop := Claim7.holds Tryd.pinned (.plain (OpenSpec.upto jumpJumpsSpec)) jumpJumpsUptoCard

/-- THE SECOND FORM's CARD OF 'paddocklaw18.JumpStraight'. -/
def jumpStraightUptoCard : Claim7 := { stood := { row := jumpStraightUptoRow, standIns := [], harness := (true, "8778d803b5b49ea9759b9195fa8284a0c576d72135789fe2c14576efd4462328"), looks := true }, kinds := [], alts := [], laidByText := true, laidKinds := [.sentinel, .sentinel, .sentinel, .sentinel, .sentinel], laidTests := true, laidLooks := .later }
def JumpStraightUptoCardSaid : Prop := Claim7.holds Tryd.pinned (.plain (OpenSpec.upto jumpStraightSpec)) jumpStraightUptoCard

/-- THE SECOND FORM's CARD OF 'paddocklaw18.JumpExpands'. -/
def jumpExpandsUptoCard : Claim7 := { stood := { row := jumpExpandsUptoRow, standIns := [], harness := (true, "8778d803b5b49ea9759b9195fa8284a0c576d72135789fe2c14576efd4462328"), looks := true }, kinds := [], alts := [], laidByText := true, laidKinds := [.sentinel, .sentinel, .sentinel, .sentinel, .sentinel, .sentinel, .sentinel, .sentinel, .sentinel, .sentinel], laidTests := true, laidLooks := .later }
def JumpExpandsUptoCardSaid : Prop := Claim7.holds Tryd.pinned (.plain (OpenSpec.upto jumpExpandsSpec)) jumpExpandsUptoCard

/-- THE SECOND FORM's CARD OF 'paddocklaw18.JumpSearches'. -/
def jumpSearchesUptoCard : Claim7 := { stood := { row := jumpSearchesUptoRow, standIns := [], harness := (true, "8778d803b5b49ea9759b9195fa8284a0c576d72135789fe2c14576efd4462328"), looks := true }, kinds := [], alts := [], laidByText := true, laidKinds := [.sentinel, .sentinel, .sentinel, .sentinel, .sentinel, .sentinel, .sentinel, .sentinel, .sentinel, .sentinel], laidTests := true, laidLooks := .later }
def JumpSearchesUptoCardSaid : Prop := Claim7.holds Tryd.pinned (.plain (OpenSpec.upto jumpSearchesSpec)) jumpSearchesUptoCard

/-- THE SECOND FORM's CARD OF 'paddocklaw18.JumpTurns'. -/
def jumpTurnsUptoCard : Claim7 := { stood := { row := jumpTurnsUptoRow, standIns := [], harness := (true, "8778d803b5b49ea9759b9195fa8284a0c576d72135789fe2c14576efd4462328"), looks := true }, kinds := [], alts := [], laidByText := true, laidKinds := [.sentinel, .sentinel, .sentinel, .sentinel, .sentinel, .sentinel, .sentinel, .sentinel, .sentinel, .sentinel], laidTests := true, laidLooks := .later }
def JumpTurnsUptoCardSaid : Prop := Claim7.holds Tryd.pinned (.plain (OpenSpec.upto jumpTurnsSpec)) jumpTurnsUptoCard

/-- THE SECOND FORM's CARD OF 'paddocklaw18.JumpRoutes'. -/
def jumpRoutesUptoCard : Claim7 := { stood := { row := jumpRoutesUptoRow, standIns := [], harness := (true, "8778d803b5b49ea9759b9195fa8284a0c576d72135789fe2c14576efd4462328"), looks := true }, kinds := [], alts := [], laidByText := true, laidKinds := [.sentinel, .sentinel, .sentinel, .sentinel, .sentinel, .sentinel, .sentinel, .sentinel, .sentinel, .sentinel], laidTests := true, laidLooks := .later }
def JumpRoutesUptoCardSaid : Prop := Claim7.holds Tryd.pinned (.plain (OpenSpec.upto jumpRoutesSpec)) jumpRoutesUptoCard
end Rows
end Go.Proofs.YtdihnjhbopogoaaDoor
