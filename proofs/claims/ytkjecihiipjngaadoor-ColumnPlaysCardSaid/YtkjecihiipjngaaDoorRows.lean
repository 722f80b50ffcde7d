/-
  NARROWER THAN 'FOR EVERY INPUT', by the rows' own cells (each row's printed sentence says how): ColumnTexts: laid · ColumnFull: laid · MasksBoth: laid · MasksFits: laid · MasksOrder: laid · MasksKinds: laid · ColumnEmpties: laid · MasksBack: laid · ColumnPlays: laid · MasksOf: laid.
  DERIVED. THE GIVEN ROWS OF THIS SEAT. 10 by the template 'for every input the law returns true; each argument reads behind the call as it read before'; 0 by the template 'total and deterministic' (their statements: YtkjecihiipjngaaDoorTotals.lean).
  GIVEN WITH THE SEED: the statements are not yours to turn. If you find one false, say at which input.
  Laid BY PROGRAM, IN A SANDBOX (cutbox-rows.mjs): the forced cells as the released guide's own fill.sh prints them over the translation e09b0c7d8c61b089… (all of the seat's roots in one cut). By AI agents, Wed Nov 11 2026. No macro, syntax, notation, axiom, sorry.
-/
import Derived.Test.YtkjecihiipjngaaDoorChecked
import GoSem.Claim
import GoSem.ClaimJoined
import GoSem.ClaimMapViews
import Derived.JoinedTies
import Derived.KernelRfl
namespace Go.Proofs.YtkjecihiipjngaaDoor
/- THE CELL 'sum', in the pinned program and in every row, IS THE sha256 OF THE DUMP (.gsa) THAT YtkjecihiipjngaaDoorProg.lean LOADS. Nothing in Lean hashes anything: it is a label: what it is worth is what the hold of that sum in a sandbox is worth. -/
noncomputable def Tryd.pinned : Pinned := { name := "ytkjecihiipjngaadoor", sum := "e09b0c7d8c61b0897aeadf07143f1a659732cd497fcd2df28e6aa4290ddb6864", checked := Tryd.checked }
namespace Rows
def none {H : Type} : Left H := { results := [], args := [] }

/- WHAT THE LISTED PACKAGE-LEVEL VARIABLES READ AS WHEN THE CALL BEGINS. Each datum BY PROGRAM (the guide's laid-datum.mjs) off the statement by which the dump's own 'gosem.cut.vars' lays the variable. In a bare row this is a premise. The card (YtkjecihiipjngaaDoorCards.lean) ties it to the program's text. -/
def laid_paddock_api_ErrRange {H : Type} : DataW H := .iface "*errors.errorString" (.ptr (.agg [.lit (.string [112, 97, 100, 100, 111, 99, 107, 58, 32, 114, 97, 110, 103, 101])]))
def laid_paddock_api_ErrFull {H : Type} : DataW H := .iface "*errors.errorString" (.ptr (.agg [.lit (.string [112, 97, 100, 100, 111, 99, 107, 58, 32, 102, 117, 108, 108])]))
def laid_paddock_api_ErrKind {H : Type} : DataW H := .iface "*errors.errorString" (.ptr (.agg [.lit (.string [112, 97, 100, 100, 111, 99, 107, 58, 32, 107, 105, 110, 100])]))
def laid_math_bits_deBruijn64tab {H : Type} : DataW H := .agg [.lit (.int .u8 0), .lit (.int .u8 1), .lit (.int .u8 56), .lit (.int .u8 2), .lit (.int .u8 57), .lit (.int .u8 49), .lit (.int .u8 28), .lit (.int .u8 3), .lit (.int .u8 61), .lit (.int .u8 58), .lit (.int .u8 42), .lit (.int .u8 50), .lit (.int .u8 38), .lit (.int .u8 29), .lit (.int .u8 17), .lit (.int .u8 4), .lit (.int .u8 62), .lit (.int .u8 47), .lit (.int .u8 59), .lit (.int .u8 36), .lit (.int .u8 45), .lit (.int .u8 43), .lit (.int .u8 51), .lit (.int .u8 22), .lit (.int .u8 53), .lit (.int .u8 39), .lit (.int .u8 33), .lit (.int .u8 30), .lit (.int .u8 24), .lit (.int .u8 18), .lit (.int .u8 12), .lit (.int .u8 5), .lit (.int .u8 63), .lit (.int .u8 55), .lit (.int .u8 48), .lit (.int .u8 27), .lit (.int .u8 60), .lit (.int .u8 41), .lit (.int .u8 37), .lit (.int .u8 16), .lit (.int .u8 46), .lit (.int .u8 35), .lit (.int .u8 44), .lit (.int .u8 21), .lit (.int .u8 52), .lit (.int .u8 32), .lit (.int .u8 23), .lit (.int .u8 11), .lit (.int .u8 54), .lit (.int .u8 26), .lit (.int .u8 40), .lit (.int .u8 15), .lit (.int .u8 34), .lit (.int .u8 20), .lit (.int .u8 31), .lit (.int .u8 10), .lit (.int .u8 25), .lit (.int .u8 14), .lit (.int .u8 19), .lit (.int .u8 9), .lit (.int .u8 13), .lit (.int .u8 8), .lit (.int .u8 7), .lit (.int .u8 6)]
def laid_paddock_api_ErrNone {H : Type} : DataW H := .iface "*errors.errorString" (.ptr (.agg [.lit (.string [112, 97, 100, 100, 111, 99, 107, 58, 32, 110, 111, 110, 101])]))
def laid_paddock_api_ErrExists {H : Type} : DataW H := .iface "*errors.errorString" (.ptr (.agg [.lit (.string [112, 97, 100, 100, 111, 99, 107, 58, 32, 101, 120, 105, 115, 116, 115])]))
def laid_paddock_api_ErrState {H : Type} : DataW H := .iface "*errors.errorString" (.ptr (.agg [.lit (.string [112, 97, 100, 100, 111, 99, 107, 58, 32, 115, 116, 97, 116, 101])]))
def laid_paddock_api_ErrForm {H : Type} : DataW H := .iface "*errors.errorString" (.ptr (.agg [.lit (.string [112, 97, 100, 100, 111, 99, 107, 58, 32, 102, 111, 114, 109])]))
def laid_paddock_api_ErrBlocked {H : Type} : DataW H := .iface "*errors.errorString" (.ptr (.agg [.lit (.string [112, 97, 100, 100, 111, 99, 107, 58, 32, 98, 108, 111, 99, 107, 101, 100])]))
def laid_paddock_api_ErrPath {H : Type} : DataW H := .iface "*errors.errorString" (.ptr (.agg [.lit (.string [112, 97, 100, 100, 111, 99, 107, 58, 32, 112, 97, 116, 104])]))
def laid_paddock_api_ErrGoal {H : Type} : DataW H := .iface "*errors.errorString" (.ptr (.agg [.lit (.string [112, 97, 100, 100, 111, 99, 107, 58, 32, 103, 111, 97, 108])]))

/-- 'paddocklaw05.ColumnTexts': WHATEVER THE INPUT: true; the input reads as it did. -/
def columnTextsSpec : ChangeSpec := { name := "columnTexts", fn := fun _ => fun
  | [d1, d2] => { results := [.lit (.bool true)], args := [d1, d2] }
  | _ => none }
def columnTextsRow : OpenClaim := { program := "ytkjecihiipjngaadoor", sum := "e09b0c7d8c61b0897aeadf07143f1a659732cd497fcd2df28e6aa4290ddb6864", func := "paddock/paddocklaw05.ColumnTexts", spec := "columnTexts", named := ["paddock/api.ErrFull", "paddock/api.ErrRange"], apart := false, laid := [("paddock/api.ErrRange", laid_paddock_api_ErrRange), ("paddock/api.ErrFull", laid_paddock_api_ErrFull)] }
def ColumnTextsSaid : Prop := columnTextsRow.holds Tryd.pinned (OpenSpec.ofChange columnTextsSpec)

/-- ITS FALSE NEIGHBOUR: 'it returns false'. Refute it at one input. -/
def columnTextsWrong : ChangeSpec := { name := "columnTexts", fn := fun _ => fun
  | [d1, d2] => { results := [.lit (.bool false)], args := [d1, d2] }
  | _ => none }
def ColumnTextsWrongFalsely : Prop := columnTextsRow.holds Tryd.pinned (OpenSpec.ofChange columnTextsWrong)

/-- 'paddocklaw05.ColumnFull': WHATEVER THE INPUT: true; the input reads as it did. -/
def columnFullSpec : ChangeSpec := { name := "columnFull", fn := fun _ => fun
  | [d1, d2] => { results := [.lit (.bool true)], args := [d1, d2] }
  | _ => none }
def columnFullRow : OpenClaim := { program := "ytkjecihiipjngaadoor", sum := "e09b0c7d8c61b0897aeadf07143f1a659732cd497fcd2df28e6aa4290ddb6864", func := "paddock/paddocklaw05.ColumnFull", spec := "columnFull", named := ["paddock/api.ErrFull", "paddock/api.ErrRange"], apart := false, laid := [("paddock/api.ErrRange", laid_paddock_api_ErrRange), ("paddock/api.ErrFull", laid_paddock_api_ErrFull)] }
def ColumnFullSaid : Prop := columnFullRow.holds Tryd.pinned (OpenSpec.ofChange columnFullSpec)

/-- ITS FALSE NEIGHBOUR: 'it returns false'. Refute it at one input. -/
def columnFullWrong : ChangeSpec := { name := "columnFull", fn := fun _ => fun
  | [d1, d2] => { results := [.lit (.bool false)], args := [d1, d2] }
  | _ => none }
def ColumnFullWrongFalsely : Prop := columnFullRow.holds Tryd.pinned (OpenSpec.ofChange columnFullWrong)

/-- 'paddocklaw03.MasksBoth': WHATEVER THE INPUT: true; the input reads as it did. -/
def masksBothSpec : ChangeSpec := { name := "masksBoth", fn := fun _ => fun
  | [d1, d2, d3] => { results := [.lit (.bool true)], args := [d1, d2, d3] }
  | _ => none }
def masksBothRow : OpenClaim := { program := "ytkjecihiipjngaadoor", sum := "e09b0c7d8c61b0897aeadf07143f1a659732cd497fcd2df28e6aa4290ddb6864", func := "paddock/paddocklaw03.MasksBoth", spec := "masksBoth", named := ["paddock/api.ErrKind"], apart := false, laid := [("paddock/api.ErrKind", laid_paddock_api_ErrKind)] }
def MasksBothSaid : Prop := masksBothRow.holds Tryd.pinned (OpenSpec.ofChange masksBothSpec)

/-- ITS FALSE NEIGHBOUR: 'it returns false'. Refute it at one input. -/
def masksBothWrong : ChangeSpec := { name := "masksBoth", fn := fun _ => fun
  | [d1, d2, d3] => { results := [.lit (.bool false)], args := [d1, d2, d3] }
  | _ => none }
def MasksBothWrongFalsely : Prop := masksBothRow.holds Tryd.pinned (OpenSpec.ofChange masksBothWrong)

/-- 'paddocklaw03.MasksFits': WHATEVER THE INPUT: true; the input reads as it did. -/
def masksFitsSpec : ChangeSpec := { name := "masksFits", fn := fun _ => fun
  | [d1, d2, d3] => { results := [.lit (.bool true)], args := [d1, d2, d3] }
  | _ => none }
def masksFitsRow : OpenClaim := { program := "ytkjecihiipjngaadoor", sum := "e09b0c7d8c61b0897aeadf07143f1a659732cd497fcd2df28e6aa4290ddb6864", func := "paddock/paddocklaw03.MasksFits", spec := "masksFits", named := ["paddock/api.ErrKind"], apart := false, laid := [("paddock/api.ErrKind", laid_paddock_api_ErrKind)] }
def MasksFitsSaid : Prop := masksFitsRow.holds Tryd.pinned (OpenSpec.ofChange masksFitsSpec)

/-- ITS FALSE NEIGHBOUR: 'it returns false'. Refute it at one input. -/
def masksFitsWrong : ChangeSpec := { name := "masksFits", fn := fun _ => fun
  | [d1, d2, d3] => { results := [.lit (.bool false)], args := [d1, d2, d3] }
  | _ => none }
def MasksFitsWrongFalsely : Prop := masksFitsRow.holds Tryd.pinned (OpenSpec.ofChange masksFitsWrong)

/-- 'paddocklaw03.MasksOrder': WHATEVER THE INPUT: true; the input reads as it did. -/
def masksOrderSpec : ChangeSpec := { name := "masksOrder", fn := fun _ => fun
  | [d1, d2] => { results := [.lit (.bool true)], args := [d1, d2] }
  | _ => none }
def masksOrderRow : OpenClaim := { program := "ytkjecihiipjngaadoor", sum := "e09b0c7d8c61b0897aeadf07143f1a659732cd497fcd2df28e6aa4290ddb6864", func := "paddock/paddocklaw03.MasksOrder", spec := "masksOrder", unfollowed := true, recurses := true, named := ["paddock/api.ErrKind"], apart := false, laid := [("paddock/api.ErrKind", laid_paddock_api_ErrKind)] }
def MasksOrderSaid : Prop := masksOrderRow.holds Tryd.pinned (OpenSpec.ofChange masksOrderSpec)

/-- ITS FALSE NEIGHBOUR: 'it returns false'. Refute it at one input. -/
def masksOrderWrong : ChangeSpec := { name := "masksOrder", fn := fun _ => fun
  | [d1, d2] => { results := [.lit (.bool false)], args := [d1, d2] }
  | _ => none }
def MasksOrderWrongFalsely : Prop := masksOrderRow.holds Tryd.pinned (OpenSpec.ofChange masksOrderWrong)

/-- 'paddocklaw03.MasksKinds': WHATEVER THE INPUT: true; the input reads as it did. -/
def masksKindsSpec : ChangeSpec := { name := "masksKinds", fn := fun _ => fun
  | [d1, d2] => { results := [.lit (.bool true)], args := [d1, d2] }
  | _ => none }
def masksKindsRow : OpenClaim := { program := "ytkjecihiipjngaadoor", sum := "e09b0c7d8c61b0897aeadf07143f1a659732cd497fcd2df28e6aa4290ddb6864", func := "paddock/paddocklaw03.MasksKinds", spec := "masksKinds", named := ["paddock/api.ErrKind", "math/bits.deBruijn64tab"], apart := false, laid := [("math/bits.deBruijn64tab", laid_math_bits_deBruijn64tab), ("paddock/api.ErrKind", laid_paddock_api_ErrKind)] }
def MasksKindsSaid : Prop := masksKindsRow.holds Tryd.pinned (OpenSpec.ofChange masksKindsSpec)

/-- ITS FALSE NEIGHBOUR: 'it returns false'. Refute it at one input. -/
def masksKindsWrong : ChangeSpec := { name := "masksKinds", fn := fun _ => fun
  | [d1, d2] => { results := [.lit (.bool false)], args := [d1, d2] }
  | _ => none }
def MasksKindsWrongFalsely : Prop := masksKindsRow.holds Tryd.pinned (OpenSpec.ofChange masksKindsWrong)

/-- 'paddocklaw05.ColumnEmpties': WHATEVER THE INPUT: true; the input reads as it did. -/
def columnEmptiesSpec : ChangeSpec := { name := "columnEmpties", fn := fun _ => fun
  | [d] => { results := [.lit (.bool true)], args := [d] }
  | _ => none }
def columnEmptiesRow : OpenClaim := { program := "ytkjecihiipjngaadoor", sum := "e09b0c7d8c61b0897aeadf07143f1a659732cd497fcd2df28e6aa4290ddb6864", func := "paddock/paddocklaw05.ColumnEmpties", spec := "columnEmpties", inPlace := ["internal/reflectlite.TypeOf"], unfollowed := true, recurses := true, named := ["paddock/api.ErrFull", "paddock/api.ErrRange", "paddock/api.ErrNone", "paddock/api.ErrExists", "paddock/api.ErrKind", "paddock/api.ErrState", "paddock/api.ErrForm", "paddock/api.ErrBlocked", "paddock/api.ErrPath", "paddock/api.ErrGoal"], apart := false, laid := [("paddock/api.ErrRange", laid_paddock_api_ErrRange), ("paddock/api.ErrFull", laid_paddock_api_ErrFull), ("paddock/api.ErrNone", laid_paddock_api_ErrNone), ("paddock/api.ErrExists", laid_paddock_api_ErrExists), ("paddock/api.ErrKind", laid_paddock_api_ErrKind), ("paddock/api.ErrState", laid_paddock_api_ErrState), ("paddock/api.ErrForm", laid_paddock_api_ErrForm), ("paddock/api.ErrBlocked", laid_paddock_api_ErrBlocked), ("paddock/api.ErrPath", laid_paddock_api_ErrPath), ("paddock/api.ErrGoal", laid_paddock_api_ErrGoal)] }
def ColumnEmptiesSaid : Prop := columnEmptiesRow.holds Tryd.pinned (OpenSpec.ofChange columnEmptiesSpec)

/-- ITS FALSE NEIGHBOUR: 'it returns false'. Refute it at one input. -/
def columnEmptiesWrong : ChangeSpec := { name := "columnEmpties", fn := fun _ => fun
  | [d] => { results := [.lit (.bool false)], args := [d] }
  | _ => none }
def ColumnEmptiesWrongFalsely : Prop := columnEmptiesRow.holds Tryd.pinned (OpenSpec.ofChange columnEmptiesWrong)

/-- 'paddocklaw03.MasksBack': WHATEVER THE INPUT: true; the input reads as it did. -/
def masksBackSpec : ChangeSpec := { name := "masksBack", fn := fun _ => fun
  | [d1, d2] => { results := [.lit (.bool true)], args := [d1, d2] }
  | _ => none }
def masksBackRow : OpenClaim := { program := "ytkjecihiipjngaadoor", sum := "e09b0c7d8c61b0897aeadf07143f1a659732cd497fcd2df28e6aa4290ddb6864", func := "paddock/paddocklaw03.MasksBack", spec := "masksBack", unfollowed := true, recurses := true, named := ["paddock/api.ErrKind", "math/bits.deBruijn64tab"], apart := false, laid := [("math/bits.deBruijn64tab", laid_math_bits_deBruijn64tab), ("paddock/api.ErrKind", laid_paddock_api_ErrKind)] }
def MasksBackSaid : Prop := masksBackRow.holds Tryd.pinned (OpenSpec.ofChange masksBackSpec)

/-- ITS FALSE NEIGHBOUR: 'it returns false'. Refute it at one input. -/
def masksBackWrong : ChangeSpec := { name := "masksBack", fn := fun _ => fun
  | [d1, d2] => { results := [.lit (.bool false)], args := [d1, d2] }
  | _ => none }
def MasksBackWrongFalsely : Prop := masksBackRow.holds Tryd.pinned (OpenSpec.ofChange masksBackWrong)

/-- 'paddocklaw05.ColumnPlays': WHATEVER THE INPUT: true; the input reads as it did. -/
def columnPlaysSpec : ChangeSpec := { name := "columnPlays", fn := fun _ => fun
  | [d1, d2] => { results := [.lit (.bool true)], args := [d1, d2] }
  | _ => none }
def columnPlaysRow : OpenClaim := { program := "ytkjecihiipjngaadoor", sum := "e09b0c7d8c61b0897aeadf07143f1a659732cd497fcd2df28e6aa4290ddb6864", func := "paddock/paddocklaw05.ColumnPlays", spec := "columnPlays", inPlace := ["internal/reflectlite.TypeOf"], unfollowed := true, recurses := true, named := ["paddock/api.ErrFull", "paddock/api.ErrRange", "paddock/api.ErrNone", "paddock/api.ErrExists", "paddock/api.ErrKind", "paddock/api.ErrState", "paddock/api.ErrForm", "paddock/api.ErrBlocked", "paddock/api.ErrPath", "paddock/api.ErrGoal"], apart := false, laid := [("paddock/api.ErrRange", laid_paddock_api_ErrRange), ("paddock/api.ErrFull", laid_paddock_api_ErrFull), ("paddock/api.ErrNone", laid_paddock_api_ErrNone), ("paddock/api.ErrExists", laid_paddock_api_ErrExists), ("paddock/api.ErrKind", laid_paddock_api_ErrKind), ("paddock/api.ErrState", laid_paddock_api_ErrState), ("paddock/api.ErrForm", laid_paddock_api_ErrForm), ("paddock/api.ErrBlocked", laid_paddock_api_ErrBlocked), ("paddock/api.ErrPath", laid_paddock_api_ErrPath), ("paddock/api.ErrGoal", laid_paddock_api_ErrGoal)] }
def ColumnPlaysSaid : Prop := columnPlaysRow.holds Tryd.pinned (OpenSpec.ofChange columnPlaysSpec)

/-- ITS FALSE NEIGHBOUR: 'it returns false'. Refute it at one input. -/
def columnPlaysWrong : ChangeSpec := { name := "columnPlays", fn := fun _ => fun
  | [d1, d2] => { results := [.lit (.bool false)], args := [d1, d2] }
  | _ => none }
def ColumnPlaysWrongFalsely : Prop := columnPlaysRow.holds Tryd.pinned (OpenSpec.ofChange columnPlaysWrong)

/-- 'paddocklaw03.MasksOf': WHATEVER THE INPUT: true; the input reads as it did. -/
def masksOfSpec : ChangeSpec := { name := "masksOf", fn := fun _ => fun
  | [d1, d2] => { results := [.lit (.bool true)], args := [d1, d2] }
  | _ => none }
def masksOfRow : OpenClaim := { program := "ytkjecihiipjngaadoor", sum := "e09b0c7d8c61b0897aeadf07143f1a659732cd497fcd2df28e6aa4290ddb6864", func := "paddock/paddocklaw03.MasksOf", spec := "masksOf", inPlace := ["internal/reflectlite.TypeOf"], unfollowed := true, recurses := true, named := ["paddock/api.ErrKind", "paddock/api.ErrRange", "paddock/api.ErrFull", "paddock/api.ErrNone", "paddock/api.ErrExists", "paddock/api.ErrState", "paddock/api.ErrForm", "paddock/api.ErrBlocked", "paddock/api.ErrPath", "paddock/api.ErrGoal"], apart := false, laid := [("paddock/api.ErrRange", laid_paddock_api_ErrRange), ("paddock/api.ErrFull", laid_paddock_api_ErrFull), ("paddock/api.ErrNone", laid_paddock_api_ErrNone), ("paddock/api.ErrExists", laid_paddock_api_ErrExists), ("paddock/api.ErrKind", laid_paddock_api_ErrKind), ("paddock/api.ErrState", laid_paddock_api_ErrState), ("paddock/api.ErrForm", laid_paddock_api_ErrForm), ("paddock/api.ErrBlocked", laid_paddock_api_ErrBlocked), ("paddock/api.ErrPath", laid_paddock_api_ErrPath), ("paddock/api.ErrGoal", laid_paddock_api_ErrGoal)] }
def MasksOfSaid : Prop := masksOfRow.holds Tryd.pinned (OpenSpec.ofChange masksOfSpec)

/-- ITS FALSE NEIGHBOUR: 'it returns false'. Refute it at one input. -/
def masksOfWrong : ChangeSpec := { name := "masksOf", fn := fun _ => fun
  | [d1, d2] => { results := [.lit (.bool false)], args := [d1, d2] }
  | _ => none }
def MasksOfWrongFalsely : Prop := masksOfRow.holds Tryd.pinned (OpenSpec.ofChange masksOfWrong)

/- THE SECOND FORM. 'bulk': how many values and letters a reading holds, each counted each time it is reached (what is shared counts as often as it is met; a slice's spare places count too). A statement '..UptoSaid' is the law's where the arguments, and the package variables that the reading takes, are together of bulk at most 1048576: NARROWER than '..Said'. Prove '..Said' where nothing that the law and all that it calls make is longer than what came in: it says more and counts as full. Else prove '..UptoSaid'. A law counts once. -/
mutual
def uptoBulk {H : Type} : DataW H → Nat
  | .lit (.string bytes) => bytes.length + 1
  | .lit _ => 1
  | .nil => 1
  | .ptr d => uptoBulk d + 1
  | .slice elems spare => uptoBulkAll elems + uptoBulkAll spare + 1
  | .agg parts => uptoBulkAll parts + 1
  | .iface _ d => uptoBulk d + 1
  | .map entries => uptoBulkEntries entries + 1
  | .held _ => 1
def uptoBulkAll {H : Type} : List (DataW H) → Nat
  | [] => 0
  | d :: r => uptoBulk d + uptoBulkAll r
def uptoBulkEntries {H : Type} : List (Lit × DataW H) → Nat
  | [] => 0
  | x :: r => uptoBulkEntry x + uptoBulkEntries r
def uptoBulkEntry {H : Type} : Lit × DataW H → Nat
  | (.string bytes, d) => bytes.length + uptoBulk d + 1
  | (_, d) => uptoBulk d + 1
 end
def uptoSmall : (H : Type) → List (DataW H) → Bool := fun _ ds => decide (uptoBulkAll ds ≤ 1048576)
def OpenSpec.upto (s : _root_.Go.ChangeSpec) : _root_.Go.OpenSpec := { _root_.Go.OpenSpec.ofChange s with cond := some uptoSmall }

/-- 'paddocklaw05.ColumnTexts', WHERE WHAT IT READS IS OF BULK AT MOST 1048576: true; the input reads as it did. -/
def columnTextsUptoRow : OpenClaim := { program := "ytkjecihiipjngaadoor", sum := "e09b0c7d8c61b0897aeadf07143f1a659732cd497fcd2df28e6aa4290ddb6864", func := "paddock/paddocklaw05.ColumnTexts", spec := "columnTexts", named := ["paddock/api.ErrFull", "paddock/api.ErrRange"], apart := false, laid := [("paddock/api.ErrRange", laid_paddock_api_ErrRange), ("paddock/api.ErrFull", laid_paddock_api_ErrFull)], narrowed := true }
def ColumnTextsUptoSaid : Prop := columnTextsUptoRow.holds Tryd.pinned (OpenSpec.upto columnTextsSpec)

/-- 'paddocklaw05.ColumnFull', WHERE WHAT IT READS IS OF BULK AT MOST 1048576: true; the input reads as it did. -/
def columnFullUptoRow : OpenClaim := { program := "ytkjecihiipjngaadoor", sum := "e09b0c7d8c61b0897aeadf07143f1a659732cd497fcd2df28e6aa4290ddb6864", func := "paddock/paddocklaw05.ColumnFull", spec := "columnFull", named := ["paddock/api.ErrFull", "paddock/api.ErrRange"], apart := false, laid := [("paddock/api.ErrRange", laid_paddock_api_ErrRange), ("paddock/api.ErrFull", laid_paddock_api_ErrFull)], narrowed := true }
def ColumnFullUptoSaid : Prop := columnFullUptoRow.holds Tryd.pinned (OpenSpec.upto columnFullSpec)

/-- 'paddocklaw03.MasksBoth', WHERE WHAT IT READS IS OF BULK AT MOST 1048576: true; the input reads as it did. -/
def masksBothUptoRow : OpenClaim := { program := "ytkjecihiipjngaadoor", sum := "e09b0c7d8c61b0897aeadf07143f1a659732cd497fcd2df28e6aa4290ddb6864", func := "paddock/paddocklaw03.MasksBoth", spec := "masksBoth", named := ["paddock/api.ErrKind"], apart := false, laid := [("paddock/api.ErrKind", laid_paddock_api_ErrKind)], narrowed := true }
def MasksBothUptoSaid : Prop := masksBothUptoRow.holds Tryd.pinned (OpenSpec.upto masksBothSpec)

/-- 'paddocklaw03.MasksFits', WHERE WHAT IT READS IS OF BULK AT MOST 1048576: true; the input reads as it did. -/
def masksFitsUptoRow : OpenClaim := { program := "ytkjecihiipjngaadoor", sum := "e09b0c7d8c61b0897aeadf07143f1a659732cd497fcd2df28e6aa4290ddb6864", func := "paddock/paddocklaw03.MasksFits", spec := "masksFits", named := ["paddock/api.ErrKind"], apart := false, laid := [("paddock/api.ErrKind", laid_paddock_api_ErrKind)], narrowed := true }
def MasksFitsUptoSaid : Prop := masksFitsUptoRow.holds Tryd.pinned (OpenSpec.upto masksFitsSpec)

/-- 'paddocklaw03.MasksOrder', WHERE WHAT IT READS IS OF BULK AT MOST 1048576: true; the input reads as it did. -/
def masksOrderUptoRow : OpenClaim := { program := "ytkjecihiipjngaadoor", sum := "e09b0c7d8c61b0897aeadf07143f1a659732cd497fcd2df28e6aa4290ddb6864", func := "paddock/paddocklaw03.MasksOrder", spec := "masksOrder", unfollowed := true, recurses := true, named := ["paddock/api.ErrKind"], apart := false, laid := [("paddock/api.ErrKind", laid_paddock_api_ErrKind)], narrowed := true }
def MasksOrderUptoSaid : Prop := masksOrderUptoRow.holds Tryd.pinned (OpenSpec.upto masksOrderSpec)

/-- 'paddocklaw03.MasksKinds', WHERE WHAT IT READS IS OF BULK AT MOST 1048576: true; the input reads as it did. -/
def masksKindsUptoRow : OpenClaim := { program := "ytkjecihiipjngaadoor", sum := "e09b0c7d8c61b0897aeadf07143f1a659732cd497fcd2df28e6aa4290ddb6864", func := "paddock/paddocklaw03.MasksKinds", spec := "masksKinds", named := ["paddock/api.ErrKind", "math/bits.deBruijn64tab"], apart := false, laid := [("math/bits.deBruijn64tab", laid_math_bits_deBruijn64tab), ("paddock/api.ErrKind", laid_paddock_api_ErrKind)], narrowed := true }
def MasksKindsUptoSaid : Prop := masksKindsUptoRow.holds Tryd.pinned (OpenSpec.upto masksKindsSpec)

/-- 'paddocklaw05.ColumnEmpties', WHERE WHAT IT READS IS OF BULK AT MOST 1048576: true; the input reads as it did. -/
def columnEmptiesUptoRow : OpenClaim := { program := "ytkjecihiipjngaadoor", sum := "e09b0c7d8c61b0897aeadf07143f1a659732cd497fcd2df28e6aa4290ddb6864", func := "paddock/paddocklaw05.ColumnEmpties", spec := "columnEmpties", inPlace := ["internal/reflectlite.TypeOf"], unfollowed := true, recurses := true, named := ["paddock/api.ErrFull", "paddock/api.ErrRange", "paddock/api.ErrNone", "paddock/api.ErrExists", "paddock/api.ErrKind", "paddock/api.ErrState", "paddock/api.ErrForm", "paddock/api.ErrBlocked", "paddock/api.ErrPath", "paddock/api.ErrGoal"], apart := false, laid := [("paddock/api.ErrRange", laid_paddock_api_ErrRange), ("paddock/api.ErrFull", laid_paddock_api_ErrFull), ("paddock/api.ErrNone", laid_paddock_api_ErrNone), ("paddock/api.ErrExists", laid_paddock_api_ErrExists), ("paddock/api.ErrKind", laid_paddock_api_ErrKind), ("paddock/api.ErrState", laid_paddock_api_ErrState), ("paddock/api.ErrForm", laid_paddock_api_ErrForm), ("paddock/api.ErrBlocked", laid_paddock_api_ErrBlocked), ("paddock/api.ErrPath", laid_paddock_api_ErrPath), ("paddock/api.ErrGoal", laid_paddock_api_ErrGoal)], narrowed := true }
def ColumnEmptiesUptoSaid : Prop := columnEmptiesUptoRow.holds Tryd.pinned (OpenSpec.upto columnEmptiesSpec)

/-- 'paddocklaw03.MasksBack', WHERE WHAT IT READS IS OF BULK AT MOST 1048576: true; the input reads as it did. -/
def masksBackUptoRow : OpenClaim := { program := "ytkjecihiipjngaadoor", sum := "e09b0c7d8c61b0897aeadf07143f1a659732cd497fcd2df28e6aa4290ddb6864", func := "paddock/paddocklaw03.MasksBack", spec := "masksBack", unfollowed := true, recurses := true, named := ["paddock/api.ErrKind", "math/bits.deBruijn64tab"], apart := false, laid := [("math/bits.deBruijn64tab", laid_math_bits_deBruijn64tab), ("paddock/api.ErrKind", laid_paddock_api_ErrKind)], narrowed := true }
def MasksBackUptoSaid : Prop := masksBackUptoRow.holds Tryd.pinned (OpenSpec.upto masksBackSpec)

/-- 'paddocklaw05.ColumnPlays', WHERE WHAT IT READS IS OF BULK AT MOST 1048576: true; the input reads as it did. -/
def columnPlaysUptoRow : OpenClaim := { program := "ytkjecihiipjngaadoor", sum := "e09b0c7d8c61b0897aeadf07143f1a659732cd497fcd2df28e6aa4290ddb6864", func := "paddock/paddocklaw05.ColumnPlays", spec := "columnPlays", inPlace := ["internal/reflectlite.TypeOf"], unfollowed := true, recurses := true, named := ["paddock/api.ErrFull", "paddock/api.ErrRange", "paddock/api.ErrNone", "paddock/api.ErrExists", "paddock/api.ErrKind", "paddock/api.ErrState", "paddock/api.ErrForm", "paddock/api.ErrBlocked", "paddock/api.ErrPath", "paddock/api.ErrGoal"], apart := false, laid := [("paddock/api.ErrRange", laid_paddock_api_ErrRange), ("paddock/api.ErrFull", laid_paddock_api_ErrFull), ("paddock/api.ErrNone", laid_paddock_api_ErrNone), ("paddock/api.ErrExists", laid_paddock_api_ErrExists), ("paddock/api.ErrKind", laid_paddock_api_ErrKind), ("paddock/api.ErrState", laid_paddock_api_ErrState), ("paddock/api.ErrForm", laid_paddock_api_ErrForm), ("paddock/api.ErrBlocked", laid_paddock_api_ErrBlocked), ("paddock/api.ErrPath", laid_paddock_api_ErrPath), ("paddock/api.ErrGoal", laid_paddock_api_ErrGoal)], narrowed := true }
def ColumnPlaysUptoSaid : Prop := columnPlaysUptoRow.holds Tryd.pinned (OpenSpec.upto columnPlaysSpec)

/-- 'paddocklaw03.MasksOf', WHERE WHAT IT READS IS OF BULK AT MOST 1048576: true; the input reads as it did. -/
def masksOfUptoRow : OpenClaim := { program := "ytkjecihiipjngaadoor", sum := "e09b0c7d8c61b0897aeadf07143f1a659732cd497fcd2df28e6aa4290ddb6864", func := "paddock/paddocklaw03.MasksOf", spec := "masksOf", inPlace := ["internal/reflectlite.TypeOf"], unfollowed := true, recurses := true, named := ["paddock/api.ErrKind", "paddock/api.ErrRange", "paddock/api.ErrFull", "paddock/api.ErrNone", "paddock/api.ErrExists", "paddock/api.ErrState", "paddock/api.ErrForm", "paddock/api.ErrBlocked", "paddock/api.ErrPath", "paddock/api.ErrGoal"], apart := false, laid := [("paddock/api.ErrRange", laid_paddock_api_ErrRange), ("paddock/api.ErrFull", laid_paddock_api_ErrFull), ("paddock/api.ErrNone", laid_paddock_api_ErrNone), ("paddock/api.ErrExists", laid_paddock_api_ErrExists), ("paddock/api.ErrKind", laid_paddock_api_ErrKind), ("paddock/api.ErrState", laid_paddock_api_ErrState), ("paddock/api.ErrForm", laid_paddock_api_ErrForm), ("paddock/api.ErrBlocked", laid_paddock_api_ErrBlocked), ("paddock/api.ErrPath", laid_paddock_api_ErrPath), ("paddock/api.ErrGoal", laid_paddock_api_ErrGoal)], narrowed := true }
def MasksOfUptoSaid : Prop := masksOfUptoRow.holds Tryd.pinned (OpenSpec.upto masksOfSpec)

end Rows
end Go.Proofs.YtkjecihiipjngaaDoor
