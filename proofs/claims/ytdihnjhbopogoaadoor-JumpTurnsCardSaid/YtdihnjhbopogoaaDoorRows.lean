/-
  NARROWER THAN 'FOR EVERY INPUT', by the rows' own cells (each row's printed sentence says how): JumpJumps: laid · JumpStraight: laid · JumpExpands: laid · JumpSearches: laid · JumpTurns: laid · JumpRoutes: laid.
  DERIVED. THE GIVEN ROWS OF THIS SEAT. 6 by the template 'for every input the law returns true; each argument reads behind the call as it read before'; 0 by the template 'total and deterministic' (their statements: YtdihnjhbopogoaaDoorTotals.lean).
  GIVEN WITH THE SEED: the statements are not yours to turn. If you find one false, say at which input.
  Laid BY PROGRAM, IN A SANDBOX (cutbox-rows.mjs): the forced cells as the released guide's own fill.sh prints them over the translation 55cacf357318a70d… (all of the seat's roots in one cut). By AI agents, Wed Nov 11 2026. No macro, syntax, notation, axiom, sorry.
-/
import Derived.Test.YtdihnjhbopogoaaDoorChecked
import GoSem.Claim
import GoSem.ClaimJoined
import GoSem.ClaimMapViews
import Derived.JoinedTies
import Derived.KernelRfl
namespace Go.Proofs.YtdihnjhbopogoaaDoor
/- THE CELL 'sum', in the pinned program and in every row, IS THE sha256 OF THE DUMP (.gsa) THAT YtdihnjhbopogoaaDoorProg.lean LOADS. Nothing in Lean hashes anything: it is a label: what it is worth is what the hold of that sum in a sandbox is worth. -/
noncomputable def Tryd.pinned : Pinned := { name := "ytdihnjhbopogoaadoor", sum := "55cacf357318a70df45ce6ab8162518441bedb6bf2ad720c34110fde7d1c5173", checked := Tryd.checked }
namespace Rows
def none {H : Type} : Left H := { results := [], args := [] }

/- WHAT THE LISTED PACKAGE-LEVEL VARIABLES READ AS WHEN THE CALL BEGINS. Each datum BY PROGRAM (the guide's laid-datum.mjs) off the statement by which the dump's own 'gosem.cut.vars' lays the variable. In a bare row this is a premise. The card (YtdihnjhbopogoaaDoorCards.lean) ties it to the program's text. -/
def laid_paddock_api_ErrRange {H : Type} : DataW H := .iface "*errors.errorString" (.ptr (.agg [.lit (.string [112, 97, 100, 100, 111, 99, 107, 58, 32, 114, 97, 110, 103, 101])]))
def laid_paddock_api_ErrFull {H : Type} : DataW H := .iface "*errors.errorString" (.ptr (.agg [.lit (.string [112, 97, 100, 100, 111, 99, 107, 58, 32, 102, 117, 108, 108])]))
def laid_paddock_api_ErrNone {H : Type} : DataW H := .iface "*errors.errorString" (.ptr (.agg [.lit (.string [112, 97, 100, 100, 111, 99, 107, 58, 32, 110, 111, 110, 101])]))
def laid_paddock_api_ErrForm {H : Type} : DataW H := .iface "*errors.errorString" (.ptr (.agg [.lit (.string [112, 97, 100, 100, 111, 99, 107, 58, 32, 102, 111, 114, 109])]))
def laid_paddock_api_ErrPath {H : Type} : DataW H := .iface "*errors.errorString" (.ptr (.agg [.lit (.string [112, 97, 100, 100, 111, 99, 107, 58, 32, 112, 97, 116, 104])]))
def laid_paddock_api_ErrExists {H : Type} : DataW H := .iface "*errors.errorString" (.ptr (.agg [.lit (.string [112, 97, 100, 100, 111, 99, 107, 58, 32, 101, 120, 105, 115, 116, 115])]))
def laid_paddock_api_ErrKind {H : Type} : DataW H := .iface "*errors.errorString" (.ptr (.agg [.lit (.string [112, 97, 100, 100, 111, 99, 107, 58, 32, 107, 105, 110, 100])]))
def laid_paddock_api_ErrState {H : Type} : DataW H := .iface "*errors.errorString" (.ptr (.agg [.lit (.string [112, 97, 100, 100, 111, 99, 107, 58, 32, 115, 116, 97, 116, 101])]))
def laid_paddock_api_ErrBlocked {H : Type} : DataW H := .iface "*errors.errorString" (.ptr (.agg [.lit (.string [112, 97, 100, 100, 111, 99, 107, 58, 32, 98, 108, 111, 99, 107, 101, 100])]))
def laid_paddock_api_ErrGoal {H : Type} : DataW H := .iface "*errors.errorString" (.ptr (.agg [.lit (.string [112, 97, 100, 100, 111, 99, 107, 58, 32, 103, 111, 97, 108])]))

/-- 'paddocklaw18.JumpJumps': WHATEVER THE INPUT: true; the input reads as it did. -/
def jumpJumpsSpec : ChangeSpec := { name := "jumpJumps", fn := fun _ => fun
  | [d1, d2] => { results := [.lit (.bool true)], args := [d1, d2] }
  | _ => none }
def jumpJumpsRow : OpenClaim := { program := "ytdihnjhbopogoaadoor", sum := "55cacf357318a70df45ce6ab8162518441bedb6bf2ad720c34110fde7d1c5173", func := "paddock/paddocklaw18.JumpJumps", spec := "jumpJumps", unfollowed := true, recurses := true, named := ["paddock/api.ErrForm", "paddock/api.ErrRange", "paddock/api.ErrPath", "paddock/api.ErrFull", "paddock/api.ErrNone"], apart := false, laid := [("paddock/api.ErrRange", laid_paddock_api_ErrRange), ("paddock/api.ErrFull", laid_paddock_api_ErrFull), ("paddock/api.ErrNone", laid_paddock_api_ErrNone), ("paddock/api.ErrForm", laid_paddock_api_ErrForm), ("paddock/api.ErrPath", laid_paddock_api_ErrPath)] }
def JumpJumpsSaid : Prop := jumpJumpsRow.holds Tryd.pinned (OpenSpec.ofChange jumpJumpsSpec)

/-- ITS FALSE NEIGHBOUR: 'it returns false'. Refute it at one input. -/
def jumpJumpsWrong : ChangeSpec := { name := "jumpJumps", fn := fun _ => fun
  | [d1, d2] => { results := [.lit (.bool false)], args := [d1, d2] }
  | _ => none }
def JumpJumpsWrongFalsely : Prop := jumpJumpsRow.holds Tryd.pinned (OpenSpec.ofChange jumpJumpsWrong)

/-- 'paddocklaw18.JumpStraight': WHATEVER THE INPUT: true; the input reads as it did. -/
def jumpStraightSpec : ChangeSpec := { name := "jumpStraight", fn := fun _ => fun
  | [d1, d2] => { results := [.lit (.bool true)], args := [d1, d2] }
  | _ => none }
def jumpStraightRow : OpenClaim := { program := "ytdihnjhbopogoaadoor", sum := "55cacf357318a70df45ce6ab8162518441bedb6bf2ad720c34110fde7d1c5173", func := "paddock/paddocklaw18.JumpStraight", spec := "jumpStraight", unfollowed := true, recurses := true, named := ["paddock/api.ErrForm", "paddock/api.ErrRange", "paddock/api.ErrPath", "paddock/api.ErrFull", "paddock/api.ErrNone"], apart := false, laid := [("paddock/api.ErrRange", laid_paddock_api_ErrRange), ("paddock/api.ErrFull", laid_paddock_api_ErrFull), ("paddock/api.ErrNone", laid_paddock_api_ErrNone), ("paddock/api.ErrForm", laid_paddock_api_ErrForm), ("paddock/api.ErrPath", laid_paddock_api_ErrPath)] }
def JumpStraightSaid : Prop := jumpStraightRow.holds Tryd.pinned (OpenSpec.ofChange jumpStraightSpec)

/-- ITS FALSE NEIGHBOUR: 'it returns false'. Refute it at one input. -/
def jumpStraightWrong : ChangeSpec := { name := "jumpStraight", fn := fun _ => fun
  | [d1, d2] => { results := [.lit (.bool false)], args := [d1, d2] }
  | _ => none }
def JumpStraightWrongFalsely : Prop := jumpStraightRow.holds Tryd.pinned (OpenSpec.ofChange jumpStraightWrong)

/-- 'paddocklaw18.JumpExpands': WHATEVER THE INPUT: true; the input reads as it did. -/
def jumpExpandsSpec : ChangeSpec := { name := "jumpExpands", fn := fun _ => fun
  | [d1, d2, d3] => { results := [.lit (.bool true)], args := [d1, d2, d3] }
  | _ => none }
def jumpExpandsRow : OpenClaim := { program := "ytdihnjhbopogoaadoor", sum := "55cacf357318a70df45ce6ab8162518441bedb6bf2ad720c34110fde7d1c5173", func := "paddock/paddocklaw18.JumpExpands", spec := "jumpExpands", inPlace := ["internal/reflectlite.TypeOf"], unfollowed := true, recurses := true, named := ["paddock/api.ErrForm", "paddock/api.ErrRange", "paddock/api.ErrPath", "paddock/api.ErrFull", "paddock/api.ErrNone", "paddock/api.ErrExists", "paddock/api.ErrKind", "paddock/api.ErrState", "paddock/api.ErrBlocked", "paddock/api.ErrGoal"], apart := false, laid := [("paddock/api.ErrRange", laid_paddock_api_ErrRange), ("paddock/api.ErrFull", laid_paddock_api_ErrFull), ("paddock/api.ErrNone", laid_paddock_api_ErrNone), ("paddock/api.ErrExists", laid_paddock_api_ErrExists), ("paddock/api.ErrKind", laid_paddock_api_ErrKind), ("paddock/api.ErrState", laid_paddock_api_ErrState), ("paddock/api.ErrForm", laid_paddock_api_ErrForm), ("paddock/api.ErrBlocked", laid_paddock_api_ErrBlocked), ("paddock/api.ErrPath", laid_paddock_api_ErrPath), ("paddock/api.ErrGoal", laid_paddock_api_ErrGoal)] }
def JumpExpandsSaid : Prop := jumpExpandsRow.holds Tryd.pinned (OpenSpec.ofChange jumpExpandsSpec)

/-- ITS FALSE NEIGHBOUR: 'it returns false'. Refute it at one input. -/
def jumpExpandsWrong : ChangeSpec := { name := "jumpExpands", fn := fun _ => fun
  | [d1, d2, d3] => { results := [.lit (.bool false)], args := [d1, d2, d3] }
  | _ => none }
def JumpExpandsWrongFalsely : Prop := jumpExpandsRow.holds Tryd.pinned (OpenSpec.ofChange jumpExpandsWrong)

/-- 'paddocklaw18.JumpSearches': WHATEVER THE INPUT: true; the input reads as it did. -/
def jumpSearchesSpec : ChangeSpec := { name := "jumpSearches", fn := fun _ => fun
  | [d] => { results := [.lit (.bool true)], args := [d] }
  | _ => none }
def jumpSearchesRow : OpenClaim := { program := "ytdihnjhbopogoaadoor", sum := "55cacf357318a70df45ce6ab8162518441bedb6bf2ad720c34110fde7d1c5173", func := "paddock/paddocklaw18.JumpSearches", spec := "jumpSearches", inPlace := ["internal/reflectlite.TypeOf"], unfollowed := true, recurses := true, named := ["paddock/api.ErrForm", "paddock/api.ErrRange", "paddock/api.ErrPath", "paddock/api.ErrFull", "paddock/api.ErrNone", "paddock/api.ErrExists", "paddock/api.ErrKind", "paddock/api.ErrState", "paddock/api.ErrBlocked", "paddock/api.ErrGoal"], apart := false, laid := [("paddock/api.ErrRange", laid_paddock_api_ErrRange), ("paddock/api.ErrFull", laid_paddock_api_ErrFull), ("paddock/api.ErrNone", laid_paddock_api_ErrNone), ("paddock/api.ErrExists", laid_paddock_api_ErrExists), ("paddock/api.ErrKind", laid_paddock_api_ErrKind), ("paddock/api.ErrState", laid_paddock_api_ErrState), ("paddock/api.ErrForm", laid_paddock_api_ErrForm), ("paddock/api.ErrBlocked", laid_paddock_api_ErrBlocked), ("paddock/api.ErrPath", laid_paddock_api_ErrPath), ("paddock/api.ErrGoal", laid_paddock_api_ErrGoal)] }
def JumpSearchesSaid : Prop := jumpSearchesRow.holds Tryd.pinned (OpenSpec.ofChange jumpSearchesSpec)

/-- ITS FALSE NEIGHBOUR: 'it returns false'. Refute it at one input. -/
def jumpSearchesWrong : ChangeSpec := { name := "jumpSearches", fn := fun _ => fun
  | [d] => { results := [.lit (.bool false)], args := [d] }
  | _ => none }
def JumpSearchesWrongFalsely : Prop := jumpSearchesRow.holds Tryd.pinned (OpenSpec.ofChange jumpSearchesWrong)

/-- 'paddocklaw18.JumpTurns': WHATEVER THE INPUT: true; the input reads as it did. -/
def jumpTurnsSpec : ChangeSpec := { name := "jumpTurns", fn := fun _ => fun
  | [d1, d2, d3] => { results := [.lit (.bool true)], args := [d1, d2, d3] }
  | _ => none }
def jumpTurnsRow : OpenClaim := { program := "ytdihnjhbopogoaadoor", sum := "55cacf357318a70df45ce6ab8162518441bedb6bf2ad720c34110fde7d1c5173", func := "paddock/paddocklaw18.JumpTurns", spec := "jumpTurns", inPlace := ["internal/reflectlite.TypeOf"], unfollowed := true, recurses := true, named := ["paddock/api.ErrForm", "paddock/api.ErrRange", "paddock/api.ErrPath", "paddock/api.ErrFull", "paddock/api.ErrNone", "paddock/api.ErrBlocked", "paddock/api.ErrExists", "paddock/api.ErrKind", "paddock/api.ErrState", "paddock/api.ErrGoal"], apart := false, laid := [("paddock/api.ErrRange", laid_paddock_api_ErrRange), ("paddock/api.ErrFull", laid_paddock_api_ErrFull), ("paddock/api.ErrNone", laid_paddock_api_ErrNone), ("paddock/api.ErrExists", laid_paddock_api_ErrExists), ("paddock/api.ErrKind", laid_paddock_api_ErrKind), ("paddock/api.ErrState", laid_paddock_api_ErrState), ("paddock/api.ErrForm", laid_paddock_api_ErrForm), ("paddock/api.ErrBlocked", laid_paddock_api_ErrBlocked), ("paddock/api.ErrPath", laid_paddock_api_ErrPath), ("paddock/api.ErrGoal", laid_paddock_api_ErrGoal)] }
def JumpTurnsSaid : Prop := jumpTurnsRow.holds Tryd.pinned (OpenSpec.ofChange jumpTurnsSpec)

/-- ITS FALSE NEIGHBOUR: 'it returns false'. Refute it at one input. -/
def jumpTurnsWrong : ChangeSpec := { name := "jumpTurns", fn := fun _ => fun
  | [d1, d2, d3] => { results := [.lit (.bool false)], args := [d1, d2, d3] }
  | _ => none }
def JumpTurnsWrongFalsely : Prop := jumpTurnsRow.holds Tryd.pinned (OpenSpec.ofChange jumpTurnsWrong)

/-- 'paddocklaw18.JumpRoutes': WHATEVER THE INPUT: true; the input reads as it did. -/
def jumpRoutesSpec : ChangeSpec := { name := "jumpRoutes", fn := fun _ => fun
  | [d] => { results := [.lit (.bool true)], args := [d] }
  | _ => none }
def jumpRoutesRow : OpenClaim := { program := "ytdihnjhbopogoaadoor", sum := "55cacf357318a70df45ce6ab8162518441bedb6bf2ad720c34110fde7d1c5173", func := "paddock/paddocklaw18.JumpRoutes", spec := "jumpRoutes", inPlace := ["internal/reflectlite.TypeOf"], unfollowed := true, recurses := true, named := ["paddock/api.ErrForm", "paddock/api.ErrRange", "paddock/api.ErrPath", "paddock/api.ErrFull", "paddock/api.ErrNone", "paddock/api.ErrGoal", "paddock/api.ErrExists", "paddock/api.ErrKind", "paddock/api.ErrState", "paddock/api.ErrBlocked"], apart := false, laid := [("paddock/api.ErrRange", laid_paddock_api_ErrRange), ("paddock/api.ErrFull", laid_paddock_api_ErrFull), ("paddock/api.ErrNone", laid_paddock_api_ErrNone), ("paddock/api.ErrExists", laid_paddock_api_ErrExists), ("paddock/api.ErrKind", laid_paddock_api_ErrKind), ("paddock/api.ErrState", laid_paddock_api_ErrState), ("paddock/api.ErrForm", laid_paddock_api_ErrForm), ("paddock/api.ErrBlocked", laid_paddock_api_ErrBlocked), ("paddock/api.ErrPath", laid_paddock_api_ErrPath), ("paddock/api.ErrGoal", laid_paddock_api_ErrGoal)] }
def JumpRoutesSaid : Prop := jumpRoutesRow.holds Tryd.pinned (OpenSpec.ofChange jumpRoutesSpec)

/-- ITS FALSE NEIGHBOUR: 'it returns false'. Refute it at one input. -/
def jumpRoutesWrong : ChangeSpec := { name := "jumpRoutes", fn := fun _ => fun
  | [d] => { results := [.lit (.bool false)], args := [d] }
  | _ => none }
def JumpRoutesWrongFalsely : Prop := jumpRoutesRow.holds Tryd.pinned (OpenSpec.ofChange jumpRoutesWrong)

/- THE SECOND FORM. 'bulk': how many values and letters a reading holds, each counted each time it is reached (what is shared counts as often as it is met; a slice's spare places count too). A statement '..UptoSaid' is the law's where the arguments, and the package variables that the reading takes, are together of bulk at most 1048576: NARROWER than '..Said'. Prove '..Said' where nothing that the law and all that it calls make is longer than what came in: it says more and counts as full. Else prove '..UptoSaid'. A law counts once. -/
mutual
def uptoBulk {H : Type} : DataW H → Nat
  | .lit (.string bytes) => bytes.length + 1
  | .lit _ => 1
  | .nil => 1
  | .ptr d => uptoBulk d + 1
  | .slice elems spare => uptoBulkAll elems + uptoBulkAll spare + 1
  | .agg parts => uptoBulkAll parts + 1
  | .iface _ d => uptoBulk d + 1
  | .map entries => uptoBulkEntries entries + 1
  | .held _ => 1
def uptoBulkAll {H : Type} : List (DataW H) → Nat
  | [] => 0
  | d :: r => uptoBulk d + uptoBulkAll r
def uptoBulkEntries {H : Type} : List (Lit × DataW H) → Nat
  | [] => 0
  | x :: r => uptoBulkEntry x + uptoBulkEntries r
def uptoBulkEntry {H : Type} : Lit × DataW H → Nat
  | (.string bytes, d) => bytes.length + uptoBulk d + 1
  | (_, d) => uptoBulk d + 1
 end
def uptoSmall : (H : Type) → List (DataW H) → Bool := fun _ ds => decide (uptoBulkAll ds ≤ 1048576)
def OpenSpec.upto (s : _root_.Go.ChangeSpec) : _root_.Go.OpenSpec := { _root_.Go.OpenSpec.ofChange s with cond := some uptoSmall }

/-- 'paddocklaw18.JumpJumps', WHERE WHAT IT READS IS OF BULK AT MOST 1048576: true; the input reads as it did. -/
def jumpJumpsUptoRow : OpenClaim := { program := "ytdihnjhbopogoaadoor", sum := "55cacf357318a70df45ce6ab8162518441bedb6bf2ad720c34110fde7d1c5173", func := "paddock/paddocklaw18.JumpJumps", spec := "jumpJumps", unfollowed := true, recurses := true, named := ["paddock/api.ErrForm", "paddock/api.ErrRange", "paddock/api.ErrPath", "paddock/api.ErrFull", "paddock/api.ErrNone"], apart := false, laid := [("paddock/api.ErrRange", laid_paddock_api_ErrRange), ("paddock/api.ErrFull", laid_paddock_api_ErrFull), ("paddock/api.ErrNone", laid_paddock_api_ErrNone), ("paddock/api.ErrForm", laid_paddock_api_ErrForm), ("paddock/api.ErrPath", laid_paddock_api_ErrPath)], narrowed := true }
def JumpJumpsUptoSaid : Prop := jumpJumpsUptoRow.holds Tryd.pinned (OpenSpec.upto jumpJumpsSpec)

/-- 'paddocklaw18.JumpStraight', WHERE WHAT IT READS IS OF BULK AT MOST 1048576: true; the input reads as it did. -/
def jumpStraightUptoRow : OpenClaim := { program := "ytdihnjhbopogoaadoor", sum := "55cacf357318a70df45ce6ab8162518441bedb6bf2ad720c34110fde7d1c5173", func := "paddock/paddocklaw18.JumpStraight", spec := "jumpStraight", unfollowed := true, recurses := true, named := ["paddock/api.ErrForm", "paddock/api.ErrRange", "paddock/api.ErrPath", "paddock/api.ErrFull", "paddock/api.ErrNone"], apart := false, laid := [("paddock/api.ErrRange", laid_paddock_api_ErrRange), ("paddock/api.ErrFull", laid_paddock_api_ErrFull), ("paddock/api.ErrNone", laid_paddock_api_ErrNone), ("paddock/api.ErrForm", laid_paddock_api_ErrForm), ("paddock/api.ErrPath", laid_paddock_api_ErrPath)], narrowed := true }
def JumpStraightUptoSaid : Prop := jumpStraightUptoRow.holds Tryd.pinned (OpenSpec.upto jumpStraightSpec)

/-- 'paddocklaw18.JumpExpands', WHERE WHAT IT READS IS OF BULK AT MOST 1048576: true; the input reads as it did. -/
def jumpExpandsUptoRow : OpenClaim := { program := "ytdihnjhbopogoaadoor", sum := "55cacf357318a70df45ce6ab8162518441bedb6bf2ad720c34110fde7d1c5173", func := "paddock/paddocklaw18.JumpExpands", spec := "jumpExpands", inPlace := ["internal/reflectlite.TypeOf"], unfollowed := true, recurses := true, named := ["paddock/api.ErrForm", "paddock/api.ErrRange", "paddock/api.ErrPath", "paddock/api.ErrFull", "paddock/api.ErrNone", "paddock/api.ErrExists", "paddock/api.ErrKind", "paddock/api.ErrState", "paddock/api.ErrBlocked", "paddock/api.ErrGoal"], apart := false, laid := [("paddock/api.ErrRange", laid_paddock_api_ErrRange), ("paddock/api.ErrFull", laid_paddock_api_ErrFull), ("paddock/api.ErrNone", laid_paddock_api_ErrNone), ("paddock/api.ErrExists", laid_paddock_api_ErrExists), ("paddock/api.ErrKind", laid_paddock_api_ErrKind), ("paddock/api.ErrState", laid_paddock_api_ErrState), ("paddock/api.ErrForm", laid_paddock_api_ErrForm), ("paddock/api.ErrBlocked", laid_paddock_api_ErrBlocked), ("paddock/api.ErrPath", laid_paddock_api_ErrPath), ("paddock/api.ErrGoal", laid_paddock_api_ErrGoal)], narrowed := true }
def JumpExpandsUptoSaid : Prop := jumpExpandsUptoRow.holds Tryd.pinned (OpenSpec.upto jumpExpandsSpec)

/-- 'paddocklaw18.JumpSearches', WHERE WHAT IT READS IS OF BULK AT MOST 1048576: true; the input reads as it did. -/
def jumpSearchesUptoRow : OpenClaim := { program := "ytdihnjhbopogoaadoor", sum := "55cacf357318a70df45ce6ab8162518441bedb6bf2ad720c34110fde7d1c5173", func := "paddock/paddocklaw18.JumpSearches", spec := "jumpSearches", inPlace := ["internal/reflectlite.TypeOf"], unfollowed := true, recurses := true, named := ["paddock/api.ErrForm", "paddock/api.ErrRange", "paddock/api.ErrPath", "paddock/api.ErrFull", "paddock/api.ErrNone", "paddock/api.ErrExists", "paddock/api.ErrKind", "paddock/api.ErrState", "paddock/api.ErrBlocked", "paddock/api.ErrGoal"], apart := false, laid := [("paddock/api.ErrRange", laid_paddock_api_ErrRange), ("paddock/api.ErrFull", laid_paddock_api_ErrFull), ("paddock/api.ErrNone", laid_paddock_api_ErrNone), ("paddock/api.ErrExists", laid_paddock_api_ErrExists), ("paddock/api.ErrKind", laid_paddock_api_ErrKind), ("paddock/api.ErrState", laid_paddock_api_ErrState), ("paddock/api.ErrForm", laid_paddock_api_ErrForm), ("paddock/api.ErrBlocked", laid_paddock_api_ErrBlocked), ("paddock/api.ErrPath", laid_paddock_api_ErrPath), ("paddock/api.ErrGoal", laid_paddock_api_ErrGoal)], narrowed := true }
def JumpSearchesUptoSaid : Prop := jumpSearchesUptoRow.holds Tryd.pinned (OpenSpec.upto jumpSearchesSpec)

/-- 'paddocklaw18.JumpTurns', WHERE WHAT IT READS IS OF BULK AT MOST 1048576: true; the input reads as it did. -/
def jumpTurnsUptoRow : OpenClaim := { program := "ytdihnjhbopogoaadoor", sum := "55cacf357318a70df45ce6ab8162518441bedb6bf2ad720c34110fde7d1c5173", func := "paddock/paddocklaw18.JumpTurns", spec := "jumpTurns", inPlace := ["internal/reflectlite.TypeOf"], unfollowed := true, recurses := true, named := ["paddock/api.ErrForm", "paddock/api.ErrRange", "paddock/api.ErrPath", "paddock/api.ErrFull", "paddock/api.ErrNone", "paddock/api.ErrBlocked", "paddock/api.ErrExists", "paddock/api.ErrKind", "paddock/api.ErrState", "paddock/api.ErrGoal"], apart := false, laid := [("paddock/api.ErrRange", laid_paddock_api_ErrRange), ("paddock/api.ErrFull", laid_paddock_api_ErrFull), ("paddock/api.ErrNone", laid_paddock_api_ErrNone), ("paddock/api.ErrExists", laid_paddock_api_ErrExists), ("paddock/api.ErrKind", laid_paddock_api_ErrKind), ("paddock/api.ErrState", laid_paddock_api_ErrState), ("paddock/api.ErrForm", laid_paddock_api_ErrForm), ("paddock/api.ErrBlocked", laid_paddock_api_ErrBlocked), ("paddock/api.ErrPath", laid_paddock_api_ErrPath), ("paddock/api.ErrGoal", laid_paddock_api_ErrGoal)], narrowed := true }
def JumpTurnsUptoSaid : Prop := jumpTurnsUptoRow.holds Tryd.pinned (OpenSpec.upto jumpTurnsSpec)

/-- 'paddocklaw18.JumpRoutes', WHERE WHAT IT READS IS OF BULK AT MOST 1048576: true; the input reads as it did. -/
def jumpRoutesUptoRow : OpenClaim := { program := "ytdihnjhbopogoaadoor", sum := "55cacf357318a70df45ce6ab8162518441bedb6bf2ad720c34110fde7d1c5173", func := "paddock/paddocklaw18.JumpRoutes", spec := "jumpRoutes", inPlace := ["internal/reflectlite.TypeOf"], unfollowed := true, recurses := true, named := ["paddock/api.ErrForm", "paddock/api.ErrRange", "paddock/api.ErrPath", "paddock/api.ErrFull", "paddock/api.ErrNone", "paddock/api.ErrGoal", "paddock/api.ErrExists", "paddock/api.ErrKind", "paddock/api.ErrState", "paddock/api.ErrBlocked"], apart := false, laid := [("paddock/api.ErrRange", laid_paddock_api_ErrRange), ("paddock/api.ErrFull", laid_paddock_api_ErrFull), ("paddock/api.ErrNone", laid_paddock_api_ErrNone), ("paddock/api.ErrExists", laid_paddock_api_ErrExists), ("paddock/api.ErrKind", laid_paddock_api_ErrKind), ("paddock/api.ErrState", laid_paddock_api_ErrState), ("paddock/api.ErrForm", laid_paddock_api_ErrForm), ("paddock/api.ErrBlocked", laid_paddock_api_ErrBlocked), ("paddock/api.ErrPath", laid_paddock_api_ErrPath), ("paddock/api.ErrGoal", laid_paddock_api_ErrGoal)], narrowed := true }
def JumpRoutesUptoSaid : Prop := jumpRoutesUptoRow.holds Tryd.pinned (OpenSpec.upto jumpRoutesSpec)

end Rows
end Go.Proofs.YtdihnjhbopogoaaDoor
