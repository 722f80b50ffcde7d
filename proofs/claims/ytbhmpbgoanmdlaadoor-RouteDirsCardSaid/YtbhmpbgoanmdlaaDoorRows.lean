/-
  NARROWER THAN 'FOR EVERY INPUT', by the rows' own cells (each row's printed sentence says how): RouteTurned: laid · RouteFreed: laid · RouteParts: laid · RouteFollows: laid · RouteFinds: laid · RouteLeast: laid · RouteDirs: laid.
  DERIVED. THE GIVEN ROWS OF THIS SEAT. 7 by the template 'for every input the law returns true; each argument reads behind the call as it read before'; 0 by the template 'total and deterministic' (their statements: YtbhmpbgoanmdlaaDoorTotals.lean).
  GIVEN WITH THE SEED: the statements are not yours to turn. If you find one false, say at which input.
  Laid BY PROGRAM, IN A SANDBOX (cutbox-rows.mjs): the forced cells as the released guide's own fill.sh prints them over the translation 45b97a002a3b3ccb… (all of the seat's roots in one cut). By AI agents, Wed Nov 11 2026. No macro, syntax, notation, axiom, sorry.
-/
import Derived.Test.YtbhmpbgoanmdlaaDoorChecked
import GoSem.Claim
import GoSem.ClaimJoined
import GoSem.ClaimMapViews
import Derived.JoinedTies
import Derived.KernelRfl
namespace Go.Proofs.YtbhmpbgoanmdlaaDoor
/- THE CELL 'sum', in the pinned program and in every row, IS THE sha256 OF THE DUMP (.gsa) THAT YtbhmpbgoanmdlaaDoorProg.lean LOADS. Nothing in Lean hashes anything: it is a label: what it is worth is what the hold of that sum in a sandbox is worth. -/
noncomputable def Tryd.pinned : Pinned := { name := "ytbhmpbgoanmdlaadoor", sum := "45b97a002a3b3ccb8cde23910746bc2f54ec6474d61895c6604448cced2145a8", checked := Tryd.checked }
namespace Rows
def none {H : Type} : Left H := { results := [], args := [] }

/- WHAT THE LISTED PACKAGE-LEVEL VARIABLES READ AS WHEN THE CALL BEGINS. Each datum BY PROGRAM (the guide's laid-datum.mjs) off the statement by which the dump's own 'gosem.cut.vars' lays the variable. In a bare row this is a premise. The card (YtbhmpbgoanmdlaaDoorCards.lean) ties it to the program's text. -/
def laid_paddock_api_ErrRange {H : Type} : DataW H := .iface "*errors.errorString" (.ptr (.agg [.lit (.string [112, 97, 100, 100, 111, 99, 107, 58, 32, 114, 97, 110, 103, 101])]))
def laid_paddock_api_ErrFull {H : Type} : DataW H := .iface "*errors.errorString" (.ptr (.agg [.lit (.string [112, 97, 100, 100, 111, 99, 107, 58, 32, 102, 117, 108, 108])]))
def laid_paddock_api_ErrNone {H : Type} : DataW H := .iface "*errors.errorString" (.ptr (.agg [.lit (.string [112, 97, 100, 100, 111, 99, 107, 58, 32, 110, 111, 110, 101])]))
def laid_paddock_api_ErrForm {H : Type} : DataW H := .iface "*errors.errorString" (.ptr (.agg [.lit (.string [112, 97, 100, 100, 111, 99, 107, 58, 32, 102, 111, 114, 109])]))
def laid_paddock_api_ErrPath {H : Type} : DataW H := .iface "*errors.errorString" (.ptr (.agg [.lit (.string [112, 97, 100, 100, 111, 99, 107, 58, 32, 112, 97, 116, 104])]))
def laid_paddock_api_ErrGoal {H : Type} : DataW H := .iface "*errors.errorString" (.ptr (.agg [.lit (.string [112, 97, 100, 100, 111, 99, 107, 58, 32, 103, 111, 97, 108])]))
def laid_paddock_api_ErrBlocked {H : Type} : DataW H := .iface "*errors.errorString" (.ptr (.agg [.lit (.string [112, 97, 100, 100, 111, 99, 107, 58, 32, 98, 108, 111, 99, 107, 101, 100])]))
def laid_paddock_api_ErrExists {H : Type} : DataW H := .iface "*errors.errorString" (.ptr (.agg [.lit (.string [112, 97, 100, 100, 111, 99, 107, 58, 32, 101, 120, 105, 115, 116, 115])]))
def laid_paddock_api_ErrKind {H : Type} : DataW H := .iface "*errors.errorString" (.ptr (.agg [.lit (.string [112, 97, 100, 100, 111, 99, 107, 58, 32, 107, 105, 110, 100])]))
def laid_paddock_api_ErrState {H : Type} : DataW H := .iface "*errors.errorString" (.ptr (.agg [.lit (.string [112, 97, 100, 100, 111, 99, 107, 58, 32, 115, 116, 97, 116, 101])]))

/-- 'paddocklaw17.RouteTurned': WHATEVER THE INPUT: true; the input reads as it did. -/
def routeTurnedSpec : ChangeSpec := { name := "routeTurned", fn := fun _ => fun
  | [d] => { results := [.lit (.bool true)], args := [d] }
  | _ => none }
def routeTurnedRow : OpenClaim := { program := "ytbhmpbgoanmdlaadoor", sum := "45b97a002a3b3ccb8cde23910746bc2f54ec6474d61895c6604448cced2145a8", func := "paddock/paddocklaw17.RouteTurned", spec := "routeTurned", named := ["paddock/api.ErrForm", "paddock/api.ErrRange", "paddock/api.ErrGoal", "paddock/api.ErrFull", "paddock/api.ErrNone", "paddock/api.ErrPath"], apart := false, laid := [("paddock/api.ErrRange", laid_paddock_api_ErrRange), ("paddock/api.ErrFull", laid_paddock_api_ErrFull), ("paddock/api.ErrNone", laid_paddock_api_ErrNone), ("paddock/api.ErrForm", laid_paddock_api_ErrForm), ("paddock/api.ErrPath", laid_paddock_api_ErrPath), ("paddock/api.ErrGoal", laid_paddock_api_ErrGoal)] }
def RouteTurnedSaid : Prop := routeTurnedRow.holds Tryd.pinned (OpenSpec.ofChange routeTurnedSpec)

/-- ITS FALSE NEIGHBOUR: 'it returns false'. Refute it at one input. -/
def routeTurnedWrong : ChangeSpec := { name := "routeTurned", fn := fun _ => fun
  | [d] => { results := [.lit (.bool false)], args := [d] }
  | _ => none }
def RouteTurnedWrongFalsely : Prop := routeTurnedRow.holds Tryd.pinned (OpenSpec.ofChange routeTurnedWrong)

/-- 'paddocklaw17.RouteFreed': WHATEVER THE INPUT: true; the input reads as it did. -/
def routeFreedSpec : ChangeSpec := { name := "routeFreed", fn := fun _ => fun
  | [d1, d2] => { results := [.lit (.bool true)], args := [d1, d2] }
  | _ => none }
def routeFreedRow : OpenClaim := { program := "ytbhmpbgoanmdlaadoor", sum := "45b97a002a3b3ccb8cde23910746bc2f54ec6474d61895c6604448cced2145a8", func := "paddock/paddocklaw17.RouteFreed", spec := "routeFreed", named := ["paddock/api.ErrForm", "paddock/api.ErrRange", "paddock/api.ErrGoal", "paddock/api.ErrFull", "paddock/api.ErrNone", "paddock/api.ErrPath"], apart := false, laid := [("paddock/api.ErrRange", laid_paddock_api_ErrRange), ("paddock/api.ErrFull", laid_paddock_api_ErrFull), ("paddock/api.ErrNone", laid_paddock_api_ErrNone), ("paddock/api.ErrForm", laid_paddock_api_ErrForm), ("paddock/api.ErrPath", laid_paddock_api_ErrPath), ("paddock/api.ErrGoal", laid_paddock_api_ErrGoal)] }
def RouteFreedSaid : Prop := routeFreedRow.holds Tryd.pinned (OpenSpec.ofChange routeFreedSpec)

/-- ITS FALSE NEIGHBOUR: 'it returns false'. Refute it at one input. -/
def routeFreedWrong : ChangeSpec := { name := "routeFreed", fn := fun _ => fun
  | [d1, d2] => { results := [.lit (.bool false)], args := [d1, d2] }
  | _ => none }
def RouteFreedWrongFalsely : Prop := routeFreedRow.holds Tryd.pinned (OpenSpec.ofChange routeFreedWrong)

/-- 'paddocklaw17.RouteParts': WHATEVER THE INPUT: true; the input reads as it did. -/
def routePartsSpec : ChangeSpec := { name := "routeParts", fn := fun _ => fun
  | [d] => { results := [.lit (.bool true)], args := [d] }
  | _ => none }
def routePartsRow : OpenClaim := { program := "ytbhmpbgoanmdlaadoor", sum := "45b97a002a3b3ccb8cde23910746bc2f54ec6474d61895c6604448cced2145a8", func := "paddock/paddocklaw17.RouteParts", spec := "routeParts", unfollowed := true, recurses := true, named := ["paddock/api.ErrForm", "paddock/api.ErrRange", "paddock/api.ErrGoal", "paddock/api.ErrFull", "paddock/api.ErrNone", "paddock/api.ErrPath", "paddock/api.ErrBlocked"], apart := false, laid := [("paddock/api.ErrRange", laid_paddock_api_ErrRange), ("paddock/api.ErrFull", laid_paddock_api_ErrFull), ("paddock/api.ErrNone", laid_paddock_api_ErrNone), ("paddock/api.ErrForm", laid_paddock_api_ErrForm), ("paddock/api.ErrBlocked", laid_paddock_api_ErrBlocked), ("paddock/api.ErrPath", laid_paddock_api_ErrPath), ("paddock/api.ErrGoal", laid_paddock_api_ErrGoal)] }
def RoutePartsSaid : Prop := routePartsRow.holds Tryd.pinned (OpenSpec.ofChange routePartsSpec)

/-- ITS FALSE NEIGHBOUR: 'it returns false'. Refute it at one input. -/
def routePartsWrong : ChangeSpec := { name := "routeParts", fn := fun _ => fun
  | [d] => { results := [.lit (.bool false)], args := [d] }
  | _ => none }
def RoutePartsWrongFalsely : Prop := routePartsRow.holds Tryd.pinned (OpenSpec.ofChange routePartsWrong)

/-- 'paddocklaw17.RouteFollows': WHATEVER THE INPUT: true; the input reads as it did. -/
def routeFollowsSpec : ChangeSpec := { name := "routeFollows", fn := fun _ => fun
  | [d1, d2] => { results := [.lit (.bool true)], args := [d1, d2] }
  | _ => none }
def routeFollowsRow : OpenClaim := { program := "ytbhmpbgoanmdlaadoor", sum := "45b97a002a3b3ccb8cde23910746bc2f54ec6474d61895c6604448cced2145a8", func := "paddock/paddocklaw17.RouteFollows", spec := "routeFollows", inPlace := ["internal/reflectlite.TypeOf"], unfollowed := true, recurses := true, named := ["paddock/api.ErrForm", "paddock/api.ErrRange", "paddock/api.ErrGoal", "paddock/api.ErrFull", "paddock/api.ErrNone", "paddock/api.ErrPath", "paddock/api.ErrExists", "paddock/api.ErrKind", "paddock/api.ErrState", "paddock/api.ErrBlocked"], apart := false, laid := [("paddock/api.ErrRange", laid_paddock_api_ErrRange), ("paddock/api.ErrFull", laid_paddock_api_ErrFull), ("paddock/api.ErrNone", laid_paddock_api_ErrNone), ("paddock/api.ErrExists", laid_paddock_api_ErrExists), ("paddock/api.ErrKind", laid_paddock_api_ErrKind), ("paddock/api.ErrState", laid_paddock_api_ErrState), ("paddock/api.ErrForm", laid_paddock_api_ErrForm), ("paddock/api.ErrBlocked", laid_paddock_api_ErrBlocked), ("paddock/api.ErrPath", laid_paddock_api_ErrPath), ("paddock/api.ErrGoal", laid_paddock_api_ErrGoal)] }
def RouteFollowsSaid : Prop := routeFollowsRow.holds Tryd.pinned (OpenSpec.ofChange routeFollowsSpec)

/-- ITS FALSE NEIGHBOUR: 'it returns false'. Refute it at one input. -/
def routeFollowsWrong : ChangeSpec := { name := "routeFollows", fn := fun _ => fun
  | [d1, d2] => { results := [.lit (.bool false)], args := [d1, d2] }
  | _ => none }
def RouteFollowsWrongFalsely : Prop := routeFollowsRow.holds Tryd.pinned (OpenSpec.ofChange routeFollowsWrong)

/-- 'paddocklaw17.RouteFinds': WHATEVER THE INPUT: true; the input reads as it did. -/
def routeFindsSpec : ChangeSpec := { name := "routeFinds", fn := fun _ => fun
  | [d] => { results := [.lit (.bool true)], args := [d] }
  | _ => none }
def routeFindsRow : OpenClaim := { program := "ytbhmpbgoanmdlaadoor", sum := "45b97a002a3b3ccb8cde23910746bc2f54ec6474d61895c6604448cced2145a8", func := "paddock/paddocklaw17.RouteFinds", spec := "routeFinds", inPlace := ["internal/reflectlite.TypeOf"], unfollowed := true, recurses := true, named := ["paddock/api.ErrForm", "paddock/api.ErrRange", "paddock/api.ErrGoal", "paddock/api.ErrFull", "paddock/api.ErrNone", "paddock/api.ErrPath", "paddock/api.ErrExists", "paddock/api.ErrKind", "paddock/api.ErrState", "paddock/api.ErrBlocked"], apart := false, laid := [("paddock/api.ErrRange", laid_paddock_api_ErrRange), ("paddock/api.ErrFull", laid_paddock_api_ErrFull), ("paddock/api.ErrNone", laid_paddock_api_ErrNone), ("paddock/api.ErrExists", laid_paddock_api_ErrExists), ("paddock/api.ErrKind", laid_paddock_api_ErrKind), ("paddock/api.ErrState", laid_paddock_api_ErrState), ("paddock/api.ErrForm", laid_paddock_api_ErrForm), ("paddock/api.ErrBlocked", laid_paddock_api_ErrBlocked), ("paddock/api.ErrPath", laid_paddock_api_ErrPath), ("paddock/api.ErrGoal", laid_paddock_api_ErrGoal)] }
def RouteFindsSaid : Prop := routeFindsRow.holds Tryd.pinned (OpenSpec.ofChange routeFindsSpec)

/-- ITS FALSE NEIGHBOUR: 'it returns false'. Refute it at one input. -/
def routeFindsWrong : ChangeSpec := { name := "routeFinds", fn := fun _ => fun
  | [d] => { results := [.lit (.bool false)], args := [d] }
  | _ => none }
def RouteFindsWrongFalsely : Prop := routeFindsRow.holds Tryd.pinned (OpenSpec.ofChange routeFindsWrong)

/-- 'paddocklaw17.RouteLeast': WHATEVER THE INPUT: true; the input reads as it did. -/
def routeLeastSpec : ChangeSpec := { name := "routeLeast", fn := fun _ => fun
  | [d] => { results := [.lit (.bool true)], args := [d] }
  | _ => none }
def routeLeastRow : OpenClaim := { program := "ytbhmpbgoanmdlaadoor", sum := "45b97a002a3b3ccb8cde23910746bc2f54ec6474d61895c6604448cced2145a8", func := "paddock/paddocklaw17.RouteLeast", spec := "routeLeast", unfollowed := true, recurses := true, named := ["paddock/api.ErrForm", "paddock/api.ErrRange", "paddock/api.ErrGoal", "paddock/api.ErrFull", "paddock/api.ErrNone", "paddock/api.ErrPath", "paddock/api.ErrBlocked"], apart := false, laid := [("paddock/api.ErrRange", laid_paddock_api_ErrRange), ("paddock/api.ErrFull", laid_paddock_api_ErrFull), ("paddock/api.ErrNone", laid_paddock_api_ErrNone), ("paddock/api.ErrForm", laid_paddock_api_ErrForm), ("paddock/api.ErrBlocked", laid_paddock_api_ErrBlocked), ("paddock/api.ErrPath", laid_paddock_api_ErrPath), ("paddock/api.ErrGoal", laid_paddock_api_ErrGoal)] }
def RouteLeastSaid : Prop := routeLeastRow.holds Tryd.pinned (OpenSpec.ofChange routeLeastSpec)

/-- ITS FALSE NEIGHBOUR: 'it returns false'. Refute it at one input. -/
def routeLeastWrong : ChangeSpec := { name := "routeLeast", fn := fun _ => fun
  | [d] => { results := [.lit (.bool false)], args := [d] }
  | _ => none }
def RouteLeastWrongFalsely : Prop := routeLeastRow.holds Tryd.pinned (OpenSpec.ofChange routeLeastWrong)

/-- 'paddocklaw17.RouteDirs': WHATEVER THE INPUT: true; the input reads as it did. -/
def routeDirsSpec : ChangeSpec := { name := "routeDirs", fn := fun _ => fun
  | [d1, d2] => { results := [.lit (.bool true)], args := [d1, d2] }
  | _ => none }
def routeDirsRow : OpenClaim := { program := "ytbhmpbgoanmdlaadoor", sum := "45b97a002a3b3ccb8cde23910746bc2f54ec6474d61895c6604448cced2145a8", func := "paddock/paddocklaw17.RouteDirs", spec := "routeDirs", inPlace := ["internal/reflectlite.TypeOf"], unfollowed := true, recurses := true, named := ["paddock/api.ErrForm", "paddock/api.ErrRange", "paddock/api.ErrGoal", "paddock/api.ErrFull", "paddock/api.ErrNone", "paddock/api.ErrPath", "paddock/api.ErrExists", "paddock/api.ErrKind", "paddock/api.ErrState", "paddock/api.ErrBlocked"], apart := false, laid := [("paddock/api.ErrRange", laid_paddock_api_ErrRange), ("paddock/api.ErrFull", laid_paddock_api_ErrFull), ("paddock/api.ErrNone", laid_paddock_api_ErrNone), ("paddock/api.ErrExists", laid_paddock_api_ErrExists), ("paddock/api.ErrKind", laid_paddock_api_ErrKind), ("paddock/api.ErrState", laid_paddock_api_ErrState), ("paddock/api.ErrForm", laid_paddock_api_ErrForm), ("paddock/api.ErrBlocked", laid_paddock_api_ErrBlocked), ("paddock/api.ErrPath", laid_paddock_api_ErrPath), ("paddock/api.ErrGoal", laid_paddock_api_ErrGoal)] }
def RouteDirsSaid : Prop := routeDirsRow.holds Tryd.pinned (OpenSpec.ofChange routeDirsSpec)

/-- ITS FALSE NEIGHBOUR: 'it returns false'. Refute it at one input. -/
def routeDirsWrong : ChangeSpec := { name := "routeDirs", fn := fun _ => fun
  | [d1, d2] => { results := [.lit (.bool false)], args := [d1, d2] }
  | _ => none }
def RouteDirsWrongFalsely : Prop := routeDirsRow.holds Tryd.pinned (OpenSpec.ofChange routeDirsWrong)

/- THE SECOND FORM. 'bulk': how many values and letters a reading holds, each counted each time it is reached (what is shared counts as often as it is met; a slice's spare places count too). A statement '..UptoSaid' is the law's where the arguments, and the package variables that the reading takes, are together of bulk at most 1048576: NARROWER than '..Said'. Prove '..Said' where nothing that the law and all that it calls make is longer than what came in: it says more and counts as full. Else prove '..UptoSaid'. A law counts once. -/
mutual
def uptoBulk {H : Type} : DataW H → Nat
  | .lit (.string bytes) => bytes.length + 1
  | .lit _ => 1
  | .nil => 1
  | .ptr d => uptoBulk d + 1
  | .slice elems spare => uptoBulkAll elems + uptoBulkAll spare + 1
  | .agg parts => uptoBulkAll parts + 1
  | .iface _ d => uptoBulk d + 1
  | .map entries => uptoBulkEntries entries + 1
  | .held _ => 1
def uptoBulkAll {H : Type} : List (DataW H) → Nat
  | [] => 0
  | d :: r => uptoBulk d + uptoBulkAll r
def uptoBulkEntries {H : Type} : List (Lit × DataW H) → Nat
  | [] => 0
  | x :: r => uptoBulkEntry x + uptoBulkEntries r
def uptoBulkEntry {H : Type} : Lit × DataW H → Nat
  | (.string bytes, d) => bytes.length + uptoBulk d + 1
  | (_, d) => uptoBulk d + 1
 end
def uptoSmall : (H : Type) → List (DataW H) → Bool := fun _ ds => decide (uptoBulkAll ds ≤ 1048576)
def OpenSpec.upto (s : _root_.Go.ChangeSpec) : _root_.Go.OpenSpec := { _root_.Go.OpenSpec.ofChange s with cond := some uptoSmall }

/-- 'paddocklaw17.RouteTurned', WHERE WHAT IT READS IS OF BULK AT MOST 1048576: true; the input reads as it did. -/
def routeTurnedUptoRow : OpenClaim := { program := "ytbhmpbgoanmdlaadoor", sum := "45b97a002a3b3ccb8cde23910746bc2f54ec6474d61895c6604448cced2145a8", func := "paddock/paddocklaw17.RouteTurned", spec := "routeTurned", named := ["paddock/api.ErrForm", "paddock/api.ErrRange", "paddock/api.ErrGoal", "paddock/api.ErrFull", "paddock/api.ErrNone", "paddock/api.ErrPath"], apart := false, laid := [("paddock/api.ErrRange", laid_paddock_api_ErrRange), ("paddock/api.ErrFull", laid_paddock_api_ErrFull), ("paddock/api.ErrNone", laid_paddock_api_ErrNone), ("paddock/api.ErrForm", laid_paddock_api_ErrForm), ("paddock/api.ErrPath", laid_paddock_api_ErrPath), ("paddock/api.ErrGoal", laid_paddock_api_ErrGoal)], narrowed := true }
def RouteTurnedUptoSaid : Prop := routeTurnedUptoRow.holds Tryd.pinned (OpenSpec.upto routeTurnedSpec)

/-- 'paddocklaw17.RouteFreed', WHERE WHAT IT READS IS OF BULK AT MOST 1048576: true; the input reads as it did. -/
def routeFreedUptoRow : OpenClaim := { program := "ytbhmpbgoanmdlaadoor", sum := "45b97a002a3b3ccb8cde23910746bc2f54ec6474d61895c6604448cced2145a8", func := "paddock/paddocklaw17.RouteFreed", spec := "routeFreed", named := ["paddock/api.ErrForm", "paddock/api.ErrRange", "paddock/api.ErrGoal", "paddock/api.ErrFull", "paddock/api.ErrNone", "paddock/api.ErrPath"], apart := false, laid := [("paddock/api.ErrRange", laid_paddock_api_ErrRange), ("paddock/api.ErrFull", laid_paddock_api_ErrFull), ("paddock/api.ErrNone", laid_paddock_api_ErrNone), ("paddock/api.ErrForm", laid_paddock_api_ErrForm), ("paddock/api.ErrPath", laid_paddock_api_ErrPath), ("paddock/api.ErrGoal", laid_paddock_api_ErrGoal)], narrowed := true }
def RouteFreedUptoSaid : Prop := routeFreedUptoRow.holds Tryd.pinned (OpenSpec.upto routeFreedSpec)

/-- 'paddocklaw17.RouteParts', WHERE WHAT IT READS IS OF BULK AT MOST 1048576: true; the input reads as it did. -/
def routePartsUptoRow : OpenClaim := { program := "ytbhmpbgoanmdlaadoor", sum := "45b97a002a3b3ccb8cde23910746bc2f54ec6474d61895c6604448cced2145a8", func := "paddock/paddocklaw17.RouteParts", spec := "routeParts", unfollowed := true, recurses := true, named := ["paddock/api.ErrForm", "paddock/api.ErrRange", "paddock/api.ErrGoal", "paddock/api.ErrFull", "paddock/api.ErrNone", "paddock/api.ErrPath", "paddock/api.ErrBlocked"], apart := false, laid := [("paddock/api.ErrRange", laid_paddock_api_ErrRange), ("paddock/api.ErrFull", laid_paddock_api_ErrFull), ("paddock/api.ErrNone", laid_paddock_api_ErrNone), ("paddock/api.ErrForm", laid_paddock_api_ErrForm), ("paddock/api.ErrBlocked", laid_paddock_api_ErrBlocked), ("paddock/api.ErrPath", laid_paddock_api_ErrPath), ("paddock/api.ErrGoal", laid_paddock_api_ErrGoal)], narrowed := true }
def RoutePartsUptoSaid : Prop := routePartsUptoRow.holds Tryd.pinned (OpenSpec.upto routePartsSpec)

/-- 'paddocklaw17.RouteFollows', WHERE WHAT IT READS IS OF BULK AT MOST 1048576: true; the input reads as it did. -/
def routeFollowsUptoRow : OpenClaim := { program := "ytbhmpbgoanmdlaadoor", sum := "45b97a002a3b3ccb8cde23910746bc2f54ec6474d61895c6604448cced2145a8", func := "paddock/paddocklaw17.RouteFollows", spec := "routeFollows", inPlace := ["internal/reflectlite.TypeOf"], unfollowed := true, recurses := true, named := ["paddock/api.ErrForm", "paddock/api.ErrRange", "paddock/api.ErrGoal", "paddock/api.ErrFull", "paddock/api.ErrNone", "paddock/api.ErrPath", "paddock/api.ErrExists", "paddock/api.ErrKind", "paddock/api.ErrState", "paddock/api.ErrBlocked"], apart := false, laid := [("paddock/api.ErrRange", laid_paddock_api_ErrRange), ("paddock/api.ErrFull", laid_paddock_api_ErrFull), ("paddock/api.ErrNone", laid_paddock_api_ErrNone), ("paddock/api.ErrExists", laid_paddock_api_ErrExists), ("paddock/api.ErrKind", laid_paddock_api_ErrKind), ("paddock/api.ErrState", laid_paddock_api_ErrState), ("paddock/api.ErrForm", laid_paddock_api_ErrForm), ("paddock/api.ErrBlocked", laid_paddock_api_ErrBlocked), ("paddock/api.ErrPath", laid_paddock_api_ErrPath), ("paddock/api.ErrGoal", laid_paddock_api_ErrGoal)], narrowed := true }
def RouteFollowsUptoSaid : Prop := routeFollowsUptoRow.holds Tryd.pinned (OpenSpec.upto routeFollowsSpec)

/-- 'paddocklaw17.RouteFinds', WHERE WHAT IT READS IS OF BULK AT MOST 1048576: true; the input reads as it did. -/
def routeFindsUptoRow : OpenClaim := { program := "ytbhmpbgoanmdlaadoor", sum := "45b97a002a3b3ccb8cde23910746bc2f54ec6474d61895c6604448cced2145a8", func := "paddock/paddocklaw17.RouteFinds", spec := "routeFinds", inPlace := ["internal/reflectlite.TypeOf"], unfollowed := true, recurses := true, named := ["paddock/api.ErrForm", "paddock/api.ErrRange", "paddock/api.ErrGoal", "paddock/api.ErrFull", "paddock/api.ErrNone", "paddock/api.ErrPath", "paddock/api.ErrExists", "paddock/api.ErrKind", "paddock/api.ErrState", "paddock/api.ErrBlocked"], apart := false, laid := [("paddock/api.ErrRange", laid_paddock_api_ErrRange), ("paddock/api.ErrFull", laid_paddock_api_ErrFull), ("paddock/api.ErrNone", laid_paddock_api_ErrNone), ("paddock/api.ErrExists", laid_paddock_api_ErrExists), ("paddock/api.ErrKind", laid_paddock_api_ErrKind), ("paddock/api.ErrState", laid_paddock_api_ErrState), ("paddock/api.ErrForm", laid_paddock_api_ErrForm), ("paddock/api.ErrBlocked", laid_paddock_api_ErrBlocked), ("paddock/api.ErrPath", laid_paddock_api_ErrPath), ("paddock/api.ErrGoal", laid_paddock_api_ErrGoal)], narrowed := true }
def RouteFindsUptoSaid : Prop := routeFindsUptoRow.holds Tryd.pinned (OpenSpec.upto routeFindsSpec)

/-- 'paddocklaw17.RouteLeast', WHERE WHAT IT READS IS OF BULK AT MOST 1048576: true; the input reads as it did. -/
def routeLeastUptoRow : OpenClaim := { program := "ytbhmpbgoanmdlaadoor", sum := "45b97a002a3b3ccb8cde23910746bc2f54ec6474d61895c6604448cced2145a8", func := "paddock/paddocklaw17.RouteLeast", spec := "routeLeast", unfollowed := true, recurses := true, named := ["paddock/api.ErrForm", "paddock/api.ErrRange", "paddock/api.ErrGoal", "paddock/api.ErrFull", "paddock/api.ErrNone", "paddock/api.ErrPath", "paddock/api.ErrBlocked"], apart := false, laid := [("paddock/api.ErrRange", laid_paddock_api_ErrRange), ("paddock/api.ErrFull", laid_paddock_api_ErrFull), ("paddock/api.ErrNone", laid_paddock_api_ErrNone), ("paddock/api.ErrForm", laid_paddock_api_ErrForm), ("paddock/api.ErrBlocked", laid_paddock_api_ErrBlocked), ("paddock/api.ErrPath", laid_paddock_api_ErrPath), ("paddock/api.ErrGoal", laid_paddock_api_ErrGoal)], narrowed := true }
def RouteLeastUptoSaid : Prop := routeLeastUptoRow.holds Tryd.pinned (OpenSpec.upto routeLeastSpec)

/-- 'paddocklaw17.RouteDirs', WHERE WHAT IT READS IS OF BULK AT MOST 1048576: true; the input reads as it did. -/
def routeDirsUptoRow : OpenClaim := { program := "ytbhmpbgoanmdlaadoor", sum := "45b97a002a3b3ccb8cde23910746bc2f54ec6474d61895c6604448cced2145a8", func := "paddock/paddocklaw17.RouteDirs", spec := "routeDirs", inPlace := ["internal/reflectlite.TypeOf"], unfollowed := true, recurses := true, named := ["paddock/api.ErrForm", "paddock/api.ErrRange", "paddock/api.ErrGoal", "paddock/api.ErrFull", "paddock/api.ErrNone", "paddock/api.ErrPath", "paddock/api.ErrExists", "paddock/api.ErrKind", "paddock/api.ErrState", "paddock/api.ErrBlocked"], apart := false, laid := [("paddock/api.ErrRange", laid_paddock_api_ErrRange), ("paddock/api.ErrFull", laid_paddock_api_ErrFull), ("paddock/api.ErrNone", laid_paddock_api_ErrNone), ("paddock/api.ErrExists", laid_paddock_api_ErrExists), ("paddock/api.ErrKind", laid_paddock_api_ErrKind), ("paddock/api.ErrState", laid_paddock_api_ErrState), ("paddock/api.ErrForm", laid_paddock_api_ErrForm), ("paddock/api.ErrBlocked", laid_paddock_api_ErrBlocked), ("paddock/api.ErrPath", laid_paddock_api_ErrPath), ("paddock/api.ErrGoal", laid_paddock_api_ErrGoal)], narrowed := true }
def RouteDirsUptoSaid : Prop := routeDirsUptoRow.holds Tryd.pinned (OpenSpec.upto routeDirsSpec)

end Rows
end Go.Proofs.YtbhmpbgoanmdlaaDoor
