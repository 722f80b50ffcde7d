/-
  NARROWER THAN 'FOR EVERY INPUT', by the rows' own cells (each row's printed sentence says how): StepsBack: laid · StepsReturn: laid · StepsFreed: laid · StepsCosts: laid · StepsAround: laid · StepsOf: laid · StepsSets: laid.
  DERIVED. THE GIVEN ROWS OF THIS SEAT. 7 by the template 'for every input the law returns true; each argument reads behind the call as it read before'; 0 by the template 'total and deterministic' (their statements: YtnfobdonmkefdaaDoorTotals.lean).
  GIVEN WITH THE SEED: the statements are not yours to turn. If you find one false, say at which input.
  Laid BY PROGRAM, IN A SANDBOX (cutbox-rows.mjs): the forced cells as the released guide's own fill.sh prints them over the translation 20e0ee7ebf9fbd84… (all of the seat's roots in one cut). By AI agents, Wed Nov 11 2026. No macro, syntax, notation, axiom, sorry.
-/
import Derived.Test.YtnfobdonmkefdaaDoorChecked
import GoSem.Claim
import GoSem.ClaimJoined
import GoSem.ClaimMapViews
import Derived.JoinedTies
import Derived.KernelRfl
namespace Go.Proofs.YtnfobdonmkefdaaDoor
/- THE CELL 'sum', in the pinned program and in every row, IS THE sha256 OF THE DUMP (.gsa) THAT YtnfobdonmkefdaaDoorProg.lean LOADS. Nothing in Lean hashes anything: it is a label: what it is worth is what the hold of that sum in a sandbox is worth. -/
noncomputable def Tryd.pinned : Pinned := { name := "ytnfobdonmkefdaadoor", sum := "20e0ee7ebf9fbd8488388bcfca4f8c390ac41bdb770ac562727083aa80822eae", checked := Tryd.checked }
namespace Rows
def none {H : Type} : Left H := { results := [], args := [] }

/- WHAT THE LISTED PACKAGE-LEVEL VARIABLES READ AS WHEN THE CALL BEGINS. Each datum BY PROGRAM (the guide's laid-datum.mjs) off the statement by which the dump's own 'gosem.cut.vars' lays the variable. In a bare row this is a premise. The card (YtnfobdonmkefdaaDoorCards.lean) ties it to the program's text. -/
def laid_paddock_api_ErrRange {H : Type} : DataW H := .iface "*errors.errorString" (.ptr (.agg [.lit (.string [112, 97, 100, 100, 111, 99, 107, 58, 32, 114, 97, 110, 103, 101])]))
def laid_paddock_api_ErrNone {H : Type} : DataW H := .iface "*errors.errorString" (.ptr (.agg [.lit (.string [112, 97, 100, 100, 111, 99, 107, 58, 32, 110, 111, 110, 101])]))
def laid_paddock_api_ErrForm {H : Type} : DataW H := .iface "*errors.errorString" (.ptr (.agg [.lit (.string [112, 97, 100, 100, 111, 99, 107, 58, 32, 102, 111, 114, 109])]))
def laid_paddock_api_ErrBlocked {H : Type} : DataW H := .iface "*errors.errorString" (.ptr (.agg [.lit (.string [112, 97, 100, 100, 111, 99, 107, 58, 32, 98, 108, 111, 99, 107, 101, 100])]))
def laid_paddock_api_ErrPath {H : Type} : DataW H := .iface "*errors.errorString" (.ptr (.agg [.lit (.string [112, 97, 100, 100, 111, 99, 107, 58, 32, 112, 97, 116, 104])]))
def laid_paddock_api_ErrFull {H : Type} : DataW H := .iface "*errors.errorString" (.ptr (.agg [.lit (.string [112, 97, 100, 100, 111, 99, 107, 58, 32, 102, 117, 108, 108])]))
def laid_paddock_api_ErrExists {H : Type} : DataW H := .iface "*errors.errorString" (.ptr (.agg [.lit (.string [112, 97, 100, 100, 111, 99, 107, 58, 32, 101, 120, 105, 115, 116, 115])]))
def laid_paddock_api_ErrKind {H : Type} : DataW H := .iface "*errors.errorString" (.ptr (.agg [.lit (.string [112, 97, 100, 100, 111, 99, 107, 58, 32, 107, 105, 110, 100])]))
def laid_paddock_api_ErrState {H : Type} : DataW H := .iface "*errors.errorString" (.ptr (.agg [.lit (.string [112, 97, 100, 100, 111, 99, 107, 58, 32, 115, 116, 97, 116, 101])]))
def laid_paddock_api_ErrGoal {H : Type} : DataW H := .iface "*errors.errorString" (.ptr (.agg [.lit (.string [112, 97, 100, 100, 111, 99, 107, 58, 32, 103, 111, 97, 108])]))

/-- 'paddocklaw16.StepsBack': WHATEVER THE INPUT: true; the input reads as it did. -/
def stepsBackSpec : ChangeSpec := { name := "stepsBack", fn := fun _ => fun
  | [d1, d2] => { results := [.lit (.bool true)], args := [d1, d2] }
  | _ => none }
def stepsBackRow : OpenClaim := { program := "ytnfobdonmkefdaadoor", sum := "20e0ee7ebf9fbd8488388bcfca4f8c390ac41bdb770ac562727083aa80822eae", func := "paddock/paddocklaw16.StepsBack", spec := "stepsBack", unfollowed := true, recurses := true, named := ["paddock/api.ErrForm", "paddock/api.ErrRange", "paddock/api.ErrNone", "paddock/api.ErrBlocked", "paddock/api.ErrPath"], apart := false, laid := [("paddock/api.ErrRange", laid_paddock_api_ErrRange), ("paddock/api.ErrNone", laid_paddock_api_ErrNone), ("paddock/api.ErrForm", laid_paddock_api_ErrForm), ("paddock/api.ErrBlocked", laid_paddock_api_ErrBlocked), ("paddock/api.ErrPath", laid_paddock_api_ErrPath)] }
def StepsBackSaid : Prop := stepsBackRow.holds Tryd.pinned (OpenSpec.ofChange stepsBackSpec)

/-- ITS FALSE NEIGHBOUR: 'it returns false'. Refute it at one input. -/
def stepsBackWrong : ChangeSpec := { name := "stepsBack", fn := fun _ => fun
  | [d1, d2] => { results := [.lit (.bool false)], args := [d1, d2] }
  | _ => none }
def StepsBackWrongFalsely : Prop := stepsBackRow.holds Tryd.pinned (OpenSpec.ofChange stepsBackWrong)

/-- 'paddocklaw16.StepsReturn': WHATEVER THE INPUT: true; the input reads as it did. -/
def stepsReturnSpec : ChangeSpec := { name := "stepsReturn", fn := fun _ => fun
  | [d1, d2, d3] => { results := [.lit (.bool true)], args := [d1, d2, d3] }
  | _ => none }
def stepsReturnRow : OpenClaim := { program := "ytnfobdonmkefdaadoor", sum := "20e0ee7ebf9fbd8488388bcfca4f8c390ac41bdb770ac562727083aa80822eae", func := "paddock/paddocklaw16.StepsReturn", spec := "stepsReturn", unfollowed := true, recurses := true, named := ["paddock/api.ErrForm", "paddock/api.ErrRange", "paddock/api.ErrNone", "paddock/api.ErrBlocked", "paddock/api.ErrPath"], apart := false, laid := [("paddock/api.ErrRange", laid_paddock_api_ErrRange), ("paddock/api.ErrNone", laid_paddock_api_ErrNone), ("paddock/api.ErrForm", laid_paddock_api_ErrForm), ("paddock/api.ErrBlocked", laid_paddock_api_ErrBlocked), ("paddock/api.ErrPath", laid_paddock_api_ErrPath)] }
def StepsReturnSaid : Prop := stepsReturnRow.holds Tryd.pinned (OpenSpec.ofChange stepsReturnSpec)

/-- ITS FALSE NEIGHBOUR: 'it returns false'. Refute it at one input. -/
def stepsReturnWrong : ChangeSpec := { name := "stepsReturn", fn := fun _ => fun
  | [d1, d2, d3] => { results := [.lit (.bool false)], args := [d1, d2, d3] }
  | _ => none }
def StepsReturnWrongFalsely : Prop := stepsReturnRow.holds Tryd.pinned (OpenSpec.ofChange stepsReturnWrong)

/-- 'paddocklaw16.StepsFreed': WHATEVER THE INPUT: true; the input reads as it did. -/
def stepsFreedSpec : ChangeSpec := { name := "stepsFreed", fn := fun _ => fun
  | [d1, d2, d3] => { results := [.lit (.bool true)], args := [d1, d2, d3] }
  | _ => none }
def stepsFreedRow : OpenClaim := { program := "ytnfobdonmkefdaadoor", sum := "20e0ee7ebf9fbd8488388bcfca4f8c390ac41bdb770ac562727083aa80822eae", func := "paddock/paddocklaw16.StepsFreed", spec := "stepsFreed", unfollowed := true, recurses := true, named := ["paddock/api.ErrForm", "paddock/api.ErrRange", "paddock/api.ErrNone", "paddock/api.ErrBlocked", "paddock/api.ErrPath"], apart := false, laid := [("paddock/api.ErrRange", laid_paddock_api_ErrRange), ("paddock/api.ErrNone", laid_paddock_api_ErrNone), ("paddock/api.ErrForm", laid_paddock_api_ErrForm), ("paddock/api.ErrBlocked", laid_paddock_api_ErrBlocked), ("paddock/api.ErrPath", laid_paddock_api_ErrPath)] }
def StepsFreedSaid : Prop := stepsFreedRow.holds Tryd.pinned (OpenSpec.ofChange stepsFreedSpec)

/-- ITS FALSE NEIGHBOUR: 'it returns false'. Refute it at one input. -/
def stepsFreedWrong : ChangeSpec := { name := "stepsFreed", fn := fun _ => fun
  | [d1, d2, d3] => { results := [.lit (.bool false)], args := [d1, d2, d3] }
  | _ => none }
def StepsFreedWrongFalsely : Prop := stepsFreedRow.holds Tryd.pinned (OpenSpec.ofChange stepsFreedWrong)

/-- 'paddocklaw16.StepsCosts': WHATEVER THE INPUT: true; the input reads as it did. -/
def stepsCostsSpec : ChangeSpec := { name := "stepsCosts", fn := fun _ => fun
  | [d1, d2, d3] => { results := [.lit (.bool true)], args := [d1, d2, d3] }
  | _ => none }
def stepsCostsRow : OpenClaim := { program := "ytnfobdonmkefdaadoor", sum := "20e0ee7ebf9fbd8488388bcfca4f8c390ac41bdb770ac562727083aa80822eae", func := "paddock/paddocklaw16.StepsCosts", spec := "stepsCosts", inPlace := ["internal/reflectlite.TypeOf"], unfollowed := true, recurses := true, named := ["paddock/api.ErrForm", "paddock/api.ErrRange", "paddock/api.ErrNone", "paddock/api.ErrBlocked", "paddock/api.ErrPath", "paddock/api.ErrFull", "paddock/api.ErrExists", "paddock/api.ErrKind", "paddock/api.ErrState", "paddock/api.ErrGoal"], apart := false, laid := [("paddock/api.ErrRange", laid_paddock_api_ErrRange), ("paddock/api.ErrFull", laid_paddock_api_ErrFull), ("paddock/api.ErrNone", laid_paddock_api_ErrNone), ("paddock/api.ErrExists", laid_paddock_api_ErrExists), ("paddock/api.ErrKind", laid_paddock_api_ErrKind), ("paddock/api.ErrState", laid_paddock_api_ErrState), ("paddock/api.ErrForm", laid_paddock_api_ErrForm), ("paddock/api.ErrBlocked", laid_paddock_api_ErrBlocked), ("paddock/api.ErrPath", laid_paddock_api_ErrPath), ("paddock/api.ErrGoal", laid_paddock_api_ErrGoal)] }
def StepsCostsSaid : Prop := stepsCostsRow.holds Tryd.pinned (OpenSpec.ofChange stepsCostsSpec)

/-- ITS FALSE NEIGHBOUR: 'it returns false'. Refute it at one input. -/
def stepsCostsWrong : ChangeSpec := { name := "stepsCosts", fn := fun _ => fun
  | [d1, d2, d3] => { results := [.lit (.bool false)], args := [d1, d2, d3] }
  | _ => none }
def StepsCostsWrongFalsely : Prop := stepsCostsRow.holds Tryd.pinned (OpenSpec.ofChange stepsCostsWrong)

/-- 'paddocklaw16.StepsAround': WHATEVER THE INPUT: true; the input reads as it did. -/
def stepsAroundSpec : ChangeSpec := { name := "stepsAround", fn := fun _ => fun
  | [d1, d2, d3] => { results := [.lit (.bool true)], args := [d1, d2, d3] }
  | _ => none }
def stepsAroundRow : OpenClaim := { program := "ytnfobdonmkefdaadoor", sum := "20e0ee7ebf9fbd8488388bcfca4f8c390ac41bdb770ac562727083aa80822eae", func := "paddock/paddocklaw16.StepsAround", spec := "stepsAround", inPlace := ["internal/reflectlite.TypeOf"], unfollowed := true, recurses := true, named := ["paddock/api.ErrForm", "paddock/api.ErrRange", "paddock/api.ErrNone", "paddock/api.ErrBlocked", "paddock/api.ErrPath", "paddock/api.ErrFull", "paddock/api.ErrExists", "paddock/api.ErrKind", "paddock/api.ErrState", "paddock/api.ErrGoal"], apart := false, laid := [("paddock/api.ErrRange", laid_paddock_api_ErrRange), ("paddock/api.ErrFull", laid_paddock_api_ErrFull), ("paddock/api.ErrNone", laid_paddock_api_ErrNone), ("paddock/api.ErrExists", laid_paddock_api_ErrExists), ("paddock/api.ErrKind", laid_paddock_api_ErrKind), ("paddock/api.ErrState", laid_paddock_api_ErrState), ("paddock/api.ErrForm", laid_paddock_api_ErrForm), ("paddock/api.ErrBlocked", laid_paddock_api_ErrBlocked), ("paddock/api.ErrPath", laid_paddock_api_ErrPath), ("paddock/api.ErrGoal", laid_paddock_api_ErrGoal)] }
def StepsAroundSaid : Prop := stepsAroundRow.holds Tryd.pinned (OpenSpec.ofChange stepsAroundSpec)

/-- ITS FALSE NEIGHBOUR: 'it returns false'. Refute it at one input. -/
def stepsAroundWrong : ChangeSpec := { name := "stepsAround", fn := fun _ => fun
  | [d1, d2, d3] => { results := [.lit (.bool false)], args := [d1, d2, d3] }
  | _ => none }
def StepsAroundWrongFalsely : Prop := stepsAroundRow.holds Tryd.pinned (OpenSpec.ofChange stepsAroundWrong)

/-- 'paddocklaw16.StepsOf': WHATEVER THE INPUT: true; the input reads as it did. -/
def stepsOfSpec : ChangeSpec := { name := "stepsOf", fn := fun _ => fun
  | [d1, d2, d3] => { results := [.lit (.bool true)], args := [d1, d2, d3] }
  | _ => none }
def stepsOfRow : OpenClaim := { program := "ytnfobdonmkefdaadoor", sum := "20e0ee7ebf9fbd8488388bcfca4f8c390ac41bdb770ac562727083aa80822eae", func := "paddock/paddocklaw16.StepsOf", spec := "stepsOf", inPlace := ["internal/reflectlite.TypeOf"], unfollowed := true, recurses := true, named := ["paddock/api.ErrForm", "paddock/api.ErrRange", "paddock/api.ErrNone", "paddock/api.ErrBlocked", "paddock/api.ErrPath", "paddock/api.ErrFull", "paddock/api.ErrExists", "paddock/api.ErrKind", "paddock/api.ErrState", "paddock/api.ErrGoal"], apart := false, laid := [("paddock/api.ErrRange", laid_paddock_api_ErrRange), ("paddock/api.ErrFull", laid_paddock_api_ErrFull), ("paddock/api.ErrNone", laid_paddock_api_ErrNone), ("paddock/api.ErrExists", laid_paddock_api_ErrExists), ("paddock/api.ErrKind", laid_paddock_api_ErrKind), ("paddock/api.ErrState", laid_paddock_api_ErrState), ("paddock/api.ErrForm", laid_paddock_api_ErrForm), ("paddock/api.ErrBlocked", laid_paddock_api_ErrBlocked), ("paddock/api.ErrPath", laid_paddock_api_ErrPath), ("paddock/api.ErrGoal", laid_paddock_api_ErrGoal)] }
def StepsOfSaid : Prop := stepsOfRow.holds Tryd.pinned (OpenSpec.ofChange stepsOfSpec)

/-- ITS FALSE NEIGHBOUR: 'it returns false'. Refute it at one input. -/
def stepsOfWrong : ChangeSpec := { name := "stepsOf", fn := fun _ => fun
  | [d1, d2, d3] => { results := [.lit (.bool false)], args := [d1, d2, d3] }
  | _ => none }
def StepsOfWrongFalsely : Prop := stepsOfRow.holds Tryd.pinned (OpenSpec.ofChange stepsOfWrong)

/-- 'paddocklaw16.StepsSets': WHATEVER THE INPUT: true; the input reads as it did. -/
def stepsSetsSpec : ChangeSpec := { name := "stepsSets", fn := fun _ => fun
  | [d1, d2, d3] => { results := [.lit (.bool true)], args := [d1, d2, d3] }
  | _ => none }
def stepsSetsRow : OpenClaim := { program := "ytnfobdonmkefdaadoor", sum := "20e0ee7ebf9fbd8488388bcfca4f8c390ac41bdb770ac562727083aa80822eae", func := "paddock/paddocklaw16.StepsSets", spec := "stepsSets", inPlace := ["internal/reflectlite.TypeOf"], unfollowed := true, recurses := true, named := ["paddock/api.ErrForm", "paddock/api.ErrRange", "paddock/api.ErrNone", "paddock/api.ErrBlocked", "paddock/api.ErrPath", "paddock/api.ErrFull", "paddock/api.ErrExists", "paddock/api.ErrKind", "paddock/api.ErrState", "paddock/api.ErrGoal"], apart := false, laid := [("paddock/api.ErrRange", laid_paddock_api_ErrRange), ("paddock/api.ErrFull", laid_paddock_api_ErrFull), ("paddock/api.ErrNone", laid_paddock_api_ErrNone), ("paddock/api.ErrExists", laid_paddock_api_ErrExists), ("paddock/api.ErrKind", laid_paddock_api_ErrKind), ("paddock/api.ErrState", laid_paddock_api_ErrState), ("paddock/api.ErrForm", laid_paddock_api_ErrForm), ("paddock/api.ErrBlocked", laid_paddock_api_ErrBlocked), ("paddock/api.ErrPath", laid_paddock_api_ErrPath), ("paddock/api.ErrGoal", laid_paddock_api_ErrGoal)] }
def StepsSetsSaid : Prop := stepsSetsRow.holds Tryd.pinned (OpenSpec.ofChange stepsSetsSpec)

/-- ITS FALSE NEIGHBOUR: 'it returns false'. Refute it at one input. -/
def stepsSetsWrong : ChangeSpec := { name := "stepsSets", fn := fun _ => fun
  | [d1, d2, d3] => { results := [.lit (.bool false)], args := [d1, d2, d3] }
  | _ => none }
def StepsSetsWrongFalsely : Prop := stepsSetsRow.holds Tryd.pinned (OpenSpec.ofChange stepsSetsWrong)

/- THE SECOND FORM. 'bulk': how many values and letters a reading holds, each counted each time it is reached (what is shared counts as often as it is met; a slice's spare places count too). A statement '..UptoSaid' is the law's where the arguments, and the package variables that the reading takes, are together of bulk at most 1048576: NARROWER than '..Said'. Prove '..Said' where nothing that the law and all that it calls make is longer than what came in: it says more and counts as full. Else prove '..UptoSaid'. A law counts once. -/
mutual
def uptoBulk {H : Type} : DataW H → Nat
  | .lit (.string bytes) => bytes.length + 1
  | .lit _ => 1
  | .nil => 1
  | .ptr d => uptoBulk d + 1
  | .slice elems spare => uptoBulkAll elems + uptoBulkAll spare + 1
  | .agg parts => uptoBulkAll parts + 1
  | .iface _ d => uptoBulk d + 1
  | .map entries => uptoBulkEntries entries + 1
  | .held _ => 1
def uptoBulkAll {H : Type} : List (DataW H) → Nat
  | [] => 0
  | d :: r => uptoBulk d + uptoBulkAll r
def uptoBulkEntries {H : Type} : List (Lit × DataW H) → Nat
  | [] => 0
  | x :: r => uptoBulkEntry x + uptoBulkEntries r
def uptoBulkEntry {H : Type} : Lit × DataW H → Nat
  | (.string bytes, d) => bytes.length + uptoBulk d + 1
  | (_, d) => uptoBulk d + 1
 end
def uptoSmall : (H : Type) → List (DataW H) → Bool := fun _ ds => decide (uptoBulkAll ds ≤ 1048576)
def OpenSpec.upto (s : _root_.Go.ChangeSpec) : _root_.Go.OpenSpec := { _root_.Go.OpenSpec.ofChange s with cond := some uptoSmall }

/-- 'paddocklaw16.StepsBack', WHERE WHAT IT READS IS OF BULK AT MOST 1048576: true; the input reads as it did. -/
def stepsBackUptoRow : OpenClaim := { program := "ytnfobdonmkefdaadoor", sum := "20e0ee7ebf9fbd8488388bcfca4f8c390ac41bdb770ac562727083aa80822eae", func := "paddock/paddocklaw16.StepsBack", spec := "stepsBack", unfollowed := true, recurses := true, named := ["paddock/api.ErrForm", "paddock/api.ErrRange", "paddock/api.ErrNone", "paddock/api.ErrBlocked", "paddock/api.ErrPath"], apart := false, laid := [("paddock/api.ErrRange", laid_paddock_api_ErrRange), ("paddock/api.ErrNone", laid_paddock_api_ErrNone), ("paddock/api.ErrForm", laid_paddock_api_ErrForm), ("paddock/api.ErrBlocked", laid_paddock_api_ErrBlocked), ("paddock/api.ErrPath", laid_paddock_api_ErrPath)], narrowed := true }
def StepsBackUptoSaid : Prop := stepsBackUptoRow.holds Tryd.pinned (OpenSpec.upto stepsBackSpec)

/-- 'paddocklaw16.StepsReturn', WHERE WHAT IT READS IS OF BULK AT MOST 1048576: true; the input reads as it did. -/
def stepsReturnUptoRow : OpenClaim := { program := "ytnfobdonmkefdaadoor", sum := "20e0ee7ebf9fbd8488388bcfca4f8c390ac41bdb770ac562727083aa80822eae", func := "paddock/paddocklaw16.StepsReturn", spec := "stepsReturn", unfollowed := true, recurses := true, named := ["paddock/api.ErrForm", "paddock/api.ErrRange", "paddock/api.ErrNone", "paddock/api.ErrBlocked", "paddock/api.ErrPath"], apart := false, laid := [("paddock/api.ErrRange", laid_paddock_api_ErrRange), ("paddock/api.ErrNone", laid_paddock_api_ErrNone), ("paddock/api.ErrForm", laid_paddock_api_ErrForm), ("paddock/api.ErrBlocked", laid_paddock_api_ErrBlocked), ("paddock/api.ErrPath", laid_paddock_api_ErrPath)], narrowed := true }
def StepsReturnUptoSaid : Prop := stepsReturnUptoRow.holds Tryd.pinned (OpenSpec.upto stepsReturnSpec)

/-- 'paddocklaw16.StepsFreed', WHERE WHAT IT READS IS OF BULK AT MOST 1048576: true; the input reads as it did. -/
def stepsFreedUptoRow : OpenClaim := { program := "ytnfobdonmkefdaadoor", sum := "20e0ee7ebf9fbd8488388bcfca4f8c390ac41bdb770ac562727083aa80822eae", func := "paddock/paddocklaw16.StepsFreed", spec := "stepsFreed", unfollowed := true, recurses := true, named := ["paddock/api.ErrForm", "paddock/api.ErrRange", "paddock/api.ErrNone", "paddock/api.ErrBlocked", "paddock/api.ErrPath"], apart := false, laid := [("paddock/api.ErrRange", laid_paddock_api_ErrRange), ("paddock/api.ErrNone", laid_paddock_api_ErrNone), ("paddock/api.ErrForm", laid_paddock_api_ErrForm), ("paddock/api.ErrBlocked", laid_paddock_api_ErrBlocked), ("paddock/api.ErrPath", laid_paddock_api_ErrPath)], narrowed := true }
def StepsFreedUptoSaid : Prop := stepsFreedUptoRow.holds Tryd.pinned (OpenSpec.upto stepsFreedSpec)

/-- 'paddocklaw16.StepsCosts', WHERE WHAT IT READS IS OF BULK AT MOST 1048576: true; the input reads as it did. -/
def stepsCostsUptoRow : OpenClaim := { program := "ytnfobdonmkefdaadoor", sum := "20e0ee7ebf9fbd8488388bcfca4f8c390ac41bdb770ac562727083aa80822eae", func := "paddock/paddocklaw16.StepsCosts", spec := "stepsCosts", inPlace := ["internal/reflectlite.TypeOf"], unfollowed := true, recurses := true, named := ["paddock/api.ErrForm", "paddock/api.ErrRange", "paddock/api.ErrNone", "paddock/api.ErrBlocked", "paddock/api.ErrPath", "paddock/api.ErrFull", "paddock/api.ErrExists", "paddock/api.ErrKind", "paddock/api.ErrState", "paddock/api.ErrGoal"], apart := false, laid := [("paddock/api.ErrRange", laid_paddock_api_ErrRange), ("paddock/api.ErrFull", laid_paddock_api_ErrFull), ("paddock/api.ErrNone", laid_paddock_api_ErrNone), ("paddock/api.ErrExists", laid_paddock_api_ErrExists), ("paddock/api.ErrKind", laid_paddock_api_ErrKind), ("paddock/api.ErrState", laid_paddock_api_ErrState), ("paddock/api.ErrForm", laid_paddock_api_ErrForm), ("paddock/api.ErrBlocked", laid_paddock_api_ErrBlocked), ("paddock/api.ErrPath", laid_paddock_api_ErrPath), ("paddock/api.ErrGoal", laid_paddock_api_ErrGoal)], narrowed := true }
def StepsCostsUptoSaid : Prop := stepsCostsUptoRow.holds Tryd.pinned (OpenSpec.upto stepsCostsSpec)

/-- 'paddocklaw16.StepsAround', WHERE WHAT IT READS IS OF BULK AT MOST 1048576: true; the input reads as it did. -/
def stepsAroundUptoRow : OpenClaim := { program := "ytnfobdonmkefdaadoor", sum := "20e0ee7ebf9fbd8488388bcfca4f8c390ac41bdb770ac562727083aa80822eae", func := "paddock/paddocklaw16.StepsAround", spec := "stepsAround", inPlace := ["internal/reflectlite.TypeOf"], unfollowed := true, recurses := true, named := ["paddock/api.ErrForm", "paddock/api.ErrRange", "paddock/api.ErrNone", "paddock/api.ErrBlocked", "paddock/api.ErrPath", "paddock/api.ErrFull", "paddock/api.ErrExists", "paddock/api.ErrKind", "paddock/api.ErrState", "paddock/api.ErrGoal"], apart := false, laid := [("paddock/api.ErrRange", laid_paddock_api_ErrRange), ("paddock/api.ErrFull", laid_paddock_api_ErrFull), ("paddock/api.ErrNone", laid_paddock_api_ErrNone), ("paddock/api.ErrExists", laid_paddock_api_ErrExists), ("paddock/api.ErrKind", laid_paddock_api_ErrKind), ("paddock/api.ErrState", laid_paddock_api_ErrState), ("paddock/api.ErrForm", laid_paddock_api_ErrForm), ("paddock/api.ErrBlocked", laid_paddock_api_ErrBlocked), ("paddock/api.ErrPath", laid_paddock_api_ErrPath), ("paddock/api.ErrGoal", laid_paddock_api_ErrGoal)], narrowed := true }
def StepsAroundUptoSaid : Prop := stepsAroundUptoRow.holds Tryd.pinned (OpenSpec.upto stepsAroundSpec)

/-- 'paddocklaw16.StepsOf', WHERE WHAT IT READS IS OF BULK AT MOST 1048576: true; the input reads as it did. -/
def stepsOfUptoRow : OpenClaim := { program := "ytnfobdonmkefdaadoor", sum := "20e0ee7ebf9fbd8488388bcfca4f8c390ac41bdb770ac562727083aa80822eae", func := "paddock/paddocklaw16.StepsOf", spec := "stepsOf", inPlace := ["internal/reflectlite.TypeOf"], unfollowed := true, recurses := true, named := ["paddock/api.ErrForm", "paddock/api.ErrRange", "paddock/api.ErrNone", "paddock/api.ErrBlocked", "paddock/api.ErrPath", "paddock/api.ErrFull", "paddock/api.ErrExists", "paddock/api.ErrKind", "paddock/api.ErrState", "paddock/api.ErrGoal"], apart := false, laid := [("paddock/api.ErrRange", laid_paddock_api_ErrRange), ("paddock/api.ErrFull", laid_paddock_api_ErrFull), ("paddock/api.ErrNone", laid_paddock_api_ErrNone), ("paddock/api.ErrExists", laid_paddock_api_ErrExists), ("paddock/api.ErrKind", laid_paddock_api_ErrKind), ("paddock/api.ErrState", laid_paddock_api_ErrState), ("paddock/api.ErrForm", laid_paddock_api_ErrForm), ("paddock/api.ErrBlocked", laid_paddock_api_ErrBlocked), ("paddock/api.ErrPath", laid_paddock_api_ErrPath), ("paddock/api.ErrGoal", laid_paddock_api_ErrGoal)], narrowed := true }
def StepsOfUptoSaid : Prop := stepsOfUptoRow.holds Tryd.pinned (OpenSpec.upto stepsOfSpec)

/-- 'paddocklaw16.StepsSets', WHERE WHAT IT READS IS OF BULK AT MOST 1048576: true; the input reads as it did. -/
def stepsSetsUptoRow : OpenClaim := { program := "ytnfobdonmkefdaadoor", sum := "20e0ee7ebf9fbd8488388bcfca4f8c390ac41bdb770ac562727083aa80822eae", func := "paddock/paddocklaw16.StepsSets", spec := "stepsSets", inPlace := ["internal/reflectlite.TypeOf"], unfollowed := true, recurses := true, named := ["paddock/api.ErrForm", "paddock/api.ErrRange", "paddock/api.ErrNone", "paddock/api.ErrBlocked", "paddock/api.ErrPath", "paddock/api.ErrFull", "paddock/api.ErrExists", "paddock/api.ErrKind", "paddock/api.ErrState", "paddock/api.ErrGoal"], apart := false, laid := [("paddock/api.ErrRange", laid_paddock_api_ErrRange), ("paddock/api.ErrFull", laid_paddock_api_ErrFull), ("paddock/api.ErrNone", laid_paddock_api_ErrNone), ("paddock/api.ErrExists", laid_paddock_api_ErrExists), ("paddock/api.ErrKind", laid_paddock_api_ErrKind), ("paddock/api.ErrState", laid_paddock_api_ErrState), ("paddock/api.ErrForm", laid_paddock_api_ErrForm), ("paddock/api.ErrBlocked", laid_paddock_api_ErrBlocked), ("paddock/api.ErrPath", laid_paddock_api_ErrPath), ("paddock/api.ErrGoal", laid_paddock_api_ErrGoal)], narrowed := true }
def StepsSetsUptoSaid : Prop := stepsSetsUptoRow.holds Tryd.pinned (OpenSpec.upto stepsSetsSpec)

end Rows
end Go.Proofs.YtnfobdonmkefdaaDoor
