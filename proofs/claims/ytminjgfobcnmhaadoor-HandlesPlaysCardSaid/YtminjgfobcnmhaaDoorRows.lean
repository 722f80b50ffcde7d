/-
  NARROWER THAN 'FOR EVERY INPUT', by the rows' own cells (each row's printed sentence says how): HeapRises: laid · HeapMixed: laid · HandlesApart: laid · HeapSorts: laid · HeapOrders: laid · HandlesOnce: laid · HandlesLimits: laid · HeapPlays: laid · HandlesBack: laid · HandlesPlays: laid.
  DERIVED. THE GIVEN ROWS OF THIS SEAT. 10 by the template 'for every input the law returns true; each argument reads behind the call as it read before'; 0 by the template 'total and deterministic' (their statements: YtminjgfobcnmhaaDoorTotals.lean).
  GIVEN WITH THE SEED: the statements are not yours to turn. If you find one false, say at which input.
  Laid BY PROGRAM, IN A SANDBOX (cutbox-rows.mjs): the forced cells as the released guide's own fill.sh prints them over the translation 523d177890bd5034… (all of the seat's roots in one cut). By AI agents, Wed Nov 11 2026. No macro, syntax, notation, axiom, sorry.
-/
import Derived.Test.YtminjgfobcnmhaaDoorChecked
import GoSem.Claim
import GoSem.ClaimJoined
import GoSem.ClaimMapViews
import Derived.JoinedTies
import Derived.KernelRfl
namespace Go.Proofs.YtminjgfobcnmhaaDoor
/- THE CELL 'sum', in the pinned program and in every row, IS THE sha256 OF THE DUMP (.gsa) THAT YtminjgfobcnmhaaDoorProg.lean LOADS. Nothing in Lean hashes anything: it is a label: what it is worth is what the hold of that sum in a sandbox is worth. -/
noncomputable def Tryd.pinned : Pinned := { name := "ytminjgfobcnmhaadoor", sum := "523d177890bd503491970581f7675f6696b3a935e37aa2c312c11d49cdc88a7e", checked := Tryd.checked }
namespace Rows
def none {H : Type} : Left H := { results := [], args := [] }

/- WHAT THE LISTED PACKAGE-LEVEL VARIABLES READ AS WHEN THE CALL BEGINS. Each datum BY PROGRAM (the guide's laid-datum.mjs) off the statement by which the dump's own 'gosem.cut.vars' lays the variable. In a bare row this is a premise. The card (YtminjgfobcnmhaaDoorCards.lean) ties it to the program's text. -/
def laid_paddock_api_ErrFull {H : Type} : DataW H := .iface "*errors.errorString" (.ptr (.agg [.lit (.string [112, 97, 100, 100, 111, 99, 107, 58, 32, 102, 117, 108, 108])]))
def laid_paddock_api_ErrNone {H : Type} : DataW H := .iface "*errors.errorString" (.ptr (.agg [.lit (.string [112, 97, 100, 100, 111, 99, 107, 58, 32, 110, 111, 110, 101])]))
def laid_paddock_api_ErrRange {H : Type} : DataW H := .iface "*errors.errorString" (.ptr (.agg [.lit (.string [112, 97, 100, 100, 111, 99, 107, 58, 32, 114, 97, 110, 103, 101])]))
def laid_paddock_api_ErrExists {H : Type} : DataW H := .iface "*errors.errorString" (.ptr (.agg [.lit (.string [112, 97, 100, 100, 111, 99, 107, 58, 32, 101, 120, 105, 115, 116, 115])]))
def laid_paddock_api_ErrKind {H : Type} : DataW H := .iface "*errors.errorString" (.ptr (.agg [.lit (.string [112, 97, 100, 100, 111, 99, 107, 58, 32, 107, 105, 110, 100])]))
def laid_paddock_api_ErrState {H : Type} : DataW H := .iface "*errors.errorString" (.ptr (.agg [.lit (.string [112, 97, 100, 100, 111, 99, 107, 58, 32, 115, 116, 97, 116, 101])]))
def laid_paddock_api_ErrForm {H : Type} : DataW H := .iface "*errors.errorString" (.ptr (.agg [.lit (.string [112, 97, 100, 100, 111, 99, 107, 58, 32, 102, 111, 114, 109])]))
def laid_paddock_api_ErrBlocked {H : Type} : DataW H := .iface "*errors.errorString" (.ptr (.agg [.lit (.string [112, 97, 100, 100, 111, 99, 107, 58, 32, 98, 108, 111, 99, 107, 101, 100])]))
def laid_paddock_api_ErrPath {H : Type} : DataW H := .iface "*errors.errorString" (.ptr (.agg [.lit (.string [112, 97, 100, 100, 111, 99, 107, 58, 32, 112, 97, 116, 104])]))
def laid_paddock_api_ErrGoal {H : Type} : DataW H := .iface "*errors.errorString" (.ptr (.agg [.lit (.string [112, 97, 100, 100, 111, 99, 107, 58, 32, 103, 111, 97, 108])]))

/-- 'paddocklaw10.HeapRises': WHATEVER THE INPUT: true; the input reads as it did. -/
def heapRisesSpec : ChangeSpec := { name := "heapRises", fn := fun _ => fun
  | [d] => { results := [.lit (.bool true)], args := [d] }
  | _ => none }
def heapRisesRow : OpenClaim := { program := "ytminjgfobcnmhaadoor", sum := "523d177890bd503491970581f7675f6696b3a935e37aa2c312c11d49cdc88a7e", func := "paddock/paddocklaw10.HeapRises", spec := "heapRises", named := ["paddock/api.ErrFull", "paddock/api.ErrNone"], plainKeys := false, apart := false, laid := [("paddock/api.ErrFull", laid_paddock_api_ErrFull), ("paddock/api.ErrNone", laid_paddock_api_ErrNone)] }
def HeapRisesSaid : Prop := heapRisesRow.holds Tryd.pinned (OpenSpec.ofChange heapRisesSpec)

/-- ITS FALSE NEIGHBOUR: 'it returns false'. Refute it at one input. -/
def heapRisesWrong : ChangeSpec := { name := "heapRises", fn := fun _ => fun
  | [d] => { results := [.lit (.bool false)], args := [d] }
  | _ => none }
def HeapRisesWrongFalsely : Prop := heapRisesRow.holds Tryd.pinned (OpenSpec.ofChange heapRisesWrong)

/-- 'paddocklaw10.HeapMixed': WHATEVER THE INPUT: true; the input reads as it did. -/
def heapMixedSpec : ChangeSpec := { name := "heapMixed", fn := fun _ => fun
  | [d1, d2] => { results := [.lit (.bool true)], args := [d1, d2] }
  | _ => none }
def heapMixedRow : OpenClaim := { program := "ytminjgfobcnmhaadoor", sum := "523d177890bd503491970581f7675f6696b3a935e37aa2c312c11d49cdc88a7e", func := "paddock/paddocklaw10.HeapMixed", spec := "heapMixed", named := ["paddock/api.ErrFull", "paddock/api.ErrNone"], plainKeys := false, apart := false, laid := [("paddock/api.ErrFull", laid_paddock_api_ErrFull), ("paddock/api.ErrNone", laid_paddock_api_ErrNone)] }
def HeapMixedSaid : Prop := heapMixedRow.holds Tryd.pinned (OpenSpec.ofChange heapMixedSpec)

/-- ITS FALSE NEIGHBOUR: 'it returns false'. Refute it at one input. -/
def heapMixedWrong : ChangeSpec := { name := "heapMixed", fn := fun _ => fun
  | [d1, d2] => { results := [.lit (.bool false)], args := [d1, d2] }
  | _ => none }
def HeapMixedWrongFalsely : Prop := heapMixedRow.holds Tryd.pinned (OpenSpec.ofChange heapMixedWrong)

/-- 'paddocklaw04.HandlesApart': WHATEVER THE INPUT: true; the input reads as it did. -/
def handlesApartSpec : ChangeSpec := { name := "handlesApart", fn := fun _ => fun
  | [d1, d2] => { results := [.lit (.bool true)], args := [d1, d2] }
  | _ => none }
def handlesApartRow : OpenClaim := { program := "ytminjgfobcnmhaadoor", sum := "523d177890bd503491970581f7675f6696b3a935e37aa2c312c11d49cdc88a7e", func := "paddock/paddocklaw04.HandlesApart", spec := "handlesApart", unfollowed := true, recurses := true, named := ["paddock/api.ErrFull", "paddock/api.ErrNone"], plainKeys := false, apart := false, laid := [("paddock/api.ErrFull", laid_paddock_api_ErrFull), ("paddock/api.ErrNone", laid_paddock_api_ErrNone)] }
def HandlesApartSaid : Prop := handlesApartRow.holds Tryd.pinned (OpenSpec.ofChange handlesApartSpec)

/-- ITS FALSE NEIGHBOUR: 'it returns false'. Refute it at one input. -/
def handlesApartWrong : ChangeSpec := { name := "handlesApart", fn := fun _ => fun
  | [d1, d2] => { results := [.lit (.bool false)], args := [d1, d2] }
  | _ => none }
def HandlesApartWrongFalsely : Prop := handlesApartRow.holds Tryd.pinned (OpenSpec.ofChange handlesApartWrong)

/-- 'paddocklaw10.HeapSorts': WHATEVER THE INPUT: true; the input reads as it did. -/
def heapSortsSpec : ChangeSpec := { name := "heapSorts", fn := fun _ => fun
  | [d] => { results := [.lit (.bool true)], args := [d] }
  | _ => none }
def heapSortsRow : OpenClaim := { program := "ytminjgfobcnmhaadoor", sum := "523d177890bd503491970581f7675f6696b3a935e37aa2c312c11d49cdc88a7e", func := "paddock/paddocklaw10.HeapSorts", spec := "heapSorts", named := ["paddock/api.ErrFull", "paddock/api.ErrNone"], plainKeys := false, apart := false, laid := [("paddock/api.ErrFull", laid_paddock_api_ErrFull), ("paddock/api.ErrNone", laid_paddock_api_ErrNone)] }
def HeapSortsSaid : Prop := heapSortsRow.holds Tryd.pinned (OpenSpec.ofChange heapSortsSpec)

/-- ITS FALSE NEIGHBOUR: 'it returns false'. Refute it at one input. -/
def heapSortsWrong : ChangeSpec := { name := "heapSorts", fn := fun _ => fun
  | [d] => { results := [.lit (.bool false)], args := [d] }
  | _ => none }
def HeapSortsWrongFalsely : Prop := heapSortsRow.holds Tryd.pinned (OpenSpec.ofChange heapSortsWrong)

/-- 'paddocklaw10.HeapOrders': WHATEVER THE INPUT: true; the input reads as it did. -/
def heapOrdersSpec : ChangeSpec := { name := "heapOrders", fn := fun _ => fun
  | [d1, d2] => { results := [.lit (.bool true)], args := [d1, d2] }
  | _ => none }
def heapOrdersRow : OpenClaim := { program := "ytminjgfobcnmhaadoor", sum := "523d177890bd503491970581f7675f6696b3a935e37aa2c312c11d49cdc88a7e", func := "paddock/paddocklaw10.HeapOrders", spec := "heapOrders", named := ["paddock/api.ErrFull", "paddock/api.ErrNone"], plainKeys := false, apart := false, laid := [("paddock/api.ErrFull", laid_paddock_api_ErrFull), ("paddock/api.ErrNone", laid_paddock_api_ErrNone)] }
def HeapOrdersSaid : Prop := heapOrdersRow.holds Tryd.pinned (OpenSpec.ofChange heapOrdersSpec)

/-- ITS FALSE NEIGHBOUR: 'it returns false'. Refute it at one input. -/
def heapOrdersWrong : ChangeSpec := { name := "heapOrders", fn := fun _ => fun
  | [d1, d2] => { results := [.lit (.bool false)], args := [d1, d2] }
  | _ => none }
def HeapOrdersWrongFalsely : Prop := heapOrdersRow.holds Tryd.pinned (OpenSpec.ofChange heapOrdersWrong)

/-- 'paddocklaw04.HandlesOnce': WHATEVER THE INPUT: true; the input reads as it did. -/
def handlesOnceSpec : ChangeSpec := { name := "handlesOnce", fn := fun _ => fun
  | [d] => { results := [.lit (.bool true)], args := [d] }
  | _ => none }
def handlesOnceRow : OpenClaim := { program := "ytminjgfobcnmhaadoor", sum := "523d177890bd503491970581f7675f6696b3a935e37aa2c312c11d49cdc88a7e", func := "paddock/paddocklaw04.HandlesOnce", spec := "handlesOnce", inPlace := ["internal/reflectlite.TypeOf"], unfollowed := true, recurses := true, named := ["paddock/api.ErrFull", "paddock/api.ErrNone", "paddock/api.ErrRange", "paddock/api.ErrExists", "paddock/api.ErrKind", "paddock/api.ErrState", "paddock/api.ErrForm", "paddock/api.ErrBlocked", "paddock/api.ErrPath", "paddock/api.ErrGoal"], plainKeys := false, apart := false, laid := [("paddock/api.ErrRange", laid_paddock_api_ErrRange), ("paddock/api.ErrFull", laid_paddock_api_ErrFull), ("paddock/api.ErrNone", laid_paddock_api_ErrNone), ("paddock/api.ErrExists", laid_paddock_api_ErrExists), ("paddock/api.ErrKind", laid_paddock_api_ErrKind), ("paddock/api.ErrState", laid_paddock_api_ErrState), ("paddock/api.ErrForm", laid_paddock_api_ErrForm), ("paddock/api.ErrBlocked", laid_paddock_api_ErrBlocked), ("paddock/api.ErrPath", laid_paddock_api_ErrPath), ("paddock/api.ErrGoal", laid_paddock_api_ErrGoal)] }
def HandlesOnceSaid : Prop := handlesOnceRow.holds Tryd.pinned (OpenSpec.ofChange handlesOnceSpec)

/-- ITS FALSE NEIGHBOUR: 'it returns false'. Refute it at one input. -/
def handlesOnceWrong : ChangeSpec := { name := "handlesOnce", fn := fun _ => fun
  | [d] => { results := [.lit (.bool false)], args := [d] }
  | _ => none }
def HandlesOnceWrongFalsely : Prop := handlesOnceRow.holds Tryd.pinned (OpenSpec.ofChange handlesOnceWrong)

/-- 'paddocklaw04.HandlesLimits': WHATEVER THE INPUT: true; the input reads as it did. -/
def handlesLimitsSpec : ChangeSpec := { name := "handlesLimits", fn := fun _ => fun
  | [d] => { results := [.lit (.bool true)], args := [d] }
  | _ => none }
def handlesLimitsRow : OpenClaim := { program := "ytminjgfobcnmhaadoor", sum := "523d177890bd503491970581f7675f6696b3a935e37aa2c312c11d49cdc88a7e", func := "paddock/paddocklaw04.HandlesLimits", spec := "handlesLimits", inPlace := ["internal/reflectlite.TypeOf"], unfollowed := true, recurses := true, named := ["paddock/api.ErrFull", "paddock/api.ErrNone", "paddock/api.ErrRange", "paddock/api.ErrExists", "paddock/api.ErrKind", "paddock/api.ErrState", "paddock/api.ErrForm", "paddock/api.ErrBlocked", "paddock/api.ErrPath", "paddock/api.ErrGoal"], plainKeys := false, apart := false, laid := [("paddock/api.ErrRange", laid_paddock_api_ErrRange), ("paddock/api.ErrFull", laid_paddock_api_ErrFull), ("paddock/api.ErrNone", laid_paddock_api_ErrNone), ("paddock/api.ErrExists", laid_paddock_api_ErrExists), ("paddock/api.ErrKind", laid_paddock_api_ErrKind), ("paddock/api.ErrState", laid_paddock_api_ErrState), ("paddock/api.ErrForm", laid_paddock_api_ErrForm), ("paddock/api.ErrBlocked", laid_paddock_api_ErrBlocked), ("paddock/api.ErrPath", laid_paddock_api_ErrPath), ("paddock/api.ErrGoal", laid_paddock_api_ErrGoal)] }
def HandlesLimitsSaid : Prop := handlesLimitsRow.holds Tryd.pinned (OpenSpec.ofChange handlesLimitsSpec)

/-- ITS FALSE NEIGHBOUR: 'it returns false'. Refute it at one input. -/
def handlesLimitsWrong : ChangeSpec := { name := "handlesLimits", fn := fun _ => fun
  | [d] => { results := [.lit (.bool false)], args := [d] }
  | _ => none }
def HandlesLimitsWrongFalsely : Prop := handlesLimitsRow.holds Tryd.pinned (OpenSpec.ofChange handlesLimitsWrong)

/-- 'paddocklaw10.HeapPlays': WHATEVER THE INPUT: true; the input reads as it did. -/
def heapPlaysSpec : ChangeSpec := { name := "heapPlays", fn := fun _ => fun
  | [d] => { results := [.lit (.bool true)], args := [d] }
  | _ => none }
def heapPlaysRow : OpenClaim := { program := "ytminjgfobcnmhaadoor", sum := "523d177890bd503491970581f7675f6696b3a935e37aa2c312c11d49cdc88a7e", func := "paddock/paddocklaw10.HeapPlays", spec := "heapPlays", inPlace := ["internal/reflectlite.TypeOf"], unfollowed := true, recurses := true, named := ["paddock/api.ErrFull", "paddock/api.ErrNone", "paddock/api.ErrRange", "paddock/api.ErrExists", "paddock/api.ErrKind", "paddock/api.ErrState", "paddock/api.ErrForm", "paddock/api.ErrBlocked", "paddock/api.ErrPath", "paddock/api.ErrGoal"], plainKeys := false, apart := false, laid := [("paddock/api.ErrRange", laid_paddock_api_ErrRange), ("paddock/api.ErrFull", laid_paddock_api_ErrFull), ("paddock/api.ErrNone", laid_paddock_api_ErrNone), ("paddock/api.ErrExists", laid_paddock_api_ErrExists), ("paddock/api.ErrKind", laid_paddock_api_ErrKind), ("paddock/api.ErrState", laid_paddock_api_ErrState), ("paddock/api.ErrForm", laid_paddock_api_ErrForm), ("paddock/api.ErrBlocked", laid_paddock_api_ErrBlocked), ("paddock/api.ErrPath", laid_paddock_api_ErrPath), ("paddock/api.ErrGoal", laid_paddock_api_ErrGoal)] }
def HeapPlaysSaid : Prop := heapPlaysRow.holds Tryd.pinned (OpenSpec.ofChange heapPlaysSpec)

/-- ITS FALSE NEIGHBOUR: 'it returns false'. Refute it at one input. -/
def heapPlaysWrong : ChangeSpec := { name := "heapPlays", fn := fun _ => fun
  | [d] => { results := [.lit (.bool false)], args := [d] }
  | _ => none }
def HeapPlaysWrongFalsely : Prop := heapPlaysRow.holds Tryd.pinned (OpenSpec.ofChange heapPlaysWrong)

/-- 'paddocklaw04.HandlesBack': WHATEVER THE INPUT: true; the input reads as it did. -/
def handlesBackSpec : ChangeSpec := { name := "handlesBack", fn := fun _ => fun
  | [d1, d2] => { results := [.lit (.bool true)], args := [d1, d2] }
  | _ => none }
def handlesBackRow : OpenClaim := { program := "ytminjgfobcnmhaadoor", sum := "523d177890bd503491970581f7675f6696b3a935e37aa2c312c11d49cdc88a7e", func := "paddock/paddocklaw04.HandlesBack", spec := "handlesBack", inPlace := ["internal/reflectlite.TypeOf"], unfollowed := true, recurses := true, named := ["paddock/api.ErrFull", "paddock/api.ErrNone", "paddock/api.ErrForm", "paddock/api.ErrRange", "paddock/api.ErrExists", "paddock/api.ErrKind", "paddock/api.ErrState", "paddock/api.ErrBlocked", "paddock/api.ErrPath", "paddock/api.ErrGoal"], plainKeys := false, apart := false, laid := [("paddock/api.ErrRange", laid_paddock_api_ErrRange), ("paddock/api.ErrFull", laid_paddock_api_ErrFull), ("paddock/api.ErrNone", laid_paddock_api_ErrNone), ("paddock/api.ErrExists", laid_paddock_api_ErrExists), ("paddock/api.ErrKind", laid_paddock_api_ErrKind), ("paddock/api.ErrState", laid_paddock_api_ErrState), ("paddock/api.ErrForm", laid_paddock_api_ErrForm), ("paddock/api.ErrBlocked", laid_paddock_api_ErrBlocked), ("paddock/api.ErrPath", laid_paddock_api_ErrPath), ("paddock/api.ErrGoal", laid_paddock_api_ErrGoal)] }
def HandlesBackSaid : Prop := handlesBackRow.holds Tryd.pinned (OpenSpec.ofChange handlesBackSpec)

/-- ITS FALSE NEIGHBOUR: 'it returns false'. Refute it at one input. -/
def handlesBackWrong : ChangeSpec := { name := "handlesBack", fn := fun _ => fun
  | [d1, d2] => { results := [.lit (.bool false)], args := [d1, d2] }
  | _ => none }
def HandlesBackWrongFalsely : Prop := handlesBackRow.holds Tryd.pinned (OpenSpec.ofChange handlesBackWrong)

/-- 'paddocklaw04.HandlesPlays': WHATEVER THE INPUT: true; the input reads as it did. -/
def handlesPlaysSpec : ChangeSpec := { name := "handlesPlays", fn := fun _ => fun
  | [d1, d2, d3] => { results := [.lit (.bool true)], args := [d1, d2, d3] }
  | _ => none }
def handlesPlaysRow : OpenClaim := { program := "ytminjgfobcnmhaadoor", sum := "523d177890bd503491970581f7675f6696b3a935e37aa2c312c11d49cdc88a7e", func := "paddock/paddocklaw04.HandlesPlays", spec := "handlesPlays", inPlace := ["internal/reflectlite.TypeOf"], unfollowed := true, recurses := true, named := ["paddock/api.ErrFull", "paddock/api.ErrNone", "paddock/api.ErrForm", "paddock/api.ErrRange", "paddock/api.ErrExists", "paddock/api.ErrKind", "paddock/api.ErrState", "paddock/api.ErrBlocked", "paddock/api.ErrPath", "paddock/api.ErrGoal"], plainKeys := false, apart := false, laid := [("paddock/api.ErrRange", laid_paddock_api_ErrRange), ("paddock/api.ErrFull", laid_paddock_api_ErrFull), ("paddock/api.ErrNone", laid_paddock_api_ErrNone), ("paddock/api.ErrExists", laid_paddock_api_ErrExists), ("paddock/api.ErrKind", laid_paddock_api_ErrKind), ("paddock/api.ErrState", laid_paddock_api_ErrState), ("paddock/api.ErrForm", laid_paddock_api_ErrForm), ("paddock/api.ErrBlocked", laid_paddock_api_ErrBlocked), ("paddock/api.ErrPath", laid_paddock_api_ErrPath), ("paddock/api.ErrGoal", laid_paddock_api_ErrGoal)] }
def HandlesPlaysSaid : Prop := handlesPlaysRow.holds Tryd.pinned (OpenSpec.ofChange handlesPlaysSpec)

/-- ITS FALSE NEIGHBOUR: 'it returns false'. Refute it at one input. -/
def handlesPlaysWrong : ChangeSpec := { name := "handlesPlays", fn := fun _ => fun
  | [d1, d2, d3] => { results := [.lit (.bool false)], args := [d1, d2, d3] }
  | _ => none }
def HandlesPlaysWrongFalsely : Prop := handlesPlaysRow.holds Tryd.pinned (OpenSpec.ofChange handlesPlaysWrong)

/- THE SECOND FORM. 'bulk': how many values and letters a reading holds, each counted each time it is reached (what is shared counts as often as it is met; a slice's spare places count too). A statement '..UptoSaid' is the law's where the arguments, and the package variables that the reading takes, are together of bulk at most 1048576: NARROWER than '..Said'. Prove '..Said' where nothing that the law and all that it calls make is longer than what came in: it says more and counts as full. Else prove '..UptoSaid'. A law counts once. -/
mutual
def uptoBulk {H : Type} : DataW H → Nat
  | .lit (.string bytes) => bytes.length + 1
  | .lit _ => 1
  | .nil => 1
  | .ptr d => uptoBulk d + 1
  | .slice elems spare => uptoBulkAll elems + uptoBulkAll spare + 1
  | .agg parts => uptoBulkAll parts + 1
  | .iface _ d => uptoBulk d + 1
  | .map entries => uptoBulkEntries entries + 1
  | .held _ => 1
def uptoBulkAll {H : Type} : List (DataW H) → Nat
  | [] => 0
  | d :: r => uptoBulk d + uptoBulkAll r
def uptoBulkEntries {H : Type} : List (Lit × DataW H) → Nat
  | [] => 0
  | x :: r => uptoBulkEntry x + uptoBulkEntries r
def uptoBulkEntry {H : Type} : Lit × DataW H → Nat
  | (.string bytes, d) => bytes.length + uptoBulk d + 1
  | (_, d) => uptoBulk d + 1
 end
def uptoSmall : (H : Type) → List (DataW H) → Bool := fun _ ds => decide (uptoBulkAll ds ≤ 1048576)
def OpenSpec.upto (s : _root_.Go.ChangeSpec) : _root_.Go.OpenSpec := { _root_.Go.OpenSpec.ofChange s with cond := some uptoSmall }

/-- 'paddocklaw10.HeapRises', WHERE WHAT IT READS IS OF BULK AT MOST 1048576: true; the input reads as it did. -/
def heapRisesUptoRow : OpenClaim := { program := "ytminjgfobcnmhaadoor", sum := "523d177890bd503491970581f7675f6696b3a935e37aa2c312c11d49cdc88a7e", func := "paddock/paddocklaw10.HeapRises", spec := "heapRises", named := ["paddock/api.ErrFull", "paddock/api.ErrNone"], plainKeys := false, apart := false, laid := [("paddock/api.ErrFull", laid_paddock_api_ErrFull), ("paddock/api.ErrNone", laid_paddock_api_ErrNone)], narrowed := true }
def HeapRisesUptoSaid : Prop := heapRisesUptoRow.holds Tryd.pinned (OpenSpec.upto heapRisesSpec)

/-- 'paddocklaw10.HeapMixed', WHERE WHAT IT READS IS OF BULK AT MOST 1048576: true; the input reads as it did. -/
def heapMixedUptoRow : OpenClaim := { program := "ytminjgfobcnmhaadoor", sum := "523d177890bd503491970581f7675f6696b3a935e37aa2c312c11d49cdc88a7e", func := "paddock/paddocklaw10.HeapMixed", spec := "heapMixed", named := ["paddock/api.ErrFull", "paddock/api.ErrNone"], plainKeys := false, apart := false, laid := [("paddock/api.ErrFull", laid_paddock_api_ErrFull), ("paddock/api.ErrNone", laid_paddock_api_ErrNone)], narrowed := true }
def HeapMixedUptoSaid : Prop := heapMixedUptoRow.holds Tryd.pinned (OpenSpec.upto heapMixedSpec)

/-- 'paddocklaw04.HandlesApart', WHERE WHAT IT READS IS OF BULK AT MOST 1048576: true; the input reads as it did. -/
def handlesApartUptoRow : OpenClaim := { program := "ytminjgfobcnmhaadoor", sum := "523d177890bd503491970581f7675f6696b3a935e37aa2c312c11d49cdc88a7e", func := "paddock/paddocklaw04.HandlesApart", spec := "handlesApart", unfollowed := true, recurses := true, named := ["paddock/api.ErrFull", "paddock/api.ErrNone"], plainKeys := false, apart := false, laid := [("paddock/api.ErrFull", laid_paddock_api_ErrFull), ("paddock/api.ErrNone", laid_paddock_api_ErrNone)], narrowed := true }
def HandlesApartUptoSaid : Prop := handlesApartUptoRow.holds Tryd.pinned (OpenSpec.upto handlesApartSpec)

/-- 'paddocklaw10.HeapSorts', WHERE WHAT IT READS IS OF BULK AT MOST 1048576: true; the input reads as it did. -/
def heapSortsUptoRow : OpenClaim := { program := "ytminjgfobcnmhaadoor", sum := "523d177890bd503491970581f7675f6696b3a935e37aa2c312c11d49cdc88a7e", func := "paddock/paddocklaw10.HeapSorts", spec := "heapSorts", named := ["paddock/api.ErrFull", "paddock/api.ErrNone"], plainKeys := false, apart := false, laid := [("paddock/api.ErrFull", laid_paddock_api_ErrFull), ("paddock/api.ErrNone", laid_paddock_api_ErrNone)], narrowed := true }
def HeapSortsUptoSaid : Prop := heapSortsUptoRow.holds Tryd.pinned (OpenSpec.upto heapSortsSpec)

/-- 'paddocklaw10.HeapOrders', WHERE WHAT IT READS IS OF BULK AT MOST 1048576: true; the input reads as it did. -/
def heapOrdersUptoRow : OpenClaim := { program := "ytminjgfobcnmhaadoor", sum := "523d177890bd503491970581f7675f6696b3a935e37aa2c312c11d49cdc88a7e", func := "paddock/paddocklaw10.HeapOrders", spec := "heapOrders", named := ["paddock/api.ErrFull", "paddock/api.ErrNone"], plainKeys := false, apart := false, laid := [("paddock/api.ErrFull", laid_paddock_api_ErrFull), ("paddock/api.ErrNone", laid_paddock_api_ErrNone)], narrowed := true }
def HeapOrdersUptoSaid : Prop := heapOrdersUptoRow.holds Tryd.pinned (OpenSpec.upto heapOrdersSpec)

/-- 'paddocklaw04.HandlesOnce', WHERE WHAT IT READS IS OF BULK AT MOST 1048576: true; the input reads as it did. -/
def handlesOnceUptoRow : OpenClaim := { program := "ytminjgfobcnmhaadoor", sum := "523d177890bd503491970581f7675f6696b3a935e37aa2c312c11d49cdc88a7e", func := "paddock/paddocklaw04.HandlesOnce", spec := "handlesOnce", inPlace := ["internal/reflectlite.TypeOf"], unfollowed := true, recurses := true, named := ["paddock/api.ErrFull", "paddock/api.ErrNone", "paddock/api.ErrRange", "paddock/api.ErrExists", "paddock/api.ErrKind", "paddock/api.ErrState", "paddock/api.ErrForm", "paddock/api.ErrBlocked", "paddock/api.ErrPath", "paddock/api.ErrGoal"], plainKeys := false, apart := false, laid := [("paddock/api.ErrRange", laid_paddock_api_ErrRange), ("paddock/api.ErrFull", laid_paddock_api_ErrFull), ("paddock/api.ErrNone", laid_paddock_api_ErrNone), ("paddock/api.ErrExists", laid_paddock_api_ErrExists), ("paddock/api.ErrKind", laid_paddock_api_ErrKind), ("paddock/api.ErrState", laid_paddock_api_ErrState), ("paddock/api.ErrForm", laid_paddock_api_ErrForm), ("paddock/api.ErrBlocked", laid_paddock_api_ErrBlocked), ("paddock/api.ErrPath", laid_paddock_api_ErrPath), ("paddock/api.ErrGoal", laid_paddock_api_ErrGoal)], narrowed := true }
def HandlesOnceUptoSaid : Prop := handlesOnceUptoRow.holds Tryd.pinned (OpenSpec.upto handlesOnceSpec)

/-- 'paddocklaw04.HandlesLimits', WHERE WHAT IT READS IS OF BULK AT MOST 1048576: true; the input reads as it did. -/
def handlesLimitsUptoRow : OpenClaim := { program := "ytminjgfobcnmhaadoor", sum := "523d177890bd503491970581f7675f6696b3a935e37aa2c312c11d49cdc88a7e", func := "paddock/paddocklaw04.HandlesLimits", spec := "handlesLimits", inPlace := ["internal/reflectlite.TypeOf"], unfollowed := true, recurses := true, named := ["paddock/api.ErrFull", "paddock/api.ErrNone", "paddock/api.ErrRange", "paddock/api.ErrExists", "paddock/api.ErrKind", "paddock/api.ErrState", "paddock/api.ErrForm", "paddock/api.ErrBlocked", "paddock/api.ErrPath", "paddock/api.ErrGoal"], plainKeys := false, apart := false, laid := [("paddock/api.ErrRange", laid_paddock_api_ErrRange), ("paddock/api.ErrFull", laid_paddock_api_ErrFull), ("paddock/api.ErrNone", laid_paddock_api_ErrNone), ("paddock/api.ErrExists", laid_paddock_api_ErrExists), ("paddock/api.ErrKind", laid_paddock_api_ErrKind), ("paddock/api.ErrState", laid_paddock_api_ErrState), ("paddock/api.ErrForm", laid_paddock_api_ErrForm), ("paddock/api.ErrBlocked", laid_paddock_api_ErrBlocked), ("paddock/api.ErrPath", laid_paddock_api_ErrPath), ("paddock/api.ErrGoal", laid_paddock_api_ErrGoal)], narrowed := true }
def HandlesLimitsUptoSaid : Prop := handlesLimitsUptoRow.holds Tryd.pinned (OpenSpec.upto handlesLimitsSpec)

/-- 'paddocklaw10.HeapPlays', WHERE WHAT IT READS IS OF BULK AT MOST 1048576: true; the input reads as it did. -/
def heapPlaysUptoRow : OpenClaim := { program := "ytminjgfobcnmhaadoor", sum := "523d177890bd503491970581f7675f6696b3a935e37aa2c312c11d49cdc88a7e", func := "paddock/paddocklaw10.HeapPlays", spec := "heapPlays", inPlace := ["internal/reflectlite.TypeOf"], unfollowed := true, recurses := true, named := ["paddock/api.ErrFull", "paddock/api.ErrNone", "paddock/api.ErrRange", "paddock/api.ErrExists", "paddock/api.ErrKind", "paddock/api.ErrState", "paddock/api.ErrForm", "paddock/api.ErrBlocked", "paddock/api.ErrPath", "paddock/api.ErrGoal"], plainKeys := false, apart := false, laid := [("paddock/api.ErrRange", laid_paddock_api_ErrRange), ("paddock/api.ErrFull", laid_paddock_api_ErrFull), ("paddock/api.ErrNone", laid_paddock_api_ErrNone), ("paddock/api.ErrExists", laid_paddock_api_ErrExists), ("paddock/api.ErrKind", laid_paddock_api_ErrKind), ("paddock/api.ErrState", laid_paddock_api_ErrState), ("paddock/api.ErrForm", laid_paddock_api_ErrForm), ("paddock/api.ErrBlocked", laid_paddock_api_ErrBlocked), ("paddock/api.ErrPath", laid_paddock_api_ErrPath), ("paddock/api.ErrGoal", laid_paddock_api_ErrGoal)], narrowed := true }
def HeapPlaysUptoSaid : Prop := heapPlaysUptoRow.holds Tryd.pinned (OpenSpec.upto heapPlaysSpec)

/-- 'paddocklaw04.HandlesBack', WHERE WHAT IT READS IS OF BULK AT MOST 1048576: true; the input reads as it did. -/
def handlesBackUptoRow : OpenClaim := { program := "ytminjgfobcnmhaadoor", sum := "523d177890bd503491970581f7675f6696b3a935e37aa2c312c11d49cdc88a7e", func := "paddock/paddocklaw04.HandlesBack", spec := "handlesBack", inPlace := ["internal/reflectlite.TypeOf"], unfollowed := true, recurses := true, named := ["paddock/api.ErrFull", "paddock/api.ErrNone", "paddock/api.ErrForm", "paddock/api.ErrRange", "paddock/api.ErrExists", "paddock/api.ErrKind", "paddock/api.ErrState", "paddock/api.ErrBlocked", "paddock/api.ErrPath", "paddock/api.ErrGoal"], plainKeys := false, apart := false, laid := [("paddock/api.ErrRange", laid_paddock_api_ErrRange), ("paddock/api.ErrFull", laid_paddock_api_ErrFull), ("paddock/api.ErrNone", laid_paddock_api_ErrNone), ("paddock/api.ErrExists", laid_paddock_api_ErrExists), ("paddock/api.ErrKind", laid_paddock_api_ErrKind), ("paddock/api.ErrState", laid_paddock_api_ErrState), ("paddock/api.ErrForm", laid_paddock_api_ErrForm), ("paddock/api.ErrBlocked", laid_paddock_api_ErrBlocked), ("paddock/api.ErrPath", laid_paddock_api_ErrPath), ("paddock/api.ErrGoal", laid_paddock_api_ErrGoal)], narrowed := true }
def HandlesBackUptoSaid : Prop := handlesBackUptoRow.holds Tryd.pinned (OpenSpec.upto handlesBackSpec)

/-- 'paddocklaw04.HandlesPlays', WHERE WHAT IT READS IS OF BULK AT MOST 1048576: true; the input reads as it did. -/
def handlesPlaysUptoRow : OpenClaim := { program := "ytminjgfobcnmhaadoor", sum := "523d177890bd503491970581f7675f6696b3a935e37aa2c312c11d49cdc88a7e", func := "paddock/paddocklaw04.HandlesPlays", spec := "handlesPlays", inPlace := ["internal/reflectlite.TypeOf"], unfollowed := true, recurses := true, named := ["paddock/api.ErrFull", "paddock/api.ErrNone", "paddock/api.ErrForm", "paddock/api.ErrRange", "paddock/api.ErrExists", "paddock/api.ErrKind", "paddock/api.ErrState", "paddock/api.ErrBlocked", "paddock/api.ErrPath", "paddock/api.ErrGoal"], plainKeys := false, apart := false, laid := [("paddock/api.ErrRange", laid_paddock_api_ErrRange), ("paddock/api.ErrFull", laid_paddock_api_ErrFull), ("paddock/api.ErrNone", laid_paddock_api_ErrNone), ("paddock/api.ErrExists", laid_paddock_api_ErrExists), ("paddock/api.ErrKind", laid_paddock_api_ErrKind), ("paddock/api.ErrState", laid_paddock_api_ErrState), ("paddock/api.ErrForm", laid_paddock_api_ErrForm), ("paddock/api.ErrBlocked", laid_paddock_api_ErrBlocked), ("paddock/api.ErrPath", laid_paddock_api_ErrPath), ("paddock/api.ErrGoal", laid_paddock_api_ErrGoal)], narrowed := true }
def HandlesPlaysUptoSaid : Prop := handlesPlaysUptoRow.holds Tryd.pinned (OpenSpec.upto handlesPlaysSpec)

end Rows
end Go.Proofs.YtminjgfobcnmhaaDoor
