/-
  DERIVED. GIVEN WITH THE SEED: THE PROGRAM's TIES (one call each: nine closed facts by the kernel) AND EACH ROW's TIE, after the 31st guide's Derived/Test/Toyas{Tie, Card}.lean. No idea stands in it: it is a product of the set-up. Laid BY PROGRAM, IN A SANDBOX (cutbox-door.mjs). By AI agents, Wed Nov 11 2026. No macro, syntax, notation, axiom, sorry.
-/
import Derived.Test.YtnfobdonmkefdaaDoorRows
import Derived.LaidByTextLater
import Derived.SevenTiedAt
import Derived.LaidSub
import Derived.LaidOnce
namespace Go.Proofs.YtnfobdonmkefdaaDoor
open Go
set_option maxRecDepth 100000
theorem seatTie1 : Tryd.prog.laidByTextLater [("paddock/api.ErrRange", Rows.laid_paddock_api_ErrRange), ("paddock/api.ErrFull", Rows.laid_paddock_api_ErrFull), ("paddock/api.ErrNone", Rows.laid_paddock_api_ErrNone), ("paddock/api.ErrExists", Rows.laid_paddock_api_ErrExists), ("paddock/api.ErrKind", Rows.laid_paddock_api_ErrKind), ("paddock/api.ErrState", Rows.laid_paddock_api_ErrState), ("paddock/api.ErrForm", Rows.laid_paddock_api_ErrForm), ("paddock/api.ErrBlocked", Rows.laid_paddock_api_ErrBlocked), ("paddock/api.ErrPath", Rows.laid_paddock_api_ErrPath), ("paddock/api.ErrGoal", Rows.laid_paddock_api_ErrGoal)] [.sentinel, .sentinel, .sentinel, .sentinel, .sentinel, .sentinel, .sentinel, .sentinel, .sentinel, .sentinel] true :=
  Program.laidByTextLater_by_one 199 8 2 (by kernel_rfl) (by kernel_rfl) (by kernel_rfl) (by kernel_rfl) (by kernel_rfl) (by kernel_rfl) (fun _ _ => by kernel_rfl)
theorem noOwnUnsafe : Tryd.pinned.checked.prog.headLifts.contains "ownunsafe" = false := by kernel_rfl
theorem tie : Tryd.prog.laidByTextLater [("paddock/api.ErrRange", Rows.laid_paddock_api_ErrRange), ("paddock/api.ErrNone", Rows.laid_paddock_api_ErrNone), ("paddock/api.ErrForm", Rows.laid_paddock_api_ErrForm), ("paddock/api.ErrBlocked", Rows.laid_paddock_api_ErrBlocked), ("paddock/api.ErrPath", Rows.laid_paddock_api_ErrPath)] [.sentinel, .sentinel, .sentinel, .sentinel, .sentinel] true :=
  Program.laidByTextLater.sub seatTie1 ["paddock/api.ErrRange", "paddock/api.ErrNone", "paddock/api.ErrForm", "paddock/api.ErrBlocked", "paddock/api.ErrPath"] (by kernel_rfl) (by kernel_rfl)
theorem stepsBack_row_tie : Rows.stepsBackRow.laidByTextAt .later Tryd.pinned [.sentinel, .sentinel, .sentinel, .sentinel, .sentinel] true :=
  OpenClaim.laidByTextAt_later rfl rfl tie noOwnUnsafe
theorem stepsReturn_row_tie : Rows.stepsReturnRow.laidByTextAt .later Tryd.pinned [.sentinel, .sentinel, .sentinel, .sentinel, .sentinel] true :=
  OpenClaim.laidByTextAt_later rfl rfl tie noOwnUnsafe
theorem stepsFreed_row_tie : Rows.stepsFreedRow.laidByTextAt .later Tryd.pinned [.sentinel, .sentinel, .sentinel, .sentinel, .sentinel] true :=
  OpenClaim.laidByTextAt_later rfl rfl tie noOwnUnsafe
theorem tie2 : Tryd.prog.laidByTextLater [("paddock/api.ErrRange", Rows.laid_paddock_api_ErrRange), ("paddock/api.ErrFull", Rows.laid_paddock_api_ErrFull), ("paddock/api.ErrNone", Rows.laid_paddock_api_ErrNone), ("paddock/api.ErrExists", Rows.laid_paddock_api_ErrExists), ("paddock/api.ErrKind", Rows.laid_paddock_api_ErrKind), ("paddock/api.ErrState", Rows.laid_paddock_api_ErrState), ("paddock/api.ErrForm", Rows.laid_paddock_api_ErrForm), ("paddock/api.ErrBlocked", Rows.laid_paddock_api_ErrBlocked), ("paddock/api.ErrPath", Rows.laid_paddock_api_ErrPath), ("paddock/api.ErrGoal", Rows.laid_paddock_api_ErrGoal)] [.sentinel, .sentinel, .sentinel, .sentinel, .sentinel, .sentinel, .sentinel, .sentinel, .sentinel, .sentinel] true :=
  Program.laidByTextLater.sub seatTie1 ["paddock/api.ErrRange", "paddock/api.ErrFull", "paddock/api.ErrNone", "paddock/api.ErrExists", "paddock/api.ErrKind", "paddock/api.ErrState", "paddock/api.ErrForm", "paddock/api.ErrBlocked", "paddock/api.ErrPath", "paddock/api.ErrGoal"] (by kernel_rfl) (by kernel_rfl)
theorem stepsCosts_row_tie : Rows.stepsCostsRow.laidByTextAt .later Tryd.pinned [.sentinel, .sentinel, .sentinel, .sentinel, .sentinel, .sentinel, .sentinel, .sentinel, .sentinel, .sentinel] true :=
  OpenClaim.laidByTextAt_later rfl rfl tie2 noOwnUnsafe
theorem stepsAround_row_tie : Rows.stepsAroundRow.laidByTextAt .later Tryd.pinned [.sentinel, .sentinel, .sentinel, .sentinel, .sentinel, .sentinel, .sentinel, .sentinel, .sentinel, .sentinel] true :=
  OpenClaim.laidByTextAt_later rfl rfl tie2 noOwnUnsafe
theorem stepsOf_row_tie : Rows.stepsOfRow.laidByTextAt .later Tryd.pinned [.sentinel, .sentinel, .sentinel, .sentinel, .sentinel, .sentinel, .sentinel, .sentinel, .sentinel, .sentinel] true :=
  OpenClaim.laidByTextAt_later rfl rfl tie2 noOwnUnsafe
theorem stepsSets_row_tie : Rows.stepsSetsRow.laidByTextAt .later Tryd.pinned [.sentinel, .sentinel, .sentinel, .sentinel, .sentinel, .sentinel, .sentinel, .sentinel, .sentinel, .sentinel] true :=
  OpenClaim.laidByTextAt_later rfl rfl tie2 noOwnUnsafe
theorem stepsBackUpto_row_tie : Rows.stepsBackUptoRow.laidByTextAt .later Tryd.pinned [.sentinel, .sentinel, .sentinel, .sentinel, .sentinel] true :=
  OpenClaim.laidByTextAt_later rfl rfl tie noOwnUnsafe
theorem stepsReturnUpto_row_tie : Rows.stepsReturnUptoRow.laidByTextAt .later Tryd.pinned [.sentinel, .sentinel, .sentinel, .sentinel, .sentinel] true :=
  OpenClaim.laidByTextAt_later rfl rfl tie noOwnUnsafe
theorem stepsFreedUpto_row_tie : Rows.stepsFreedUptoRow.laidByTextAt .later Tryd.pinned [.sentinel, .sentinel, .sentinel, .sentinel, .sentinel] true :=
  OpenClaim.laidByTextAt_later rfl rfl tie noOwnUnsafe
theorem stepsCostsUpto_row_tie : Rows.stepsCostsUptoRow.laidByTextAt .later Tryd.pinned [.sentinel, .sentinel, .sentinel, .sentinel, .sentinel, .sentinel, .sentinel, .sentinel, .sentinel, .sentinel] true :=
  OpenClaim.laidByTextAt_later rfl rfl tie2 noOwnUnsafe
theorem stepsAroundUpto_row_tie : Rows.stepsAroundUptoRow.laidByTextAt .later Tryd.pinned [.sentinel, .sentinel, .sentinel, .sentinel, .sentinel, .sentinel, .sentinel, .sentinel, .sentinel, .sentinel] true :=
  OpenClaim.laidByTextAt_later rfl rfl tie2 noOwnUnsafe
theorem stepsOfUpto_row_tie : Rows.stepsOfUptoRow.laidByTextAt .later Tryd.pinned [.sentinel, .sentinel, .sentinel, .sentinel, .sentinel, .sentinel, .sentinel, .sentinel, .sentinel, .sentinel] true :=
  OpenClaim.laidByTextAt_later rfl rfl tie2 noOwnUnsafe
theorem stepsSetsUpto_row_tie : Rows.stepsSetsUptoRow.laidByTextAt .later Tryd.pinned [.sentinel, .sentinel, .sentinel, .sentinel, .sentinel, .sentinel, .sentinel, .sentinel, .sentinel, .sentinel] true :=
  OpenClaim.laidByTextAt_later rfl rfl tie2 noOwnUnsafe
end Go.Proofs.YtnfobdonmkefdaaDoor
