/-
  Rows of tiles, as whole numbers.
-/
import Derived.Test.YtilobedihjkpjaaDoorRouteCosts
namespace Go.Proofs.YtilobedihjkpjaaDoor.Route
open Go Go.RowKit
theorem gC_ints (l : List Nat) : (l.map Int.ofNat).map (Value.int .i64) = gC l := by simp [gC, List.map_map, Function.comp_def]
/-- A row of tiles as whole numbers. -/
theorem rowInts {w : World} {v : Value} {l : List Nat} (h : w.ownsRow 0 3 1 v l.length (gC l)) : Ints w v (l.map Int.ofNat) := by
  have := Reads.of_own h
  unfold Ints
  rw [gC_ints, List.length_map]
  exact this
end Go.Proofs.YtilobedihjkpjaaDoor.Route
