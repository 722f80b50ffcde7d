/-
  The ground of three by three tiles, with its middle one or without: least costs, the walk along them.
-/
import Derived.Test.YtdihnjhbopogoaaDoorFol
namespace Go.Proofs.YtdihnjhbopogoaaDoor
def g33 (b : Bool) : Gr := ⟨3, 3, [true, true, true, true, b, true, true, true, true]⟩
def c33 : Bool → List Int
  | true => [28, 24, 20, 24, 14, 10, 20, 10, 0]
  | false => [40, 30, 20, 30, -1, 10, 20, 10, 0]
theorem g33_ok (b : Bool) : (g33 b).Ok := by cases b <;> exact ⟨by decide, by decide, by decide, by decide, by decide⟩
set_option maxRecDepth 100000 in
theorem g33_least (b : Bool) : Least (g33 b) [8] (c33 b) := by
  have h1 : (c33 b).length = (g33 b).fs.length := by cases b <;> decide +kernel
  have h2 : ∀ t, t < (c33 b).length → cAt (c33 b) t = -1 ∨ 0 ≤ cAt (c33 b) t := by cases b <;> decide +kernel
  have h3 : ∀ t ∈ [8], (g33 b).free t = true → cAt (c33 b) t = 0 := by cases b <;> decide +kernel
  have h4 : ∀ t, t < (c33 b).length → ∀ s ∈ (g33 b).around t, 0 ≤ cAt (c33 b) s.to → 0 ≤ cAt (c33 b) t ∧ cAt (c33 b) t ≤ cAt (c33 b) s.to + s.c := by cases b <;> decide +kernel
  have h5 : ∀ t, t < (c33 b).length → 0 ≤ cAt (c33 b) t → (t ∈ [8] ∧ (g33 b).free t = true ∧ cAt (c33 b) t = 0) ∨ ∃ s ∈ (g33 b).around t, 0 ≤ cAt (c33 b) s.to ∧ cAt (c33 b) t = cAt (c33 b) s.to + s.c := by cases b <;> decide +kernel
  exact Least.check h1 h2 h3 h4 h5
def w33 : Bool → List Nat
  | true => [0, 4, 8]
  | false => [0, 1, 2, 5, 8]
theorem g33_fol (b : Bool) : Gr.Fol (g33 b) (c33 b) 0 (some (w33 b)) := by
  cases b
  · have h1 : (g33 false).nxt (c33 false) 0 = some ⟨0, 1, 10⟩ := by decide +kernel
    have h2 : (g33 false).nxt (c33 false) 1 = some ⟨0, 2, 10⟩ := by decide +kernel
    have h3 : (g33 false).nxt (c33 false) 2 = some ⟨2, 5, 10⟩ := by decide +kernel
    have h4 : (g33 false).nxt (c33 false) 5 = some ⟨2, 8, 10⟩ := by decide +kernel
    exact .go (by decide +kernel) h1 (.go (by decide +kernel) h2 (.go (by decide +kernel) h3 (.go (by decide +kernel) h4 (.done (by decide +kernel)))))
  · have h1 : (g33 true).nxt (c33 true) 0 = some ⟨1, 4, 14⟩ := by decide +kernel
    have h2 : (g33 true).nxt (c33 true) 4 = some ⟨1, 8, 14⟩ := by decide +kernel
    exact .go (by decide +kernel) h1 (.go (by decide +kernel) h2 (.done (by decide +kernel)))
end Go.Proofs.YtdihnjhbopogoaaDoor
