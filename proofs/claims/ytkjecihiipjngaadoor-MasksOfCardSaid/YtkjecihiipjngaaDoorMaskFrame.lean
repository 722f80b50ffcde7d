/-
  Masks that came in.
-/
import Derived.Test.YtkjecihiipjngaaDoorFrame
import Derived.Test.YtkjecihiipjngaaDoorMask
import Derived.WideKeyPair
namespace Go.Proofs.YtkjecihiipjngaaDoor
open Go Go.RowKit

theorem of_wf {x : Int} (h : (Lit.int .u64 x).wf = true) : ∃ n : Nat, x = n ∧ n ≤ Mask.top := by
  have h1 : IntKind.u64.min = 0 := rfl
  have h2 : IntKind.u64.max = 18446744073709551615 := rfl
  simp only [Lit.wf, Bool.and_eq_true, decide_eq_true_eq] at h
  obtain ⟨n, rfl⟩ := Int.eq_ofNat_of_zero_le (show 0 ≤ x by omega)
  exact ⟨n, rfl, by unfold Mask.top; omega⟩
end Go.Proofs.YtkjecihiipjngaaDoor
