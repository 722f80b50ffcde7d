/-
  paddockref06: Right.
-/
import Derived.Test.YtegcnkcjmebheaaDoorRef06d
import Derived.Test.YtegcnkcjmebheaaDoorRowSame
namespace Go.Proofs.YtegcnkcjmebheaaDoor.Tab
open Go Go.RowKit Go.Proofs.YtegcnkcjmebheaaDoor.Mask
/-- A row that the document's Right takes. -/
def RefRight (vs : List Vl) : Prop := (∀ x ∈ vs, chkN x = 0) ∧ (∀ k, k < 10 → (rowOf vs k).length ≤ 1) ∧ vs = sortTo vs 10
section
variable {w : World}
set_option maxRecDepth 100000 in
set_option maxHeartbeats 4000000 in
theorem ref_right (v : Value) (vs : List Vl) (hr : Reads w v vs.length 3 (vs.flatMap vc)) (hn : vs.length ≤ 10000) :
    Calls Tryd.prog 14 #[v] w fun r w' => ∃ B : Bool, r = .returned (.bool B) ∧ (B = true ↔ RefRight vs) ∧ Same w w' := by
  have HR := hid hr
  have HN := hid hn
  clear hr hn
  go_enter Tryd.func14, Tryd.ntmps14
  go_wp2_with fail
  refine (ref_row v vs HR.out HN.out).mono ?_
  rintro r w1 hcase
  rcases hcase with ⟨⟨x, hx, hbad⟩, e, he, -, rfl, hs⟩ | ⟨-, ⟨k, hk, h1⟩, rfl, hs⟩ | ⟨hok, hone, v', rfl, hX⟩
  · have S := hid hs
    have HB := hid (show ¬ RefRight vs from fun h => hbad (h.1 x hx))
    have hne : ((e : Int) == 0) = false := by simp; omega
    clear hs hx hbad he
    go_wp2
    go_ret
    exact ⟨false, rfl, by simp [HB.out], S.out⟩
  · have S := hid hs
    have HB := hid (show ¬ RefRight vs from fun h => by have := h.2.1 k hk; omega)
    clear hs hk h1
    go_wp2
    go_ret
    exact ⟨false, rfl, by simp [HB.out], S.out⟩
  · have X := hid hX
    have HS := hid (show RefRight vs ↔ vs = sortTo vs 10 from ⟨fun h => h.2.2, fun h => ⟨hok, hone, h⟩⟩)
    have hle := sortTo_le vs 10
    have HLE := hid (show (sortTo vs 10).length ≤ 1000000 by have := HN.out; omega)
    clear hX hok hone hle
    go_wp2_with fail
    refine (sameRow v v' vs (sortTo vs 10) _ (HR.out.same X.out.same) (Reads.of_own (X.out.row 0 rfl).1) (by have := HN.out; omega) HLE.out).mono ?_
    rintro r w2 ⟨hr2, hs2⟩
    obtain ⟨B, hB⟩ : ∃ B, B = decide (vs = sortTo vs 10) := ⟨_, rfl⟩
    rw [← hB] at hr2
    subst hr2
    have S := hid (X.out.go hs2).same
    have HB := hid hB
    clear hs2 X hB
    go_wp2
    go_ret
    exact ⟨B, rfl, by rw [HB.out, HS.out]; simp, S.out⟩
end
end Go.Proofs.YtegcnkcjmebheaaDoor.Tab
