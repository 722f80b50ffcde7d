/-
  A column's script that came in, as the walk takes it.
-/
import Derived.Test.YtkjecihiipjngaaDoorInOpC
import Derived.Test.YtkjecihiipjngaaDoorColumnPlays
namespace Go.Proofs.YtkjecihiipjngaaDoor
open Go Go.RowKit Go.ChangeShapes Go.WideShapes Go.ChangeAt Go.Proofs.YtkjecihiipjngaaDoor.ColumnPlays
section
variable {H : Type} {enc : TypeId × Value → H} {P : Program}
theorem in_opc {tt t ti ts : TypeId} {f0 f1 f2 f3 : Field} {W : World} {v : Value} {d : DataW H} {ps : List MemPlace} (htt : P.underlying tt = some (.slice t)) (ht : P.underlying t = some (.struct #[f0, f1, f2, f3])) (hc : P.cellsOf t = 4) (hi : P.underlying ti = some (.int .i64)) (hci : P.cellsOf ti = 1)
    (h0 : f0.type = ti ∧ f0.offset = 0) (h1 : f1.type = ti ∧ f1.offset = 1) (h2 : f2.type = ti ∧ f2.offset = 2) (h3 : f3.type = ts ∧ f3.offset = 3) (hcs : P.cellsOf ts = 1) (hts : P.underlying ts = some (.slice ti)) (hlt : ∀ x ∈ ps, x.block < W.heap.size) (hv : ∃ a n c, v = .slice a n c) (h : DataW.Trod enc P W 0 (fun _ => true) true tt v d ps) :
    ∃ os : List OpC, Reads W v os.length 4 (os.flatMap OpC.cells) ∧ os.length ≤ maxLen ∧ ∀ o ∈ os, Ints W o.v o.l ∧ o.l.length ≤ 9223372036854775807 := by
  obtain ⟨ys, hl, hr, ha, hm, _, _⟩ := in_rows htt hc (by omega) hlt hv h
  have key : ∀ l : List (List Value), (∀ y ∈ l, y ∈ ys) → ∃ os : List OpC, os.length = l.length ∧ os.flatMap OpC.cells = l.flatten ∧ ∀ o ∈ os, Ints W o.v o.l ∧ o.l.length ≤ 9223372036854775807 := by
    intro l
    induction l with
    | nil => intro _; exact ⟨[], rfl, rfl, by simp⟩
    | cons y l ih =>
      intro hin
      obtain ⟨os, e1, e2, e3⟩ := ih (fun z hz => hin z (List.mem_cons_of_mem _ hz))
      obtain ⟨f, z, hz, hzl⟩ := ha y (hin y List.mem_cons_self)
      obtain ⟨a, b, c, u, xs, rfl, hxs, hxl⟩ := one_opc ht hc hi hci h0 h1 h2 h3 hcs hts hzl hz
      refine ⟨⟨a, b, c, u, xs⟩ :: os, by simp [e1], by rw [List.flatMap_cons, e2]; rfl, ?_⟩
      intro o ho
      rcases List.mem_cons.1 ho with rfl | ho
      · exact ⟨hxs, by unfold maxLen at hxl; omega⟩
      · exact e3 o ho
  obtain ⟨os, e1, e2, e3⟩ := key ys (fun _ h => h)
  exact ⟨os, by rw [e1, e2]; exact hr, by omega, e3⟩
end
end Go.Proofs.YtkjecihiipjngaaDoor
