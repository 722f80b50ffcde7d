/-
  A column's script that came in: rows of three whole numbers and a slice of whole numbers.
-/
import Derived.Test.YtkjecihiipjngaaDoorInRows
namespace Go.Proofs.YtkjecihiipjngaaDoor
open Go Go.RowKit Go.ChangeShapes Go.WideShapes Go.ChangeAt
section
variable {H : Type} {enc : TypeId × Value → H} {P : Program}
theorem ints_of {e : TypeId} {W : World} (he : P.underlying e = some (.int .i64)) : ∀ (ys : List (List Value)), (∀ y ∈ ys, ∃ f z, DataW.trod enc P W 0 (fun _ => true) true f e y = some z) → ∃ xs : List Int, xs.length = ys.length ∧ xs.map (Value.int .i64) = ys.flatten
  | [], _ => ⟨[], rfl, rfl⟩
  | y :: ys, h => by
    obtain ⟨xs, e1, e2⟩ := ints_of he ys (fun z hz => h z (List.mem_cons_of_mem _ hz))
    obtain ⟨f, z, hz⟩ := h y List.mem_cons_self
    obtain ⟨a, rfl, _, _⟩ := DataW.trod_int he hz
    exact ⟨a :: xs, by simp [e1], by simp [e2]⟩
/-- One call: its cells, and its list. -/
theorem one_opc {t ti ts : TypeId} {f0 f1 f2 f3 : Field} {W : World} {y : List Value} {fuel : Nat} {x : DataW H × List MemPlace} (ht : P.underlying t = some (.struct #[f0, f1, f2, f3])) (hc : P.cellsOf t = 4) (hi : P.underlying ti = some (.int .i64)) (hci : P.cellsOf ti = 1)
    (h0 : f0.type = ti ∧ f0.offset = 0) (h1 : f1.type = ti ∧ f1.offset = 1) (h2 : f2.type = ti ∧ f2.offset = 2) (h3 : f3.type = ts ∧ f3.offset = 3) (hcs : P.cellsOf ts = 1) (hts : P.underlying ts = some (.slice ti)) (hlt : ∀ z ∈ x.2, z.block < W.heap.size)
    (h : DataW.trod enc P W 0 (fun _ => true) true fuel t y = some x) : ∃ (a b c : Int) (v : Value) (l : List Int), y = [.int .i64 a, .int .i64 b, .int .i64 c, v] ∧ Ints W v l ∧ l.length ≤ maxLen := by
  obtain ⟨zs, m, _, rfl, hl, hzl, hf⟩ := DataW.trod_struct ht h
  match zs, hzl with
  | [z0, z1, z2, z3], _ =>
    have e0 := hf 0 f0 rfl
    have e1 := hf 1 f1 rfl
    have e2 := hf 2 f2 rfl
    have e3 := hf 3 f3 rfl
    simp only [List.getElem?_cons_zero, List.getElem?_cons_succ] at e0 e1 e2 e3
    rw [h0.1, h0.2] at e0
    rw [h1.1, h1.2] at e1
    rw [h2.1, h2.2] at e2
    rw [h3.1, h3.2] at e3
    obtain ⟨a, ha, _, _⟩ := field_int hi hci e0
    obtain ⟨b, hb, _, _⟩ := field_int hi hci e1
    obtain ⟨c, hc', _, _⟩ := field_int hi hci e2
    obtain ⟨ys, v, hv, hyl, hr, hall, hm, _, hcp⟩ := rows_of hts hci (by omega) (fun z hz => hlt z (by simp [hz])) e3
    obtain ⟨xs, x1, x2⟩ := ints_of hi ys (fun y hy => by obtain ⟨f, z, h, _⟩ := hall y hy; exact ⟨f, z, h⟩)
    refine ⟨a, b, c, v, xs, ?_, by show Reads W v xs.length 1 _; rw [x1, x2]; exact hr, by omega⟩
    rw [hcs] at hv
    rw [hc] at hl
    match y, hl with
    | [u0, u1, u2, u3], _ => simp at ha hb hc' hv; rw [ha, hb, hc', hv]
end
end Go.Proofs.YtkjecihiipjngaaDoor
