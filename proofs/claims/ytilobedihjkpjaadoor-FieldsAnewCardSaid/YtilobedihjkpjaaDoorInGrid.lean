/-
  A grid that came in.
-/
import Derived.Test.YtilobedihjkpjaaDoorInRows
import Derived.Test.YtilobedihjkpjaaDoorGridRight
namespace Go.Proofs.YtilobedihjkpjaaDoor
open Go Go.RowKit Go.ChangeShapes Go.WideShapes Go.ChangeAt
section
variable {H : Type} {enc : TypeId × Value → H} {P : Program}
theorem in_grid {t ti : TypeId} {f0 f1 f2 f3 f4 : Field} {W : World} {b0 : Nat} {v : Value} {d : DataW H} {ps : List MemPlace} (ht : P.underlying t = some (.struct #[f0, f1, f2, f3, f4])) (hc : P.cellsOf t = 5) (hi : P.underlying ti = some (.int .i64)) (hci : P.cellsOf ti = 1)
    (h0 : f0.type = ti ∧ f0.offset = 0) (h1 : f1.type = ti ∧ f1.offset = 1) (h2 : f2.type = ti ∧ f2.offset = 2) (h3 : f3.type = ti ∧ f3.offset = 3) (h4 : f4.type = ti ∧ f4.offset = 4)
    (hv : Value.okWide P W .any b0 t v) (h : DataW.Trod enc P W 0 (fun _ => true) true t v d ps) : ∃ g : Grd, v = g.v := by
  obtain ⟨cs, rfl, hs⟩ := okWide_struct ht hv
  rw [hc] at hs
  obtain ⟨fuel, hf⟩ := h
  obtain ⟨zs, m, _, _, hl, hzl, hf⟩ := DataW.trod_struct ht hf
  match zs, hzl with
  | [z0, z1, z2, z3, z4], _ =>
    have e0 := hf 0 f0 rfl
    have e1 := hf 1 f1 rfl
    have e2 := hf 2 f2 rfl
    have e3 := hf 3 f3 rfl
    have e4 := hf 4 f4 rfl
    simp only [List.getElem?_cons_zero, List.getElem?_cons_succ] at e0 e1 e2 e3 e4
    rw [h0.1, h0.2] at e0
    rw [h1.1, h1.2] at e1
    rw [h2.1, h2.2] at e2
    rw [h3.1, h3.2] at e3
    rw [h4.1, h4.2] at e4
    obtain ⟨a, ha, _, _⟩ := field_int hi hci e0
    obtain ⟨b, hb, _, _⟩ := field_int hi hci e1
    obtain ⟨c, hc', _, _⟩ := field_int hi hci e2
    obtain ⟨x, hx, _, _⟩ := field_int hi hci e3
    obtain ⟨y, hy, _, _⟩ := field_int hi hci e4
    refine ⟨⟨a, b, c, x, y⟩, ?_⟩
    obtain ⟨l⟩ := cs
    match l, hs with
    | [u0, u1, u2, u3, u4], _ => simp [Value.cells] at ha hb hc' hx hy; simp [Grd.v, ha, hb, hc', hx, hy]
end
end Go.Proofs.YtilobedihjkpjaaDoor
