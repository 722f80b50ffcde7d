/-
  A grid, blocked tiles and two tiles that came in.
-/
import Derived.Test.YtdihnjhbopogoaaDoorInRows
import Derived.Test.YtdihnjhbopogoaaDoorGridRight
namespace Go.Proofs.YtdihnjhbopogoaaDoor
open Go Go.RowKit Go.ChangeShapes Go.WideShapes Go.ChangeAt
/-- Such an ask as a value. -/
def askV (g : Grd) (bv : Value) (s t : Int) : Value := .agg #[.int .i64 g.W, .int .i64 g.H, .int .i64 g.S, .int .i64 g.X, .int .i64 g.Y, bv, .int .i64 s, .int .i64 t]
section
variable {H : Type} {enc : TypeId × Value → H} {P : Program}
theorem in_ask {t tg ti ts : TypeId} {f0 f1 f2 f3 g0 g1 g2 g3 g4 : Field} {W : World} {b0 : Nat} {v : Value} {d : DataW H} {ps : List MemPlace} (ht : P.underlying t = some (.struct #[f0, f1, f2, f3])) (hc : P.cellsOf t = 8) (htg : P.underlying tg = some (.struct #[g0, g1, g2, g3, g4])) (hcg : P.cellsOf tg = 5)
    (hi : P.underlying ti = some (.int .i64)) (hci : P.cellsOf ti = 1) (hts : P.underlying ts = some (.slice ti)) (hcs : P.cellsOf ts = 1)
    (h0 : f0.type = tg ∧ f0.offset = 0) (h1 : f1.type = ts ∧ f1.offset = 5) (h2 : f2.type = ti ∧ f2.offset = 6) (h3 : f3.type = ti ∧ f3.offset = 7)
    (k0 : g0.type = ti ∧ g0.offset = 0) (k1 : g1.type = ti ∧ g1.offset = 1) (k2 : g2.type = ti ∧ g2.offset = 2) (k3 : g3.type = ti ∧ g3.offset = 3) (k4 : g4.type = ti ∧ g4.offset = 4)
    (hlt : ∀ z ∈ ps, z.block < W.heap.size) (hv : Value.okWide P W .any b0 t v) (h : DataW.Trod enc P W 0 (fun _ => true) true t v d ps) : ∃ (g : Grd) (bv : Value) (bl : List Int) (s t : Int), v = askV g bv s t ∧ Ints W bv bl ∧ bl.length ≤ maxLen := by
  obtain ⟨cs, rfl, hs⟩ := okWide_struct ht hv
  rw [hc] at hs
  obtain ⟨fuel, hf⟩ := h
  obtain ⟨zs, m, _, hx, hl, hzl, hf⟩ := DataW.trod_struct ht hf
  match zs, hzl with
  | [z0, z1, z2, z3], _ =>
    have e0 := hf 0 f0 rfl
    have e1 := hf 1 f1 rfl
    have e2 := hf 2 f2 rfl
    have e3 := hf 3 f3 rfl
    simp only [List.getElem?_cons_zero, List.getElem?_cons_succ] at e0 e1 e2 e3
    rw [h0.1, h0.2, hcg] at e0
    rw [h1.1, h1.2] at e1
    rw [h2.1, h2.2] at e2
    rw [h3.1, h3.2] at e3
    obtain ⟨s, hs2, _, _⟩ := field_int hi hci e2
    obtain ⟨u, hu, _, _⟩ := field_int hi hci e3
    obtain ⟨ys, bv, hbv, hyl, hr, hall, hm, _, hcp⟩ := rows_of hts hci (by omega) (fun z hz => hlt z (by
      have hx2 : ps = _ := congrArg Prod.snd hx
      rw [hx2]
      simp [hz])) e1
    obtain ⟨xs, x1, x2⟩ := intsOf hi ys (fun y hy => by obtain ⟨f, z, h, _⟩ := hall y hy; exact ⟨f, z, h⟩)
    obtain ⟨ws, m2, _, _, hl2, hwl, hf2⟩ := DataW.trod_struct htg e0
    match ws, hwl with
    | [w0, w1, w2, w3, w4], _ =>
      have d0 := hf2 0 g0 rfl
      have d1 := hf2 1 g1 rfl
      have d2 := hf2 2 g2 rfl
      have d3 := hf2 3 g3 rfl
      have d4 := hf2 4 g4 rfl
      simp only [List.getElem?_cons_zero, List.getElem?_cons_succ] at d0 d1 d2 d3 d4
      rw [k0.1, k0.2] at d0
      rw [k1.1, k1.2] at d1
      rw [k2.1, k2.2] at d2
      rw [k3.1, k3.2] at d3
      rw [k4.1, k4.2] at d4
      obtain ⟨a, ha, _, _⟩ := field_int hi hci d0
      obtain ⟨b, hb, _, _⟩ := field_int hi hci d1
      obtain ⟨c, hc', _, _⟩ := field_int hi hci d2
      obtain ⟨x, hx', _, _⟩ := field_int hi hci d3
      obtain ⟨y, hy', _, _⟩ := field_int hi hci d4
      refine ⟨⟨a, b, c, x, y⟩, bv, xs, s, u, ?_, by show Reads W bv xs.length 1 _; rw [x1, x2]; exact hr, by omega⟩
      rw [hcs] at hbv
      obtain ⟨l⟩ := cs
      match l, hs with
      | [u0, u1, u2, u3, u4, u5, u6, u7], _ =>
        simp [Value.cells] at ha hb hc' hx' hy' hs2 hu hbv
        simp [askV, ha, hb, hc', hx', hy', hs2, hu, hbv]
end
end Go.Proofs.YtdihnjhbopogoaaDoor
