/-
  Components, rows of them, a struct of Sets and scripts of a table that came in.
-/
import Derived.Test.YtegcnkcjmebheaaDoorInRows
import Derived.Test.YtegcnkcjmebheaaDoorEnt
namespace Go.Proofs.YtegcnkcjmebheaaDoor
open Go Go.RowKit Go.ChangeShapes Go.WideShapes Go.ChangeAt Go.Proofs.YtegcnkcjmebheaaDoor.Tab
/-- A number that fits. -/
def fitI (n : Int) : Prop := -9223372036854775808 ≤ n ∧ n ≤ 9223372036854775807
theorem fit_of {n : Int} (h : (Lit.int .i64 n).wf = true) : fitI n := by
  have h1 : IntKind.i64.min = -9223372036854775808 := rfl
  have h2 : IntKind.i64.max = 9223372036854775807 := rfl
  simp only [Lit.wf, Bool.and_eq_true, decide_eq_true_eq] at h
  unfold fitI
  omega
section
variable {H : Type} {enc : TypeId × Value → H} {P : Program}
theorem three_ints {t ti : TypeId} {f0 f1 f2 : Field} {W : World} {y : List Value} {fuel : Nat} {x : DataW H × List MemPlace} (ht : P.underlying t = some (.struct #[f0, f1, f2])) (hc : P.cellsOf t = 3) (hi : P.underlying ti = some (.int .i64)) (hci : P.cellsOf ti = 1)
    (h0 : f0.type = ti ∧ f0.offset = 0) (h1 : f1.type = ti ∧ f1.offset = 1) (h2 : f2.type = ti ∧ f2.offset = 2) (h : DataW.trod enc P W 0 (fun _ => true) true fuel t y = some x) : ∃ v : Vl, y = vc v ∧ fitI v.k := by
  obtain ⟨zs, m, _, rfl, hl, hzl, hf⟩ := DataW.trod_struct ht h
  match zs, hzl with
  | [z0, z1, z2], _ =>
    have e0 := hf 0 f0 rfl
    have e1 := hf 1 f1 rfl
    have e2 := hf 2 f2 rfl
    simp only [List.getElem?_cons_zero, List.getElem?_cons_succ] at e0 e1 e2
    rw [h0.1, h0.2] at e0
    rw [h1.1, h1.2] at e1
    rw [h2.1, h2.2] at e2
    obtain ⟨a, ha, wa, _⟩ := field_int hi hci e0
    obtain ⟨b, hb, _, _⟩ := field_int hi hci e1
    obtain ⟨c, hc', _, _⟩ := field_int hi hci e2
    rw [hc] at hl
    refine ⟨⟨a, b, c⟩, ?_, fit_of wa⟩
    match y, hl with
    | [u0, u1, u2], _ => simp at ha hb hc'; simp [vc, ha, hb, hc']
theorem vls_of {t ti : TypeId} {f0 f1 f2 : Field} {W : World} (ht : P.underlying t = some (.struct #[f0, f1, f2])) (hc : P.cellsOf t = 3) (hi : P.underlying ti = some (.int .i64)) (hci : P.cellsOf ti = 1)
    (h0 : f0.type = ti ∧ f0.offset = 0) (h1 : f1.type = ti ∧ f1.offset = 1) (h2 : f2.type = ti ∧ f2.offset = 2) : ∀ (ys : List (List Value)), (∀ y ∈ ys, ∃ f z, DataW.trod enc P W 0 (fun _ => true) true f t y = some z) → ∃ vs : List Vl, vs.length = ys.length ∧ vs.flatMap vc = ys.flatten
  | [], _ => ⟨[], rfl, rfl⟩
  | y :: ys, h => by
    obtain ⟨vs, e1, e2⟩ := vls_of ht hc hi hci h0 h1 h2 ys (fun z hz => h z (List.mem_cons_of_mem _ hz))
    obtain ⟨f, z, hz⟩ := h y List.mem_cons_self
    obtain ⟨v, rfl, _⟩ := three_ints ht hc hi hci h0 h1 h2 hz
    exact ⟨v :: vs, by simp [e1], by simp [e2]⟩
/-- A struct of a row, two numbers and a component. -/
theorem in_sets {t ts tv ti : TypeId} {f0 f1 f2 f3 g0 g1 g2 : Field} {W : World} {b0 : Nat} {v : Value} {d : DataW H} {ps : List MemPlace} (ht : P.underlying t = some (.struct #[f0, f1, f2, f3])) (hc : P.cellsOf t = 6) (hts : P.underlying ts = some (.slice tv)) (hcs : P.cellsOf ts = 1)
    (htv : P.underlying tv = some (.struct #[g0, g1, g2])) (hcv : P.cellsOf tv = 3) (hi : P.underlying ti = some (.int .i64)) (hci : P.cellsOf ti = 1)
    (h0 : f0.type = ts ∧ f0.offset = 0) (h1 : f1.type = ti ∧ f1.offset = 1) (h2 : f2.type = ti ∧ f2.offset = 2) (h3 : f3.type = tv ∧ f3.offset = 3)
    (k0 : g0.type = ti ∧ g0.offset = 0) (k1 : g1.type = ti ∧ g1.offset = 1) (k2 : g2.type = ti ∧ g2.offset = 2)
    (hlt : ∀ z ∈ ps, z.block < W.heap.size) (hv : Value.okWide P W .any b0 t v) (h : DataW.Trod enc P W 0 (fun _ => true) true t v d ps) :
    ∃ (rv : Value) (vs : List Vl) (many which : Int) (x : Vl), v = .agg #[rv, .int .i64 many, .int .i64 which, .int .i64 x.k, .int .i64 x.a, .int .i64 x.b] ∧ Reads W rv vs.length 3 (vs.flatMap vc) ∧ vs.length ≤ maxLen ∧ fitI x.k := by
  obtain ⟨cs, rfl, hs⟩ := okWide_struct ht hv
  rw [hc] at hs
  obtain ⟨fuel, hf⟩ := h
  obtain ⟨zs, m, _, hx, hl, hzl, hf⟩ := DataW.trod_struct ht hf
  match zs, hzl with
  | [z0, z1, z2, z3], _ =>
    have e0 := hf 0 f0 rfl
    have e1 := hf 1 f1 rfl
    have e2 := hf 2 f2 rfl
    have e3 := hf 3 f3 rfl
    simp only [List.getElem?_cons_zero, List.getElem?_cons_succ] at e0 e1 e2 e3
    rw [h0.1, h0.2] at e0
    rw [h1.1, h1.2] at e1
    rw [h2.1, h2.2] at e2
    rw [h3.1, h3.2, hcv] at e3
    obtain ⟨ys, rv, hrv, hyl, hr, hall, hm, _, _⟩ := rows_of hts hcv (by omega) (fun z hz => hlt z (by
      have hx2 : ps = _ := congrArg Prod.snd hx
      rw [hx2]
      simp [hz])) e0
    obtain ⟨vs, x1, x2⟩ := vls_of htv hcv hi hci k0 k1 k2 ys (fun y hy => by obtain ⟨f, z, h, _⟩ := hall y hy; exact ⟨f, z, h⟩)
    obtain ⟨a, ha, _, _⟩ := field_int hi hci e1
    obtain ⟨b, hb, _, _⟩ := field_int hi hci e2
    obtain ⟨x, hx3, hfx⟩ := three_ints htv hcv hi hci k0 k1 k2 e3
    refine ⟨rv, vs, a, b, x, ?_, by rw [x1, x2]; exact hr, by omega, hfx⟩
    rw [hcs] at hrv
    obtain ⟨l⟩ := cs
    match l, hs with
    | [u0, u1, u2, u3, u4, u5], _ =>
      simp [Value.cells] at ha hb hrv
      simp [Value.cells, vc] at hx3
      simp [ha, hb, hrv, hx3]
end
end Go.Proofs.YtegcnkcjmebheaaDoor
