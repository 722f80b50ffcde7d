/-
  Scripts of a table that came in.
-/
import Derived.Test.YtegcnkcjmebheaaDoorIn07
import Derived.Test.YtegcnkcjmebheaaDoorPlaysP
namespace Go.Proofs.YtegcnkcjmebheaaDoor
open Go Go.RowKit Go.ChangeShapes Go.WideShapes Go.ChangeAt Go.Proofs.YtegcnkcjmebheaaDoor.Tab
section
variable {H : Type} {enc : TypeId × Value → H} {P : Program}
theorem one_opt {t ti th ts tv : TypeId} {f0 f1 f2 f3 f4 f5 g0 g1 k0 k1 k2 : Field} {W : World} {y : List Value} {fuel : Nat} {x : DataW H × List MemPlace} (ht : P.underlying t = some (.struct #[f0, f1, f2, f3, f4, f5])) (hc : P.cellsOf t = 9) (hi : P.underlying ti = some (.int .i64)) (hci : P.cellsOf ti = 1)
    (hth : P.underlying th = some (.struct #[g0, g1])) (hch : P.cellsOf th = 2) (hts : P.underlying ts = some (.slice tv)) (hcs : P.cellsOf ts = 1) (htv : P.underlying tv = some (.struct #[k0, k1, k2])) (hcv : P.cellsOf tv = 3)
    (h0 : f0.type = ti ∧ f0.offset = 0) (h1 : f1.type = ti ∧ f1.offset = 1) (h2 : f2.type = ti ∧ f2.offset = 2) (h3 : f3.type = th ∧ f3.offset = 3) (h4 : f4.type = ts ∧ f4.offset = 5) (h5 : f5.type = tv ∧ f5.offset = 6)
    (a0 : g0.type = ti ∧ g0.offset = 0) (a1 : g1.type = ti ∧ g1.offset = 1) (b0 : k0.type = ti ∧ k0.offset = 0) (b1 : k1.type = ti ∧ k1.offset = 1) (b2 : k2.type = ti ∧ k2.offset = 2)
    (hlt : ∀ z ∈ x.2, z.block < W.heap.size) (h : DataW.trod enc P W 0 (fun _ => true) true fuel t y = some x) : ∃ o : OpT, y = o.cells ∧ Reads W o.rv o.row.length 3 (o.row.flatMap vc) ∧ o.row.length ≤ maxLen ∧ fitI o.v.k := by
  obtain ⟨zs, m, _, rfl, hl, hzl, hf⟩ := DataW.trod_struct ht h
  match zs, hzl with
  | [z0, z1, z2, z3, z4, z5], _ =>
    have e0 := hf 0 f0 rfl
    have e1 := hf 1 f1 rfl
    have e2 := hf 2 f2 rfl
    have e3 := hf 3 f3 rfl
    have e4 := hf 4 f4 rfl
    have e5 := hf 5 f5 rfl
    simp only [List.getElem?_cons_zero, List.getElem?_cons_succ] at e0 e1 e2 e3 e4 e5
    rw [h0.1, h0.2] at e0
    rw [h1.1, h1.2] at e1
    rw [h2.1, h2.2] at e2
    rw [h3.1, h3.2, hch] at e3
    rw [h4.1, h4.2] at e4
    rw [h5.1, h5.2, hcv] at e5
    obtain ⟨c0, hc0, _, _⟩ := field_int hi hci e0
    obtain ⟨c1, hc1, _, _⟩ := field_int hi hci e1
    obtain ⟨c2, hc2, _, _⟩ := field_int hi hci e2
    obtain ⟨c3, c4, hc3, _, _⟩ := two_ints hth hch hi hci a0 a1 e3
    obtain ⟨ys, rv, hrv, hyl, hr, hall, hm, _, _⟩ := rows_of hts hcv (by omega) (fun z hz => hlt z (by simp [hz])) e4
    obtain ⟨vs, x1, x2⟩ := vls_of htv hcv hi hci b0 b1 b2 ys (fun y hy => by obtain ⟨f, z, h, _⟩ := hall y hy; exact ⟨f, z, h⟩)
    obtain ⟨v, hv3, hfv⟩ := three_ints htv hcv hi hci b0 b1 b2 e5
    refine ⟨⟨c0, c1, c2, (c3, c4), rv, vs, v⟩, ?_, by show Reads W rv vs.length 3 _; rw [x1, x2]; exact hr, by show vs.length ≤ maxLen; omega, hfv⟩
    rw [hcs] at hrv
    rw [hc] at hl
    match y, hl with
    | [u0, u1, u2, u3, u4, u5, u6, u7, u8], _ =>
      simp at hc0 hc1 hc2 hc3 hrv
      simp [vc] at hv3
      simp [OpT.cells, hc0, hc1, hc2, hc3, hrv, hv3]
theorem in_opt {tt t ti th ts tv : TypeId} {f0 f1 f2 f3 f4 f5 g0 g1 k0 k1 k2 : Field} {W : World} {v : Value} {d : DataW H} {ps : List MemPlace} (htt : P.underlying tt = some (.slice t)) (ht : P.underlying t = some (.struct #[f0, f1, f2, f3, f4, f5])) (hc : P.cellsOf t = 9) (hi : P.underlying ti = some (.int .i64)) (hci : P.cellsOf ti = 1)
    (hth : P.underlying th = some (.struct #[g0, g1])) (hch : P.cellsOf th = 2) (hts : P.underlying ts = some (.slice tv)) (hcs : P.cellsOf ts = 1) (htv : P.underlying tv = some (.struct #[k0, k1, k2])) (hcv : P.cellsOf tv = 3)
    (h0 : f0.type = ti ∧ f0.offset = 0) (h1 : f1.type = ti ∧ f1.offset = 1) (h2 : f2.type = ti ∧ f2.offset = 2) (h3 : f3.type = th ∧ f3.offset = 3) (h4 : f4.type = ts ∧ f4.offset = 5) (h5 : f5.type = tv ∧ f5.offset = 6)
    (a0 : g0.type = ti ∧ g0.offset = 0) (a1 : g1.type = ti ∧ g1.offset = 1) (b0 : k0.type = ti ∧ k0.offset = 0) (b1 : k1.type = ti ∧ k1.offset = 1) (b2 : k2.type = ti ∧ k2.offset = 2)
    (hlt : ∀ x ∈ ps, x.block < W.heap.size) (hv : ∃ a n c, v = .slice a n c) (h : DataW.Trod enc P W 0 (fun _ => true) true tt v d ps) :
    ∃ os : List OpT, Reads W v os.length 9 (os.flatMap OpT.cells) ∧ os.length ≤ maxLen ∧ ∀ o ∈ os, Reads W o.rv o.row.length 3 (o.row.flatMap vc) ∧ o.row.length ≤ 9223372036854775807 ∧ fitI o.v.k := by
  obtain ⟨ys, hl, hr, ha, hm, _, _⟩ := in_rows htt hc (by omega) hlt hv h
  have key : ∀ l : List (List Value), (∀ y ∈ l, y ∈ ys) → ∃ os : List OpT, os.length = l.length ∧ os.flatMap OpT.cells = l.flatten ∧ ∀ o ∈ os, Reads W o.rv o.row.length 3 (o.row.flatMap vc) ∧ o.row.length ≤ 9223372036854775807 ∧ fitI o.v.k := by
    intro l
    induction l with
    | nil => intro _; exact ⟨[], rfl, rfl, by simp⟩
    | cons y l ih =>
      intro hin
      obtain ⟨os, e1, e2, e3⟩ := ih (fun z hz => hin z (List.mem_cons_of_mem _ hz))
      obtain ⟨f, z, hz, hzl⟩ := ha y (hin y List.mem_cons_self)
      obtain ⟨o, rfl, q1, q2, q3⟩ := one_opt ht hc hi hci hth hch hts hcs htv hcv h0 h1 h2 h3 h4 h5 a0 a1 b0 b1 b2 hzl hz
      refine ⟨o :: os, by simp [e1], by rw [List.flatMap_cons, e2]; rfl, ?_⟩
      intro o' ho
      rcases List.mem_cons.1 ho with rfl | ho
      · exact ⟨q1, by unfold maxLen at q2; omega, q3⟩
      · exact e3 o' ho
  obtain ⟨os, e1, e2, e3⟩ := key ys (fun _ h => h)
  exact ⟨os, by rw [e1, e2]; exact hr, by omega, e3⟩
end
end Go.Proofs.YtegcnkcjmebheaaDoor
