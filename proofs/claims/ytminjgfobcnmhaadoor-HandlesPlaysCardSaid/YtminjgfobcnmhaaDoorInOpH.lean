/-
  A script that came in: rows of four whole numbers, the last two of a struct within.
-/
import Derived.Test.YtminjgfobcnmhaaDoorInRows
import Derived.Test.YtminjgfobcnmhaaDoorPoolRun
namespace Go.Proofs.YtminjgfobcnmhaaDoor
open Go Go.RowKit Go.ChangeShapes Go.WideShapes Go.ChangeAt Go.Proofs.YtminjgfobcnmhaaDoor.Pool
section
variable {H : Type} {enc : TypeId × Value → H} {P : Program}
theorem one_oph {t ti th : TypeId} {f0 f1 f2 g0 g1 : Field} {W : World} {y : List Value} {fuel : Nat} {x : DataW H × List MemPlace} (ht : P.underlying t = some (.struct #[f0, f1, f2])) (hc : P.cellsOf t = 4) (hi : P.underlying ti = some (.int .i64)) (hci : P.cellsOf ti = 1)
    (h0 : f0.type = ti ∧ f0.offset = 0) (h1 : f1.type = ti ∧ f1.offset = 1) (h2 : f2.type = th ∧ f2.offset = 2) (hth : P.underlying th = some (.struct #[g0, g1])) (hch : P.cellsOf th = 2)
    (k0 : g0.type = ti ∧ g0.offset = 0) (k1 : g1.type = ti ∧ g1.offset = 1)
    (h : DataW.trod enc P W 0 (fun _ => true) true fuel t y = some x) : ∃ o : OpH, y = o.cells := by
  obtain ⟨zs, m, _, rfl, hl, hzl, hf⟩ := DataW.trod_struct ht h
  match zs, hzl with
  | [z0, z1, z2], _ =>
    have e0 := hf 0 f0 rfl
    have e1 := hf 1 f1 rfl
    have e2 := hf 2 f2 rfl
    simp only [List.getElem?_cons_zero, List.getElem?_cons_succ] at e0 e1 e2
    rw [h0.1, h0.2] at e0
    rw [h1.1, h1.2] at e1
    rw [h2.1, h2.2, hch] at e2
    obtain ⟨a, ha, _, _⟩ := field_int hi hci e0
    obtain ⟨b, hb, _, _⟩ := field_int hi hci e1
    obtain ⟨c, d, hcd, _, _⟩ := two_ints hth hch hi hci k0 k1 e2
    rw [hc] at hl
    refine ⟨⟨a, b, c, d⟩, ?_⟩
    match y, hl with
    | [u0, u1, u2, u3], _ => simp at ha hb hcd; simp [OpH.cells, ha, hb, hcd]
theorem in_oph {tt t ti th : TypeId} {f0 f1 f2 g0 g1 : Field} {W : World} {v : Value} {d : DataW H} {ps : List MemPlace} (htt : P.underlying tt = some (.slice t)) (ht : P.underlying t = some (.struct #[f0, f1, f2])) (hc : P.cellsOf t = 4) (hi : P.underlying ti = some (.int .i64)) (hci : P.cellsOf ti = 1)
    (h0 : f0.type = ti ∧ f0.offset = 0) (h1 : f1.type = ti ∧ f1.offset = 1) (h2 : f2.type = th ∧ f2.offset = 2) (hth : P.underlying th = some (.struct #[g0, g1])) (hch : P.cellsOf th = 2)
    (k0 : g0.type = ti ∧ g0.offset = 0) (k1 : g1.type = ti ∧ g1.offset = 1) (hlt : ∀ x ∈ ps, x.block < W.heap.size) (hv : ∃ a n c, v = .slice a n c) (h : DataW.Trod enc P W 0 (fun _ => true) true tt v d ps) :
    ∃ os : List OpH, Ops W v os ∧ os.length ≤ maxLen := by
  obtain ⟨ys, hl, hr, ha, hm, _, _⟩ := in_rows htt hc (by omega) hlt hv h
  have key : ∀ l : List (List Value), (∀ y ∈ l, y ∈ ys) → ∃ os : List OpH, os.length = l.length ∧ os.flatMap OpH.cells = l.flatten := by
    intro l
    induction l with
    | nil => intro _; exact ⟨[], rfl, rfl⟩
    | cons y l ih =>
      intro hin
      obtain ⟨os, e1, e2⟩ := ih (fun z hz => hin z (List.mem_cons_of_mem _ hz))
      obtain ⟨f, z, hz, _⟩ := ha y (hin y List.mem_cons_self)
      obtain ⟨o, rfl⟩ := one_oph ht hc hi hci h0 h1 h2 hth hch k0 k1 hz
      exact ⟨o :: os, by simp [e1], by simp [e2]⟩
  obtain ⟨os, e1, e2⟩ := key ys (fun _ h => h)
  exact ⟨os, by unfold Ops; rw [e1, e2]; exact hr, by omega⟩
end
end Go.Proofs.YtminjgfobcnmhaaDoor
