/-
  Slots that came in, and whole numbers with their room.
-/
import Derived.Test.YtminjgfobcnmhaaDoorInRows
import Derived.Test.YtminjgfobcnmhaaDoorPool
namespace Go.Proofs.YtminjgfobcnmhaaDoor
open Go Go.RowKit Go.ChangeShapes Go.WideShapes Go.ChangeAt Go.Proofs.YtminjgfobcnmhaaDoor.Pool
section
variable {H : Type} {enc : TypeId × Value → H} {P : Program}
theorem one_slot {t ti tb : TypeId} {f0 f1 : Field} {W : World} {y : List Value} {fuel : Nat} {x : DataW H × List MemPlace} (ht : P.underlying t = some (.struct #[f0, f1])) (hc : P.cellsOf t = 2) (hi : P.underlying ti = some (.int .i64)) (hci : P.cellsOf ti = 1) (hb : P.underlying tb = some .bool) (hcb : P.cellsOf tb = 1)
    (h0 : f0.type = ti ∧ f0.offset = 0) (h1 : f1.type = tb ∧ f1.offset = 1) (h : DataW.trod enc P W 0 (fun _ => true) true fuel t y = some x) : ∃ s : Slot, y = sl s := by
  obtain ⟨y0, y1, n, rfl, hl, e0, e1⟩ := trod_struct2 ht h
  rw [h0.1, h0.2] at e0
  rw [h1.1, h1.2, hcb] at e1
  obtain ⟨a, ha, wa, _⟩ := field_int hi hci e0
  obtain ⟨b, hb', _⟩ := DataW.trod_bool hb e1
  rw [hc] at hl
  refine ⟨(a, b), ?_⟩
  match y, hl with
  | [u, v], _ => simp at ha hb'; simp [sl, ha, hb']
theorem in_slots {tt t ti tb : TypeId} {f0 f1 : Field} {W : World} {v : Value} {d : DataW H} {ps : List MemPlace} (htt : P.underlying tt = some (.slice t)) (ht : P.underlying t = some (.struct #[f0, f1])) (hc : P.cellsOf t = 2) (hi : P.underlying ti = some (.int .i64)) (hci : P.cellsOf ti = 1) (hb : P.underlying tb = some .bool) (hcb : P.cellsOf tb = 1)
    (h0 : f0.type = ti ∧ f0.offset = 0) (h1 : f1.type = tb ∧ f1.offset = 1) (hlt : ∀ x ∈ ps, x.block < W.heap.size) (hv : ∃ a n c, v = .slice a n c) (h : DataW.Trod enc P W 0 (fun _ => true) true tt v d ps) :
    ∃ S : List Slot, Reads W v S.length 2 (S.flatMap sl) ∧ S.length ≤ maxLen := by
  obtain ⟨ys, hl, hr, ha, hm, _, _⟩ := in_rows htt hc (by omega) hlt hv h
  have key : ∀ l : List (List Value), (∀ y ∈ l, y ∈ ys) → ∃ S : List Slot, S.length = l.length ∧ S.flatMap sl = l.flatten := by
    intro l
    induction l with
    | nil => intro _; exact ⟨[], rfl, rfl⟩
    | cons y l ih =>
      intro hin
      obtain ⟨S, e1, e2⟩ := ih (fun z hz => hin z (List.mem_cons_of_mem _ hz))
      obtain ⟨f, z, hz, _⟩ := ha y (hin y List.mem_cons_self)
      obtain ⟨s, rfl⟩ := one_slot ht hc hi hci hb hcb h0 h1 hz
      exact ⟨s :: S, by simp [e1], by simp [e2]⟩
  obtain ⟨S, e1, e2⟩ := key ys (fun _ h => h)
  exact ⟨S, by rw [e1, e2]; exact hr, by omega⟩
theorem in_intsC {tt t : TypeId} {W : World} {v : Value} {d : DataW H} {ps : List MemPlace} (htt : P.underlying tt = some (.slice t)) (hi : P.underlying t = some (.int .i64)) (hci : P.cellsOf t = 1) (hlt : ∀ x ∈ ps, x.block < W.heap.size) (hv : ∃ a n c, v = .slice a n c) (h : DataW.Trod enc P W 0 (fun _ => true) true tt v d ps) :
    ∃ xs : List Int, Ints W v xs ∧ xs.length ≤ maxLen ∧ (∀ a n c, v = .slice a n c → n ≤ c) := by
  obtain ⟨ys, hl, hr, ha, hm, _, hcp⟩ := in_rows htt hci (by omega) hlt hv h
  obtain ⟨xs, e1, e2⟩ := intsOf hi ys (fun y hy => by obtain ⟨f, z, hz, _⟩ := ha y hy; exact ⟨f, z, hz⟩)
  exact ⟨xs, by unfold Ints; rw [e1, e2]; exact hr, by omega, hcp⟩
end
end Go.Proofs.YtminjgfobcnmhaaDoor
