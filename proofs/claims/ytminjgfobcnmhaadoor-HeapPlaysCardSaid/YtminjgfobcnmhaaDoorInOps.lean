/-
  A script that came in: rows of two whole numbers and a slice of pairs.
-/
import Derived.Test.YtminjgfobcnmhaaDoorInRows
namespace Go.Proofs.YtminjgfobcnmhaaDoor
open Go Go.RowKit Go.ChangeShapes Go.WideShapes Go.ChangeAt

/-- One call of a script. -/
structure OpI where
  kind : Int
  n : Int
  v : Value
  es : List (Int × Int)
def OpI.cells (o : OpI) : List Value := [.int .i64 o.kind, .int .i64 o.n, o.v]
abbrev pairs (l : List (Int × Int)) : List Value := l.flatMap (fun x => [.int .i64 x.1, .int .i64 x.2])

section
variable {H : Type} {enc : TypeId × Value → H} {P : Program}

theorem pairs_of {e ti : TypeId} {f0 f1 : Field} {W : World} (he : P.underlying e = some (.struct #[f0, f1])) (hc : P.cellsOf e = 2) (hi : P.underlying ti = some (.int .i64)) (hci : P.cellsOf ti = 1)
    (h0 : f0.type = ti ∧ f0.offset = 0) (h1 : f1.type = ti ∧ f1.offset = 1) : ∀ (ys : List (List Value)), (∀ y ∈ ys, ∃ f z, DataW.trod enc P W 0 (fun _ => true) true f e y = some z) → ∃ xs : List (Int × Int), xs.length = ys.length ∧ pairs xs = ys.flatten
  | [], _ => ⟨[], rfl, rfl⟩
  | y :: ys, h => by
    obtain ⟨xs, e1, e2⟩ := pairs_of he hc hi hci h0 h1 ys (fun z hz => h z (List.mem_cons_of_mem _ hz))
    obtain ⟨f, z, hz⟩ := h y List.mem_cons_self
    obtain ⟨a, b, rfl, _, _⟩ := two_ints he hc hi hci h0 h1 hz
    exact ⟨(a, b) :: xs, by simp [e1], by simp [pairs] at e2 ⊢; rw [e2]⟩

theorem one_op {t ti ts e : TypeId} {f0 f1 f2 g0 g1 : Field} {W : World} {y : List Value} {fuel : Nat} {x : DataW H × List MemPlace} (ht : P.underlying t = some (.struct #[f0, f1, f2])) (hc : P.cellsOf t = 3) (hi : P.underlying ti = some (.int .i64)) (hci : P.cellsOf ti = 1)
    (h0 : f0.type = ti ∧ f0.offset = 0) (h1 : f1.type = ti ∧ f1.offset = 1) (h2 : f2.type = ts ∧ f2.offset = 2) (hcs : P.cellsOf ts = 1) (hts : P.underlying ts = some (.slice e)) (he : P.underlying e = some (.struct #[g0, g1])) (hce : P.cellsOf e = 2)
    (k0 : g0.type = ti ∧ g0.offset = 0) (k1 : g1.type = ti ∧ g1.offset = 1) (hlt : ∀ z ∈ x.2, z.block < W.heap.size)
    (h : DataW.trod enc P W 0 (fun _ => true) true fuel t y = some x) : ∃ o : OpI, y = o.cells ∧ Reads W o.v o.es.length 2 (pairs o.es) ∧ o.es.length ≤ maxLen ∧ (∀ a n c, o.v = .slice a n c → n ≤ c) := by
  obtain ⟨zs, m, _, rfl, hl, hzl, hf⟩ := DataW.trod_struct ht h
  match zs, hzl with
  | [z0, z1, z2], _ =>
    have e0 := hf 0 f0 rfl
    have e1 := hf 1 f1 rfl
    have e2 := hf 2 f2 rfl
    simp only [List.getElem?_cons_zero, List.getElem?_cons_succ] at e0 e1 e2
    rw [h0.1, h0.2] at e0
    rw [h1.1, h1.2] at e1
    rw [h2.1, h2.2] at e2
    obtain ⟨a, ha, _, _⟩ := field_int hi hci e0
    obtain ⟨b, hb, _, _⟩ := field_int hi hci e1
    obtain ⟨ys, v, hv, hyl, hr, hall, hm, _, hcp⟩ := rows_of hts hce (by omega) (fun z hz => hlt z (by simp [hz])) e2
    obtain ⟨xs, x1, x2⟩ := pairs_of he hce hi hci k0 k1 ys (fun y hy => by obtain ⟨f, z, h, _⟩ := hall y hy; exact ⟨f, z, h⟩)
    refine ⟨⟨a, b, v, xs⟩, ?_, by rw [x1, x2]; exact hr, by show xs.length ≤ _; omega, hcp⟩
    rw [hcs] at hv
    rw [hc] at hl
    match y, hl with
    | [u0, u1, u2], _ => simp at ha hb hv; rw [ha, hb, hv]; rfl

theorem in_ops {tt t ti ts e : TypeId} {f0 f1 f2 g0 g1 : Field} {W : World} {v : Value} {d : DataW H} {ps : List MemPlace} (htt : P.underlying tt = some (.slice t)) (ht : P.underlying t = some (.struct #[f0, f1, f2])) (hc : P.cellsOf t = 3) (hi : P.underlying ti = some (.int .i64)) (hci : P.cellsOf ti = 1)
    (h0 : f0.type = ti ∧ f0.offset = 0) (h1 : f1.type = ti ∧ f1.offset = 1) (h2 : f2.type = ts ∧ f2.offset = 2) (hcs : P.cellsOf ts = 1) (hts : P.underlying ts = some (.slice e)) (he : P.underlying e = some (.struct #[g0, g1])) (hce : P.cellsOf e = 2)
    (k0 : g0.type = ti ∧ g0.offset = 0) (k1 : g1.type = ti ∧ g1.offset = 1) (hlt : ∀ x ∈ ps, x.block < W.heap.size) (hv : ∃ a n c, v = .slice a n c) (h : DataW.Trod enc P W 0 (fun _ => true) true tt v d ps) :
    ∃ os : List OpI, Reads W v os.length 3 (os.flatMap OpI.cells) ∧ os.length ≤ maxLen ∧ ∀ o ∈ os, Reads W o.v o.es.length 2 (pairs o.es) ∧ o.es.length ≤ maxLen ∧ (∀ a n c, o.v = .slice a n c → n ≤ c) := by
  obtain ⟨ys, hl, hr, ha, hm, _, _⟩ := in_rows htt hc (by omega) hlt hv h
  have key : ∀ l : List (List Value), (∀ y ∈ l, y ∈ ys) → ∃ os : List OpI, os.length = l.length ∧ os.flatMap OpI.cells = l.flatten ∧ ∀ o ∈ os, Reads W o.v o.es.length 2 (pairs o.es) ∧ o.es.length ≤ maxLen ∧ (∀ a n c, o.v = .slice a n c → n ≤ c) := by
    intro l
    induction l with
    | nil => intro _; exact ⟨[], rfl, rfl, by simp⟩
    | cons y l ih =>
      intro hin
      obtain ⟨os, e1, e2, e3⟩ := ih (fun z hz => hin z (List.mem_cons_of_mem _ hz))
      obtain ⟨f, z, hz, hzl⟩ := ha y (hin y List.mem_cons_self)
      obtain ⟨o, rfl, ho⟩ := one_op ht hc hi hci h0 h1 h2 hcs hts he hce k0 k1 hzl hz
      refine ⟨o :: os, by simp [e1], by simp [e2], ?_⟩
      intro x hx
      rcases List.mem_cons.1 hx with rfl | hx
      · exact ho
      · exact e3 x hx
  obtain ⟨os, e1, e2, e3⟩ := key ys (fun _ h => h)
  exact ⟨os, by rw [e1, e2]; exact hr, by omega, e3⟩
end

theorem ops_get (os : List OpI) (i : Nat) (o : OpI) (h : os[i]? = some o) : (os.flatMap OpI.cells)[i * 3]? = some (.int .i64 o.kind) ∧ (os.flatMap OpI.cells)[i * 3 + 1]? = some (.int .i64 o.n) ∧ (os.flatMap OpI.cells)[i * 3 + 2]? = some o.v := by
  have hall : ∀ y ∈ os.map OpI.cells, y.length = 3 := by
    intro y hy
    obtain ⟨o, _, rfl⟩ := List.mem_map.1 hy
    rfl
  have hg : ∀ j, j < 3 → (os.flatMap OpI.cells)[i * 3 + j]? = o.cells[j]? := by
    intro j hj
    rw [List.flatMap_def, flatten_get _ hall i j hj, List.getElem?_map, h]
    rfl
  exact ⟨hg 0 (by omega), hg 1 (by omega), hg 2 (by omega)⟩
end Go.Proofs.YtminjgfobcnmhaaDoor
