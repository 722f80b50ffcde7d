/-
  Slices that came in, whatever they hold: their cells, and each element's reading.
-/
import Derived.Test.YtegcnkcjmebheaaDoorFrame
namespace Go.Proofs.YtegcnkcjmebheaaDoor
open Go Go.RowKit Go.ChangeShapes Go.WideShapes Go.ChangeAt

theorem flatten_get {α : Type} {c : Nat} : ∀ (ys : List (List α)) (_ : ∀ y ∈ ys, y.length = c) (i j : Nat) (_ : j < c), ys.flatten[i * c + j]? = (ys[i]?).bind (fun y => y[j]?)
  | [], _, i, j, _ => by simp
  | y :: ys, h, 0, j, hj => by
    have hy := h y List.mem_cons_self
    simp only [List.flatten_cons, Nat.zero_mul, Nat.zero_add, List.getElem?_cons_zero, Option.bind_some]
    rw [List.getElem?_append_left (by omega)]
  | y :: ys, h, i + 1, j, hj => by
    have hy := h y List.mem_cons_self
    simp only [List.flatten_cons, List.getElem?_cons_succ]
    rw [List.getElem?_append_right (by rw [hy, Nat.succ_mul]; omega), hy, show (i + 1) * c + j - c = i * c + j by rw [Nat.succ_mul]; omega]
    exact flatten_get ys (fun y hy => h y (List.mem_cons_of_mem _ hy)) i j hj
theorem flatten_len {α : Type} {c : Nat} : ∀ (ys : List (List α)) (_ : ∀ y ∈ ys, y.length = c), ys.flatten.length = ys.length * c
  | [], _ => by simp
  | y :: ys, h => by
    have hy := h y List.mem_cons_self
    have := flatten_len ys (fun y hy => h y (List.mem_cons_of_mem _ hy))
    simp only [List.flatten_cons, List.length_append, List.length_cons, Nat.succ_mul]
    omega

section
variable {H : Type} {enc : TypeId × Value → H} {P : Program}

theorem rows_of {t e : TypeId} {W : World} {cs : List Value} {x : DataW H × List MemPlace} {fuel c : Nat} (ht : P.underlying t = some (.slice e)) (hc : P.cellsOf e = c) (h0 : 0 < c) (hlt : ∀ z ∈ x.2, z.block < W.heap.size)
    (h : DataW.trod enc P W 0 (fun _ => true) true fuel t cs = some x) :
    ∃ (ys : List (List Value)) (v : Value), cs = [v] ∧ (∀ y ∈ ys, y.length = c) ∧ Reads W v ys.length c ys.flatten ∧
      (∀ y ∈ ys, ∃ f z, DataW.trod enc P W 0 (fun _ => true) true f e y = some z ∧ ∀ u ∈ z.2, u.block < W.heap.size) ∧ ys.length ≤ maxLen ∧ (ys = [] ∨ ∃ es sp, x.1 = .slice es sp ∧ es.length = ys.length) ∧ (∀ a n c, v = .slice a n c → n ≤ c) := by
  rcases DataW.trod_slice ht h with ⟨rfl, rfl⟩ | ⟨a, len, cap, elems, rest, n, _, rfl, rfl, hb, hl, hm, hlen, hel, hsp, hns⟩
  · exact ⟨[], _, rfl, by simp, ⟨none, 0, rfl, by simp, fun _ => ⟨rfl, rfl⟩, fun a ha => by cases ha⟩, by simp, by simp, .inl rfl, fun a n c e => by cases e; exact Nat.le_refl _⟩
  have each : ∀ i, i < len → ∃ y z, W.cells? 0 (a.add (i * c)) c = some y ∧ elems[i]? = some z ∧ DataW.trod enc P W 0 (fun _ => true) true n e y = some z := by
    intro i hi
    have h1 := hel i hi
    have hz : elems[i]? = some (elems[i]'(by omega)) := List.getElem?_eq_getElem (by omega)
    rw [hz, hc, Option.bind_eq_some_iff] at h1
    obtain ⟨y, hy, hy'⟩ := h1
    exact ⟨y, _, hy, hz, hy'⟩
  let f : Nat → List Value := fun i => (W.cells? 0 (a.add (i * c)) c).getD []
  have hf : ∀ i, i < len → W.cells? 0 (a.add (i * c)) c = some (f i) := by
    intro i hi
    obtain ⟨y, z, h1, _⟩ := each i hi
    simp [f, h1]
  refine ⟨(List.range len).map f, _, rfl, ?_, ?_, ?_, by simp; omega, .inr ⟨_, _, rfl, by simp [hlen]⟩, fun a n c e => by cases e; exact hl⟩
  · intro y hy
    simp only [List.mem_map, List.mem_range] at hy
    obtain ⟨i, hi, rfl⟩ := hy
    exact (World.cells?_some (hf i hi)).2.1
  · have hall : ∀ y ∈ (List.range len).map f, y.length = c := by
      intro y hy
      simp only [List.mem_map, List.mem_range] at hy
      obtain ⟨i, hi, rfl⟩ := hy
      exact (World.cells?_some (hf i hi)).2.1
    refine ⟨some a, cap, by simp, flatten_len _ hall, (fun h => by cases h), ?_⟩
    rintro b hb'
    cases hb'
    refine ⟨fun hpos => ?_, fun j u hu => ?_⟩
    · have hlp : 0 < len := by
        rcases Nat.eq_zero_or_pos len with h | h
        · simp [h] at hpos
        · exact h
      have : MemPlace.cell a.block (a.off + 0) ∈ MemPlace.row a ((elems.length + rest.length) * P.cellsOf e) := by
        simp only [MemPlace.row, List.mem_map, List.mem_range]
        refine ⟨0, ?_, rfl⟩
        rw [hc, hlen]
        exact Nat.mul_pos (by omega) h0
      exact hlt _ (List.mem_append_left _ this)
    · have hj : j = j / c * c + j % c := by rw [Nat.mul_comm]; exact (Nat.div_add_mod j c).symm
      have hmod := Nat.mod_lt j h0
      rw [hj, flatten_get _ hall _ _ hmod, Option.bind_eq_some_iff] at hu
      obtain ⟨y, hy, hu⟩ := hu
      simp only [List.getElem?_map, Option.map_eq_some_iff] at hy
      obtain ⟨i, hi, rfl⟩ := hy
      obtain ⟨hil, hii⟩ := List.getElem?_eq_some_iff.1 hi
      simp at hii hil
      subst hii
      rw [hj, ← Addr.add_add, (World.cells?_some (hf _ hil)).2.2 _ hmod]
      exact hu
  · intro y hy
    simp only [List.mem_map, List.mem_range] at hy
    obtain ⟨i, hi, rfl⟩ := hy
    obtain ⟨y, z, h1, h2, h3⟩ := each i hi
    refine ⟨n, z, ?_, fun u hu => hlt u ?_⟩
    · rw [hf i hi] at h1
      cases h1
      exact h3
    · refine List.mem_append_right _ (List.mem_flatMap.2 ⟨z, ?_, hu⟩)
      exact List.mem_append_left _ (List.mem_of_getElem? h2)

theorem in_rows {t e : TypeId} {W : World} {v : Value} {d : DataW H} {ps : List MemPlace} {c : Nat} (ht : P.underlying t = some (.slice e)) (hc : P.cellsOf e = c) (h0 : 0 < c) (hlt : ∀ x ∈ ps, x.block < W.heap.size)
    (hv : ∃ a n c, v = .slice a n c) (h : DataW.Trod enc P W 0 (fun _ => true) true t v d ps) :
    ∃ ys : List (List Value), (∀ y ∈ ys, y.length = c) ∧ Reads W v ys.length c ys.flatten ∧
      (∀ y ∈ ys, ∃ f z, DataW.trod enc P W 0 (fun _ => true) true f e y = some z ∧ ∀ u ∈ z.2, u.block < W.heap.size) ∧ ys.length ≤ maxLen ∧ (ys = [] ∨ ∃ es sp, d = .slice es sp ∧ es.length = ys.length) ∧ (∀ a n c, v = .slice a n c → n ≤ c) := by
  obtain ⟨a0, len, cap, rfl⟩ := hv
  obtain ⟨fuel, hf⟩ := h
  obtain ⟨ys, v, hcs, r⟩ := rows_of ht hc h0 hlt hf
  simp [Value.cells] at hcs
  subst hcs
  exact ⟨ys, r⟩

/-- A field that is a whole number. -/
theorem field_int {k : IntKind} {ti : TypeId} {W : World} {y : List Value} {n i : Nat} {z : DataW H × List MemPlace} (hi : P.underlying ti = some (.int k)) (hci : P.cellsOf ti = 1)
    (h : DataW.trod enc P W 0 (fun _ => true) true n ti ((y.drop i).take (P.cellsOf ti)) = some z) : ∃ m, y[i]? = some (.int k m) ∧ (Lit.int k m).wf = true ∧ z = (.lit (.int k m), []) := by
  obtain ⟨m, hm, hz, hw⟩ := DataW.trod_int hi h
  refine ⟨m, ?_, hw, hz⟩
  rw [hci] at hm
  have : ((y.drop i).take 1)[0]? = some (Value.int k m) := by rw [hm]; rfl
  simpa [List.getElem?_take, List.getElem?_drop] using this

theorem two_ints {t ti : TypeId} {f0 f1 : Field} {k : IntKind} {W : World} {y : List Value} {fuel : Nat} {x : DataW H × List MemPlace} (ht : P.underlying t = some (.struct #[f0, f1])) (hc : P.cellsOf t = 2) (hi : P.underlying ti = some (.int k)) (hci : P.cellsOf ti = 1)
    (h0 : f0.type = ti ∧ f0.offset = 0) (h1 : f1.type = ti ∧ f1.offset = 1) (h : DataW.trod enc P W 0 (fun _ => true) true fuel t y = some x) : ∃ a b : Int, y = [.int k a, .int k b] ∧ (Lit.int k a).wf = true ∧ (Lit.int k b).wf = true := by
  obtain ⟨y0, y1, n, rfl, hl, e0, e1⟩ := trod_struct2 ht h
  rw [h0.1, h0.2] at e0
  rw [h1.1, h1.2] at e1
  obtain ⟨a, ha, wa, _⟩ := field_int hi hci e0
  obtain ⟨b, hb, wb, _⟩ := field_int hi hci e1
  refine ⟨a, b, ?_, wa, wb⟩
  rw [hc] at hl
  match y, hl with
  | [u, v], _ => simp at ha hb; rw [ha, hb]

/-- A slice of pairs of whole numbers that came in. -/
theorem in_pairs {t e ti : TypeId} {f0 f1 : Field} {k : IntKind} {W : World} {v : Value} {d : DataW H} {ps : List MemPlace} (ht : P.underlying t = some (.slice e)) (he : P.underlying e = some (.struct #[f0, f1])) (hc : P.cellsOf e = 2) (hi : P.underlying ti = some (.int k)) (hci : P.cellsOf ti = 1)
    (h0 : f0.type = ti ∧ f0.offset = 0) (h1 : f1.type = ti ∧ f1.offset = 1) (hlt : ∀ x ∈ ps, x.block < W.heap.size) (hv : ∃ a n c, v = .slice a n c) (h : DataW.Trod enc P W 0 (fun _ => true) true t v d ps) :
    ∃ xs : List (Int × Int), Reads W v xs.length 2 (xs.flatMap (fun x => [.int k x.1, .int k x.2])) ∧ xs.length ≤ maxLen ∧ (∀ x ∈ xs, (Lit.int k x.1).wf = true ∧ (Lit.int k x.2).wf = true) ∧ (∀ a n c, v = .slice a n c → n ≤ c) := by
  obtain ⟨ys, hl, hr, ha, hm, _, hcp⟩ := in_rows ht hc (by omega) hlt hv h
  have key : ∀ l : List (List Value), (∀ y ∈ l, y ∈ ys) → ∃ xs : List (Int × Int), xs.length = l.length ∧ xs.flatMap (fun x => [Value.int k x.1, .int k x.2]) = l.flatten ∧ ∀ x ∈ xs, (Lit.int k x.1).wf = true ∧ (Lit.int k x.2).wf = true := by
    intro l
    induction l with
    | nil => intro _; exact ⟨[], rfl, rfl, by simp⟩
    | cons y l ih =>
      intro hin
      obtain ⟨xs, e1, e2, e3⟩ := ih (fun z hz => hin z (List.mem_cons_of_mem _ hz))
      obtain ⟨f, z, hz, _⟩ := ha y (hin y List.mem_cons_self)
      obtain ⟨a, b, rfl, wa, wb⟩ := two_ints he hc hi hci h0 h1 hz
      refine ⟨(a, b) :: xs, by simp [e1], by simp [e2], ?_⟩
      intro x hx
      rcases List.mem_cons.1 hx with rfl | hx
      · exact ⟨wa, wb⟩
      · exact e3 x hx
  obtain ⟨xs, e1, e2, e3⟩ := key ys (fun _ h => h)
  exact ⟨xs, by rw [e1, e2]; exact hr, by omega, e3, hcp⟩
/-- A slice of booleans that came in. -/
theorem in_bools {t e : TypeId} {W : World} {v : Value} {d : DataW H} {ps : List MemPlace} (ht : P.underlying t = some (.slice e)) (he : P.underlying e = some .bool) (hc : P.cellsOf e = 1) (hlt : ∀ x ∈ ps, x.block < W.heap.size) (hv : ∃ a n c, v = .slice a n c) (h : DataW.Trod enc P W 0 (fun _ => true) true t v d ps) :
    ∃ bs : List Bool, Reads W v bs.length 1 (bs.map Value.bool) ∧ bs.length ≤ maxLen ∧ (∀ a n c, v = .slice a n c → n ≤ c) := by
  obtain ⟨ys, hl, hr, ha, hm, _, hcp⟩ := in_rows ht hc (by omega) hlt hv h
  have key : ∀ l : List (List Value), (∀ y ∈ l, y ∈ ys) → ∃ bs : List Bool, bs.length = l.length ∧ bs.map Value.bool = l.flatten := by
    intro l
    induction l with
    | nil => intro _; exact ⟨[], rfl, rfl⟩
    | cons y l ih =>
      intro hin
      obtain ⟨bs, e1, e2⟩ := ih (fun z hz => hin z (List.mem_cons_of_mem _ hz))
      obtain ⟨f, z, hz, _⟩ := ha y (hin y List.mem_cons_self)
      obtain ⟨b, rfl, _⟩ := DataW.trod_bool he hz
      exact ⟨b :: bs, by simp [e1], by simp [e2]⟩
  obtain ⟨bs, e1, e2⟩ := key ys (fun _ h => h)
  exact ⟨bs, by rw [e1, e2]; exact hr, by omega, hcp⟩
theorem intsOf {e : TypeId} {W : World} (he : P.underlying e = some (.int .i64)) : ∀ (ys : List (List Value)), (∀ y ∈ ys, ∃ f z, DataW.trod enc P W 0 (fun _ => true) true f e y = some z) → ∃ xs : List Int, xs.length = ys.length ∧ xs.map (Value.int .i64) = ys.flatten
  | [], _ => ⟨[], rfl, rfl⟩
  | y :: ys, h => by
    obtain ⟨xs, e1, e2⟩ := intsOf he ys (fun z hz => h z (List.mem_cons_of_mem _ hz))
    obtain ⟨f, z, hz⟩ := h y List.mem_cons_self
    obtain ⟨a, rfl, _, _⟩ := DataW.trod_int he hz
    exact ⟨a :: xs, by simp [e1], by simp [e2]⟩
end
end Go.Proofs.YtegcnkcjmebheaaDoor
