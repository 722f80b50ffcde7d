/-
  What a row's list of the ten errors gives.
-/
import Derived.Test.YtegcnkcjmebheaaDoorFrame
import Derived.Test.YtegcnkcjmebheaaDoorErr
namespace Go.Proofs.YtegcnkcjmebheaaDoor
open Go Go.RowKit Go.ChangeShapes Go.WideShapes Go.ChangeAt

theorem laid_tail {P : Program} {W : World} {x : String × DataW Unit} {r : List (String × DataW Unit)} {ps : List MemPlace} (h : DataW.LaidVars P W (x :: r) ps ∧ ps.Nodup ∧
    (∀ b off, MemPlace.cell b off ∈ ps → (∃ c t, W.heap[b]? = some (.cells c t (0, 0))) ∧ ∀ u v, W.cell? ⟨b, off, none⟩ = some (.iface u v) → Value.okWide P W .any 0 u v)) :
    ∃ q, DataW.LaidVars P W r q ∧ q.Nodup ∧ (∀ b off, MemPlace.cell b off ∈ q → (∃ c t, W.heap[b]? = some (.cells c t (0, 0))) ∧ ∀ u v, W.cell? ⟨b, off, none⟩ = some (.iface u v) → Value.okWide P W .any 0 u v) := by
  obtain ⟨h, hnd, hrows⟩ := h
  obtain ⟨n, d⟩ := x
  obtain ⟨g, t, cs, fuel, p, q, _, _, _, _, hq, rfl⟩ := h
  exact ⟨q, hq, List.Nodup.sublist (List.sublist_append_right _ _) hnd, fun b off hm => hrows b off (List.mem_append_right _ hm)⟩

theorem errs_of {W : World} {ps : List MemPlace} {t0 t1 t2 t3 t4 t5 t6 t7 t8 t9 : List UInt8} {r : List (String × DataW Unit)}
    (h : DataW.LaidVars Tryd.prog W ([("paddock/api.ErrRange", errD "*errors.errorString" t0), ("paddock/api.ErrFull", errD "*errors.errorString" t1), ("paddock/api.ErrNone", errD "*errors.errorString" t2), ("paddock/api.ErrExists", errD "*errors.errorString" t3), ("paddock/api.ErrKind", errD "*errors.errorString" t4), ("paddock/api.ErrState", errD "*errors.errorString" t5), ("paddock/api.ErrForm", errD "*errors.errorString" t6), ("paddock/api.ErrBlocked", errD "*errors.errorString" t7), ("paddock/api.ErrPath", errD "*errors.errorString" t8), ("paddock/api.ErrGoal", errD "*errors.errorString" t9)] ++ r) ps) (hnd : ps.Nodup)
    (hrows : ∀ b off, MemPlace.cell b off ∈ ps → (∃ c t, W.heap[b]? = some (.cells c t (0, 0))) ∧ ∀ u v, W.cell? ⟨b, off, none⟩ = some (.iface u v) → Value.okWide Tryd.prog W .any 0 u v) : ∃ ad, Err.Errs W ad := by
  obtain ⟨ads, hal, hn, _, hse⟩ := sents_of errT [("paddock/api.ErrRange", 2, t0), ("paddock/api.ErrFull", 3, t1), ("paddock/api.ErrNone", 4, t2), ("paddock/api.ErrExists", 5, t3), ("paddock/api.ErrKind", 0, t4), ("paddock/api.ErrState", 6, t5), ("paddock/api.ErrForm", 1, t6), ("paddock/api.ErrBlocked", 7, t7), ("paddock/api.ErrPath", 8, t8), ("paddock/api.ErrGoal", 9, t9)] (r := r) h hnd hrows
    (by intro x hx; simp only [List.mem_cons, List.not_mem_nil, or_false] at hx; rcases hx with rfl | rfl | rfl | rfl | rfl | rfl | rfl | rfl | rfl | rfl <;> exact ⟨by kernel_rfl, by kernel_rfl⟩)
  have hl : ads.length = 10 := hal
  have hg : ∀ k, k < 10 → ads[k]? = some (ads.getD k ⟨0, 0, none⟩) := by
    intro k hk
    rw [List.getD_eq_getElem?_getD, List.getElem?_eq_getElem (by omega)]
    rfl
  refine ⟨fun k => ads.getD k ⟨0, 0, none⟩, (hse 0 _ _ rfl (hg 0 (by omega))).cell, (hse 1 _ _ rfl (hg 1 (by omega))).cell, (hse 2 _ _ rfl (hg 2 (by omega))).cell, (hse 3 _ _ rfl (hg 3 (by omega))).cell, (hse 4 _ _ rfl (hg 4 (by omega))).cell, (hse 5 _ _ rfl (hg 5 (by omega))).cell, (hse 6 _ _ rfl (hg 6 (by omega))).cell, (hse 7 _ _ rfl (hg 7 (by omega))).cell, (hse 8 _ _ rfl (hg 8 (by omega))).cell, (hse 9 _ _ rfl (hg 9 (by omega))).cell, ?_, ?_⟩
  · intro k hk
    have hx : k < [("paddock/api.ErrRange", 2, t0), ("paddock/api.ErrFull", 3, t1), ("paddock/api.ErrNone", 4, t2), ("paddock/api.ErrExists", 5, t3), ("paddock/api.ErrKind", 0, t4), ("paddock/api.ErrState", 6, t5), ("paddock/api.ErrForm", 1, t6), ("paddock/api.ErrBlocked", 7, t7), ("paddock/api.ErrPath", 8, t8), ("paddock/api.ErrGoal", 9, t9)].length := hk
    exact (hse k _ _ (List.getElem?_eq_getElem hx) (hg k hk)).blk
  · intro i j hi hj e
    have e' : ads[i]? = ads[j]? := by rw [hg i hi, hg j hj]; exact congrArg some e
    rw [List.getElem?_eq_getElem (by omega), List.getElem?_eq_getElem (by omega)] at e'
    have e2 := Option.some.inj e'
    have hp := List.pairwise_iff_getElem.1 hn
    rcases Nat.lt_trichotomy i j with h | h | h
    · exact absurd e2 (hp i j (by omega) (by omega) h)
    · exact h
    · exact absurd e2.symm (hp j i (by omega) (by omega) h)
end Go.Proofs.YtegcnkcjmebheaaDoor
