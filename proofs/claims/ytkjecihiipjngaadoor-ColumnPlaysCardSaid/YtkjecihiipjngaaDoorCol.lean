/-
  A column, as it lies in memory: words and plain lemmas.
-/
import Derived.Test.YtkjecihiipjngaaDoorProg
import Derived.Test.YtkjecihiipjngaaDoorLib
namespace Go.Proofs.YtkjecihiipjngaaDoor
open Go Go.RowKit

/-- A column: its block holds the slice v and the number m; v owns the cells xs. -/
structure Col (T E : TypeId) (w : World) (p : Nat) (v : Value) (xs : List Value) (m : Int) : Prop where
  blk : w.heap[p]? = some (.cells #[v, .int .i64 m] T (0, 0))
  own : w.ownsRow 0 E 1 v xs.length xs
  ne : v.ownBlock ≠ some p

theorem Col.c0 {T E w p v xs m} (h : Col T E w p v xs m) : w.cell? ⟨p, 0, none⟩ = some v := by simp [World.cell?, h.blk]
theorem Col.c1 {T E w p v xs m} (h : Col T E w p v xs m) : w.cell? ⟨p, 1, none⟩ = some (.int .i64 m) := by simp [World.cell?, h.blk]
theorem Col.f {T E w p v xs m} (h : Col T E w p v xs m) (j : Nat) : w.frozen? ⟨p, j, none⟩ = false := by simp [World.frozen?, h.blk]
theorem Col.lt {T E w p v xs m} (h : Col T E w p v xs m) : p < w.heap.size := (Array.getElem?_eq_some_iff.1 h.blk).1
theorem Col.shape {T E w p v xs m} (h : Col T E w p v xs m) : ∃ a c, v = .slice a xs.length c := by
  rcases h.own.2 with ⟨h, h'⟩ | ⟨g, c, cur, h, _⟩
  · exact ⟨none, 0, by rw [h, h']⟩
  · exact ⟨_, c, h⟩
theorem Col.max {T E w p v xs m} (h : Col T E w p v xs m) : xs.length ≤ 9223372036854775807 := by
  rcases h.own.2 with ⟨_, h'⟩ | ⟨g, c, cur, _, _, _, h1, h2, _⟩
  · omega
  · unfold maxLen at h2; omega

/-- What a call may have changed of a column whose slice is v. -/
abbrev ColS (p : Nat) (v : Value) (k : Nat) : Prop := k = p ∨ some k = v.ownBlock

/-- Behind a change elsewhere, and a store of the new slice. -/
theorem Col.store {T E : TypeId} {w w1 : World} {p : Nat} {v v' : Value} {xs xs' : List Value} {m : Int} (h : Col T E w p v xs m) (hc : Chg (fun k => some k = v.ownBlock) w w1) (ho : w1.ownsRow 0 E 1 v' xs'.length xs')
    (hv : NewOr w v v') : Col T E (w1.setCell ⟨p, 0, none⟩ v') p v' xs' m ∧ Chg (ColS p v) w (w1.setCell ⟨p, 0, none⟩ v') := by
  have hne : v'.ownBlock ≠ some p := by
    rcases hv with hv | hv
    · rw [hv]; exact h.ne
    · intro e; have := hv p e; have := h.lt; omega
  have hb := hc.heap h.blk (fun e => h.ne e.symm)
  refine ⟨⟨?_, ?_, hne⟩, (hc.mono (fun k _ h => .inr h)).setCell _ _ (fun _ => .inl rfl)⟩
  · rw [set_same hb]; simp
  · exact own_chg (S := fun k => k = p) ho ((Chg.refl _).setCell _ _ (fun _ => rfl)) (fun k e f => hne (by rw [e, f]))

/-- What is left when the thing at i is taken out. -/
def takeOut {α : Type} (xs : List α) (i : Nat) : List α := match xs.getLast? with
  | some y => (xs.set i y).dropLast
  | none => []

theorem Col.chg {S : Nat → Prop} {T E : TypeId} {w w' : World} {p : Nat} {v : Value} {xs : List Value} {m : Int} (h : Col T E w p v xs m) (hc : Chg S w w') (hn : ∀ k, ColS p v k → ¬ S k) : Col T E w' p v xs m :=
  ⟨hc.heap h.blk (hn p (.inl rfl)), own_chg h.own hc (fun k e => hn k (.inr e.symm)), h.ne⟩

/-- A new column's block behind a new slice. -/
theorem Col.made {T E : TypeId} {w w1 : World} {v : Value} {xs : List Value} {m : Int} (hf : Fresh w w1 E 1 v xs.length xs) (hs : Same w w1) :
    Col T E (w1.alloc (.cells #[v, .int .i64 m] T)) w1.heap.size v xs m ∧ Same w (w1.alloc (.cells #[v, .int .i64 m] T)) ∧ ∀ k, ColS w1.heap.size v k → w.heap.size ≤ k := by
  refine ⟨⟨alloc_new _ _, own_chg (S := fun _ => False) hf.1 ((Chg.refl _).alloc _) (fun _ _ f => f), ?_⟩, hs.alloc _, ?_⟩
  · intro e; have := hf.1.lt _ e; omega
  · rintro k (rfl | e)
    · exact hs.size
    · exact hf.2 k e.symm

theorem ColS.new {w : World} {p : Nat} {v : Value} (hp : w.heap.size ≤ p) (hv : After w v) : ∀ i, ColS p v i → w.heap.size ≤ i := by
  rintro i (rfl | h)
  · exact hp
  · exact hv i h.symm

theorem set_perm {α : Type} (y : α) : ∀ (l : List α) (i : Nat) (x : α), l[i]? = some x → (x :: l.set i y).Perm (y :: l)
  | [], i, x, h => by simp at h
  | a :: l, 0, x, h => by simp at h; subst h; exact List.Perm.swap _ _ _
  | a :: l, i + 1, x, h => by
    simp only [List.getElem?_cons_succ] at h
    have := set_perm y l i x h
    simp only [List.set_cons_succ]
    exact (List.Perm.swap _ _ _).trans ((this.cons a).trans (List.Perm.swap _ _ _))

theorem takeOut_perm {α : Type} (xs : List α) (i : Nat) (x : α) (h : xs[i]? = some x) : (x :: takeOut xs i).Perm xs := by
  rcases List.eq_nil_or_concat xs with rfl | ⟨l, y, rfl⟩
  · simp at h
  · rw [List.concat_eq_append] at *
    have e : (l ++ [y]).getLast? = some y := by simp
    unfold takeOut
    rw [e]
    simp only
    by_cases hi : i < l.length
    · rw [List.set_append_left _ _ hi, List.dropLast_concat]
      rw [List.getElem?_append_left hi] at h
      exact (set_perm y l i x h).trans (List.perm_append_comm (l₁ := [y]))
    · have hi' : i = l.length := by have := (List.getElem?_eq_some_iff.1 h).1; simp at this; omega
      subst hi'
      simp at h
      subst h
      rw [List.set_append_right _ _ (Nat.le_refl _)]
      simp only [Nat.sub_self, List.set_cons_zero, List.dropLast_concat]
      exact List.perm_append_comm (l₁ := [y])

theorem takeOut_map {α β : Type} (f : α → β) (xs : List α) (i : Nat) : takeOut (xs.map f) i = (takeOut xs i).map f := by
  unfold takeOut
  rw [List.getLast?_map]
  cases xs.getLast? with
  | none => rfl
  | some y => simp [List.map_set, List.map_dropLast]

end Go.Proofs.YtkjecihiipjngaaDoor
