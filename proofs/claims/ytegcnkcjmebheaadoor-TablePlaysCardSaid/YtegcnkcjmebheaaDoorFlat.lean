/-
  Rows of structs as cells.
-/
import Derived.Test.YtegcnkcjmebheaaDoorStar
namespace Go.Proofs.YtegcnkcjmebheaaDoor
open Go Go.RowKit

section
variable {α : Type} {k : Nat} (h : α → List Value) (hk : ∀ x, (h x).length = k)
include hk
theorem rows_len (xs : List α) : (xs.flatMap h).length = xs.length * k := by
  induction xs with
  | nil => simp
  | cons x xs ih => rw [List.flatMap_cons, List.length_append, hk, ih, List.length_cons, Nat.succ_mul]; omega
theorem rows_get (xs : List α) (i j : Nat) (x : α) (hx : xs[i]? = some x) (hj : j < k) : (xs.flatMap h)[i * k + j]? = (h x)[j]? := by
  induction xs generalizing i with
  | nil => simp at hx
  | cons y xs ih =>
    rw [List.flatMap_cons]
    cases i with
    | zero => simp at hx; subst hx; rw [Nat.zero_mul, Nat.zero_add, List.getElem?_append_left (by rw [hk]; exact hj)]
    | succ i =>
      rw [List.getElem?_append_right (by rw [hk, Nat.succ_mul]; omega), hk, show (i + 1) * k + j - k = i * k + j by rw [Nat.succ_mul]; omega]
      exact ih i (by simpa using hx)
theorem rows_take (xs : List α) (i : Nat) : (xs.flatMap h).take (i * k) = (xs.take i).flatMap h := by
  induction xs generalizing i with
  | nil => simp
  | cons y xs ih =>
    cases i with
    | zero => simp
    | succ i =>
      rw [List.flatMap_cons, List.take_succ_cons, List.flatMap_cons, List.take_append, hk, show (i + 1) * k - k = i * k by rw [Nat.succ_mul]; omega, ih, List.take_of_length_le (by rw [hk, Nat.succ_mul]; omega)]
theorem rows_drop (xs : List α) (i : Nat) : (xs.flatMap h).drop (i * k) = (xs.drop i).flatMap h := by
  induction xs generalizing i with
  | nil => simp
  | cons y xs ih =>
    cases i with
    | zero => simp
    | succ i =>
      rw [List.flatMap_cons, List.drop_succ_cons, List.drop_append, hk, show (i + 1) * k - k = i * k by rw [Nat.succ_mul]; omega, ih, List.drop_of_length_le (by rw [hk, Nat.succ_mul]; omega), List.nil_append]
/-- One cell of a row is stored. -/
theorem rows_set1 (xs : List α) (i j : Nat) (x y : α) (u : Value) (hx : xs[i]? = some x) (hj : j < k) (hy : (h x).set j u = h y) : (xs.flatMap h).set (i * k + j) u = (xs.set i y).flatMap h := by
  induction xs generalizing i with
  | nil => simp at hx
  | cons z xs ih =>
    cases i with
    | zero =>
      simp at hx; subst hx
      rw [List.set_cons_zero, List.flatMap_cons, List.flatMap_cons, Nat.zero_mul, Nat.zero_add, List.set_append_left _ _ (by rw [hk]; exact hj), hy]
    | succ i =>
      rw [List.set_cons_succ, List.flatMap_cons, List.flatMap_cons, List.set_append_right _ _ (by rw [hk, Nat.succ_mul]; omega), hk, show (i + 1) * k + j - k = i * k + j by rw [Nat.succ_mul]; omega, ih i (by simpa using hx)]
end
theorem rows_one {α : Type} (h : α → List Value) (h1 : ∀ x, ∀ u ∈ h x, u.oneCell' = true) (xs : List α) : ∀ u ∈ xs.flatMap h, u.oneCell' = true := by
  intro u hu
  obtain ⟨x, _, hx⟩ := List.mem_flatMap.1 hu
  exact h1 x u hx

end Go.Proofs.YtegcnkcjmebheaaDoor
