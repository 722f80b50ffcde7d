/-
  Parts of slices that read as cells.
-/
import Derived.Test.YtegcnkcjmebheaaDoorLib
import Derived.DataElems
namespace Go.Proofs.YtegcnkcjmebheaaDoor
open Go Go.RowKit
/-- The tail and the head of what reads as cells. -/
theorem Reads.tail {w : World} {b off n cap size : Nat} {cs : List Value} (h : Reads w (.slice (some ⟨b, off, none⟩) n cap) n size cs) (k c' : Nat) (hk : k < n) : Reads w (.slice (some ⟨b, off + k * size, none⟩) (n - k) c') (n - k) size (cs.drop (k * size)) := by
  obtain ⟨ad, c, e, hl, hn, hc⟩ := h
  cases e
  refine ⟨_, _, rfl, by rw [List.length_drop, hl, Nat.sub_mul], (fun h => by cases h), ?_⟩
  rintro a ha
  cases ha
  refine ⟨fun h => (hc _ rfl).1 (by rcases Nat.eq_zero_or_pos size with e | e; simp [e] at h; exact Nat.mul_pos (by omega) e), fun j u hu => ?_⟩
  rw [List.getElem?_drop] at hu
  have := (hc _ rfl).2 _ _ hu
  have e : (⟨b, off + k * size, none⟩ : Addr).add j = (⟨b, off, none⟩ : Addr).add (k * size + j) := by
    unfold Addr.add
    split <;> split <;> simp_all <;> omega
  rw [e]
  exact this
/-- The tail, as the walk spells it, the empty one too. -/
theorem Reads.rest {w : World} {b off n cap size : Nat} {cs : List Value} (h : Reads w (.slice (some ⟨b, off, none⟩) n cap) n size cs) (k c' : Nat) (hk : k ≤ n) (hc : n ≤ cap) : Reads w (.slice (if cap = k then some ⟨b, off, none⟩ else some ⟨b, off + k * size, none⟩) (n - k) c') (n - k) size (cs.drop (k * size)) := by
  by_cases hkn : k < n
  · rw [if_neg (by omega)]
    exact h.tail k c' hkn
  · have e : n - k = 0 := by omega
    have hl := h.len
    have hd : cs.drop (k * size) = [] := List.drop_eq_nil_of_le (by rw [hl]; exact Nat.mul_le_mul_right _ (by omega))
    rw [e, hd]
    by_cases hck : cap = k
    · rw [if_pos hck]
      exact ⟨_, _, rfl, by simp, (fun h => by cases h), fun a _ => ⟨fun h => by simp at h, fun j u hu => by simp at hu⟩⟩
    · rw [if_neg hck]
      exact ⟨_, _, rfl, by simp, (fun h => by cases h), fun a _ => ⟨fun h => by simp at h, fun j u hu => by simp at hu⟩⟩
theorem Reads.head {w : World} {b off n cap size : Nat} {cs : List Value} (h : Reads w (.slice (some ⟨b, off, none⟩) n cap) n size cs) (k c' : Nat) (hk : k ≤ n) : Reads w (.slice (some ⟨b, off, none⟩) k c') k size (cs.take (k * size)) := by
  obtain ⟨ad, c, e, hl, hn, hc⟩ := h
  cases e
  refine ⟨_, _, rfl, by rw [List.length_take, hl]; exact Nat.min_eq_left (Nat.mul_le_mul_right _ hk), (fun h => by cases h), ?_⟩
  rintro a ha
  cases ha
  refine ⟨fun h => (hc _ rfl).1 (Nat.lt_of_lt_of_le h (Nat.mul_le_mul_right _ hk)), fun j u hu => ?_⟩
  rw [List.getElem?_take] at hu
  split at hu
  · exact (hc _ rfl).2 _ _ hu
  · cases hu
end Go.Proofs.YtegcnkcjmebheaaDoor
