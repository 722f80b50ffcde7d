/-
  The order of entries, and rows in which each entry is at most those at its two places below: plain lemmas.
-/
import Derived.Test.YtilobedihjkpjaaDoorHeap
namespace Go.Proofs.YtilobedihjkpjaaDoor.Hp

/-- At most. -/
def le (a b : Int × Int) : Prop := ah b a = false
theorem ah_iff (a b : Int × Int) : ah a b = true ↔ a.1 < b.1 ∨ (a.1 = b.1 ∧ a.2 < b.2) := by simp [ah]
theorem le_iff (a b : Int × Int) : le a b ↔ a.1 < b.1 ∨ (a.1 = b.1 ∧ a.2 ≤ b.2) := by
  unfold le
  rw [Bool.eq_false_iff, ne_eq, ah_iff]
  omega
theorem le_refl (a : Int × Int) : le a a := by rw [le_iff]; omega
theorem le_trans {a b c : Int × Int} (h : le a b) (k : le b c) : le a c := by rw [le_iff] at *; omega
theorem le_of_ah {a b : Int × Int} (h : ah a b = true) : le a b := by rw [le_iff]; rw [ah_iff] at h; omega
theorem le_antisymm {a b : Int × Int} (h : le a b) (k : le b a) : a = b := by
  rw [le_iff] at *
  exact Prod.ext (by omega) (by omega)
theorem le_total (a b : Int × Int) : le a b ∨ le b a := by rw [le_iff, le_iff]; omega

/-- The entry at a place. -/
def at_ (es : List (Int × Int)) (k : Nat) : Int × Int := es.getD k (0, 0)
theorem at_eq {es : List (Int × Int)} {k : Nat} (h : k < es.length) : es[k]? = some (at_ es k) := by simp [at_, List.getD, h]
def par (k : Nat) : Nat := (k - 1) / 2

def IsHeap (es : List (Int × Int)) : Prop := ∀ k, 0 < k → k < es.length → le (at_ es (par k)) (at_ es k)
def UpInv (es : List (Int × Int)) (i : Nat) : Prop :=
  (∀ k, 0 < k → k < es.length → k ≠ i → le (at_ es (par k)) (at_ es k)) ∧ (∀ k, 0 < i → 0 < k → k < es.length → par k = i → le (at_ es (par i)) (at_ es k))
def DownInv (es : List (Int × Int)) (i : Nat) : Prop :=
  (∀ k, 0 < k → k < es.length → par k ≠ i → le (at_ es (par k)) (at_ es k)) ∧ (∀ k, 0 < i → 0 < k → k < es.length → par k = i → le (at_ es (par i)) (at_ es k))

/-- Two entries change places. -/
def swp (es : List (Int × Int)) (i j : Nat) : List (Int × Int) := (es.set i (at_ es j)).set j (at_ es i)
theorem swp_length (es : List (Int × Int)) (i j : Nat) : (swp es i j).length = es.length := by simp [swp]
theorem swp_at (es : List (Int × Int)) (i j k : Nat) (hi : i < es.length) (hj : j < es.length) : at_ (swp es i j) k = if k = j then at_ es i else if k = i then at_ es j else at_ es k := by
  unfold swp at_
  simp only [List.getD_eq_getElem?_getD, List.getElem?_set, List.length_set]
  by_cases h1 : k = j
  · subst h1; simp [hj]
  · rw [if_neg (fun e => h1 e.symm), if_neg h1]
    by_cases h2 : k = i
    · subst h2; simp [hi]
    · rw [if_neg (fun e => h2 e.symm), if_neg h2]

theorem set_swap_perm {α : Type} : ∀ (l : List α) (i j : Nat) (a b : α), i < j → l[i]? = some a → l[j]? = some b → ((l.set i b).set j a).Perm l
  | [], i, j, a, b, _, h, _ => by simp at h
  | x :: l, 0, j + 1, a, b, _, hi, hj => by
    simp at hi hj
    subst hi
    simp only [List.set_cons_zero, List.set_cons_succ]
    have := List.getElem?_eq_some_iff.1 hj
    obtain ⟨hjl, rfl⟩ := this
    clear hj
    induction l generalizing j x with
    | nil => simp at hjl
    | cons y l ih =>
      cases j with
      | zero => simp; exact List.Perm.swap _ _ _
      | succ j =>
        simp only [List.getElem_cons_succ, List.set_cons_succ]
        have := ih x j (Nat.succ_pos _) (by simp at hjl; omega)
        exact (List.Perm.swap _ _ _).trans ((this.cons y).trans (List.Perm.swap _ _ _))
  | x :: l, i + 1, j + 1, a, b, h, hi, hj => by
    simp at hi hj
    simp only [List.set_cons_succ]
    exact (set_swap_perm l i j a b (by omega) hi hj).cons x

theorem swp_perm (es : List (Int × Int)) (i j : Nat) (hi : i < es.length) (hj : j < es.length) : (swp es i j).Perm es := by
  rcases Nat.lt_trichotomy i j with h | h | h
  · exact set_swap_perm es i j _ _ h (at_eq hi) (at_eq hj)
  · subst h
    have e : swp es i i = es := by
      unfold swp
      rw [List.set_set]
      apply List.ext_getElem?
      intro k
      rw [List.getElem?_set]
      split
      · rename_i h; subst h; exact (at_eq hi).symm
      · rfl
    rw [e]
  · unfold swp
    rw [List.set_comm _ _ (by omega)]
    exact set_swap_perm es j i _ _ h (at_eq hj) (at_eq hi)

theorem up_step (es : List (Int × Int)) (i : Nat) (h : UpInv es i) (hi : 0 < i) (hl : i < es.length) (ha : ah (at_ es i) (at_ es (par i)) = true) : UpInv (swp es (par i) i) (par i) := by
  have hp : par i < i := by unfold par; omega
  have hpl : par i < es.length := by omega
  constructor
  · intro k hk hkl hne
    rw [swp_length] at hkl
    rw [swp_at _ _ _ _ hpl hl, swp_at _ _ _ _ hpl hl]
    by_cases h1 : k = i
    · subst h1
      rw [if_pos rfl, if_neg (by omega), if_pos rfl]
      exact le_of_ah ha
    · rw [if_neg h1, if_neg hne]
      by_cases h2 : par k = i
      · rw [if_pos h2]
        exact h.2 k hi hk hkl h2
      · rw [if_neg h2]
        by_cases h3 : par k = par i
        · rw [if_pos h3]
          have := h.1 k hk hkl h1
          rw [h3] at this
          exact le_trans (le_of_ah ha) this
        · rw [if_neg h3]
          exact h.1 k hk hkl h1
  · intro k hpi hk hkl hpk
    rw [swp_length] at hkl
    have hpp : par (par i) < par i := by unfold par at *; omega
    rw [swp_at _ _ _ _ hpl hl, swp_at _ _ _ _ hpl hl, if_neg (by omega), if_neg (by omega)]
    have h0 := h.1 (par i) hpi hpl (by omega)
    by_cases h1 : k = i
    · subst h1
      rw [if_pos rfl]
      exact h0
    · rw [if_neg h1, if_neg (by unfold par at *; omega)]
      have := h.1 k hk hkl h1
      rw [hpk] at this
      exact le_trans h0 this

theorem up_end (es : List (Int × Int)) (i : Nat) (h : UpInv es i) (he : i = 0 ∨ ah (at_ es i) (at_ es (par i)) = false) : IsHeap es := by
  intro k hk hkl
  by_cases h1 : k = i
  · subst h1
    rcases he with he | he
    · omega
    · exact he
  · exact h.1 k hk hkl h1

/-- The lesser one of the places below. -/
theorem down_step (es : List (Int × Int)) (i c : Nat) (h : DownInv es i) (hc : c = 2 * i + 1 ∨ c = 2 * i + 2) (hl : c < es.length) (hm : ∀ k, k < es.length → (k = 2 * i + 1 ∨ k = 2 * i + 2) → le (at_ es c) (at_ es k))
    (ha : ah (at_ es c) (at_ es i) = true) : DownInv (swp es i c) c := by
  have hpc : par c = i := by unfold par; omega
  have hil : i < es.length := by omega
  have hic : i < c := by omega
  constructor
  · intro k hk hkl hne
    rw [swp_length] at hkl
    rw [swp_at _ _ _ _ hil hl, swp_at _ _ _ _ hil hl, if_neg hne]
    by_cases h1 : k = c
    · subst h1
      rw [if_pos rfl, hpc, if_pos rfl]
      exact le_of_ah ha
    · rw [if_neg h1]
      by_cases h2 : par k = i
      · rw [if_pos h2, if_neg (by unfold par at h2; omega)]
        exact hm k hkl (by unfold par at h2; omega)
      · rw [if_neg h2]
        by_cases h3 : k = i
        · subst h3
          rw [if_pos rfl]
          exact h.2 c hk (by omega) hl hpc
        · rw [if_neg h3]
          exact h.1 k hk hkl h2
  · intro k _ hk hkl hpk
    rw [swp_length] at hkl
    have hkc : c < k := by unfold par at hpk; omega
    rw [swp_at _ _ _ _ hil hl, swp_at _ _ _ _ hil hl, hpc, if_neg (by omega), if_pos rfl, if_neg (by omega), if_neg (by omega)]
    have := h.1 k hk hkl (by omega)
    rw [hpk] at this
    exact this

theorem down_end (es : List (Int × Int)) (i : Nat) (h : DownInv es i) (he : ∀ k, k < es.length → (k = 2 * i + 1 ∨ k = 2 * i + 2) → le (at_ es i) (at_ es k)) : IsHeap es := by
  intro k hk hkl
  by_cases h1 : par k = i
  · rw [h1]; exact he k hkl (by unfold par at h1; omega)
  · exact h.1 k hk hkl h1

theorem push_up (es : List (Int × Int)) (e : Int × Int) (h : IsHeap es) : UpInv (es ++ [e]) es.length := by
  have hat : ∀ k, k < es.length → at_ (es ++ [e]) k = at_ es k := by intro k hk; simp [at_, List.getD, List.getElem?_append_left hk]
  constructor
  · intro k hk hkl hne
    have hkl' : k < es.length := by simp at hkl; omega
    rw [hat k hkl', hat (par k) (by unfold par; omega)]
    exact h k hk hkl'
  · intro k _ hk hkl hpk
    simp at hkl
    unfold par at hpk
    omega

/-- The first entry is the least. -/
theorem least (es : List (Int × Int)) (h : IsHeap es) : ∀ k, k < es.length → le (at_ es 0) (at_ es k) := by
  intro k
  induction k using Nat.strongRecOn with
  | _ k ih =>
    intro hk
    by_cases h0 : k = 0
    · subst h0; exact le_refl _
    · have hp : par k < k := by unfold par; omega
      exact le_trans (ih (par k) hp (by omega)) (h k (by omega) hk)
theorem least_mem (es : List (Int × Int)) (h : IsHeap es) (e : Int × Int) (he : e ∈ es) : le (at_ es 0) e := by
  obtain ⟨k, hk, rfl⟩ := List.mem_iff_getElem.1 he
  have := least es h k hk
  simpa [at_, List.getD, hk] using this

/-- The last entry comes to the first place. -/
def popped (es : List (Int × Int)) : List (Int × Int) := (es.set 0 (at_ es (es.length - 1))).take (es.length - 1)
theorem pop_down (es : List (Int × Int)) (h : IsHeap es) : DownInv (popped es) 0 := by
  constructor
  · intro k hk hkl hne
    have hkl' : k < es.length - 1 := by simp [popped] at hkl; omega
    have hat : ∀ j, 0 < j → j < es.length - 1 → at_ (popped es) j = at_ es j := by
      intro j hj hjl
      simp only [at_, popped, List.getD_eq_getElem?_getD, List.getElem?_take, hjl, if_true]
      rw [List.getElem?_set_ne (by omega)]
    rw [hat k hk hkl', hat (par k) (by unfold par at *; omega) (by unfold par; omega)]
    exact h k hk (by omega)
  · intro k h0; omega
theorem popped_perm (es : List (Int × Int)) (h : 0 < es.length) : (at_ es 0 :: popped es).Perm es := by
  obtain ⟨n, hn⟩ : ∃ n, es.length = n + 1 := ⟨es.length - 1, by omega⟩
  unfold popped
  rw [hn, Nat.add_sub_cancel]
  cases es with
  | nil => simp at hn
  | cons x es =>
    simp at hn
    cases n with
    | zero => have : es = [] := List.eq_nil_of_length_eq_zero hn; subst this; simp [at_]
    | succ n =>
      have hl : at_ (x :: es) (n + 1) = at_ es n := by simp [at_]
      rw [hl]
      simp only [List.set_cons_zero, List.take_succ_cons]
      have e : es = es.take n ++ [at_ es n] := by
        rw [← List.take_append_drop n es]
        have hd : es.drop n = [at_ es n] := by
          rw [List.drop_eq_getElem_cons (by omega), List.drop_of_length_le (by omega)]
          simp [at_, List.getD, show n < es.length by omega]
        rw [hd, List.take_append_of_le_length (by simp; omega), List.take_take, Nat.min_self]
        congr 2
        rw [← hd, List.take_append_drop]
      have hx : at_ (x :: es) 0 = x := rfl
      rw [hx]
      refine List.Perm.cons x ?_
      refine List.Perm.trans (List.perm_append_comm (l₁ := [at_ es n]) (l₂ := es.take n)) ?_
      rw [← e]
end Go.Proofs.YtilobedihjkpjaaDoor.Hp
