/-
  Costs that go down round by round until none does any more: they come to the least costs.
-/
import Derived.Test.YtbhmpbgoanmdlaaDoorDij
namespace Go.Proofs.YtbhmpbgoanmdlaaDoor

/-- One step asked: the costs behind it. -/
def Gr.down1 (G : Gr) (c : List Int) (t d : Nat) : List Int :=
  match G.go t d with
  | some (u, k) => if 0 ≤ cAt c u ∧ (cAt c t < 0 ∨ cAt c u + k < cAt c t) then c.set t (cAt c u + k) else c
  | none => c
/-- Costs that are no less than the least ones. -/
structure Bf (G : Gr) (gs : List Nat) (c : List Int) : Prop where
  len : c.length = G.fs.length
  low : ∀ t, cAt c t = -1 ∨ 0 ≤ cAt c t
  real : ∀ t, 0 ≤ cAt c t → Gr.To G gs t (cAt c t)
  goal : ∀ t ∈ gs, G.free t = true → cAt c t = 0
/-- A round that began with c0: tile i is asked, d of its directions have been. -/
structure Rnd (G : Gr) (gs : List Nat) (c0 c : List Int) (i d : Nat) (b : Bool) : Prop where
  bf : Bf G gs c
  down : ∀ t, 0 ≤ cAt c0 t → 0 ≤ cAt c t ∧ cAt c t ≤ cAt c0 t
  did : ∀ t e u k, (t < i ∨ t = i ∧ e < d) → G.go t e = some (u, k) → 0 ≤ cAt c0 u → 0 ≤ cAt c t ∧ cAt c t ≤ cAt c0 u + k
  same : b = false → c = c0
def wrongs (cs c : List Int) (n : Nat) : Nat := (List.range n).countP fun t => decide (cAt c t ≠ cAt cs t)
section
variable {G : Gr} {gs : List Nat} {c c0 cs : List Int}
theorem Bf.in {t : Nat} (h : Bf G gs c) (ht : G.free t = true) : t < c.length := by rw [h.len]; exact Gr.free_in ht
theorem Bf.set (h : Bf G gs c) {t d u : Nat} {k : Int} (hg : G.go t d = some (u, k)) (hu : 0 ≤ cAt c u) (hl : cAt c t < 0 ∨ cAt c u + k < cAt c t) : Bf G gs (c.set t (cAt c u + k)) := by
  have hf := (Gr.go_some hg).1
  have hp := Gr.go_pos hg
  have hs := fun v => cAt_set c t v (cAt c u + k) (h.in hf)
  refine ⟨by simpa using h.len, fun v => ?_, fun v => ?_, fun v h1 h2 => ?_⟩
  · rw [hs]; split
    · right; omega
    · exact h.low v
  · rw [hs]; split
    · rename_i e; subst e; intro _
      rw [Int.add_comm]
      exact .step hg (h.real u hu)
    · exact h.real v
  · rw [hs]; split
    · rename_i e; subst e
      have := h.goal t h1 h2
      omega
    · exact h.goal v h1 h2
theorem Rnd.start (h : Bf G gs c) : Rnd G gs c c 0 0 false := ⟨h, fun _ h => ⟨h, Int.le_refl _⟩, fun t e u k h => by omega, fun _ => rfl⟩
theorem Rnd.next {i : Nat} {b : Bool} (h : Rnd G gs c0 c i 8 b) : Rnd G gs c0 c (i + 1) 0 b := ⟨h.bf, h.down, fun t e u k ht hg => h.did t e u k (by have := (Gr.go_some hg).2.1; omega) hg, h.same⟩
theorem Rnd.no {i d : Nat} {b : Bool} (h : Rnd G gs c0 c i d b) (hn : G.go i d = none) : Rnd G gs c0 c i (d + 1) b :=
  ⟨h.bf, h.down, fun t e u k ht hg => by
    by_cases he : t = i ∧ e = d
    · obtain ⟨rfl, rfl⟩ := he; rw [hn] at hg; cases hg
    · exact h.did t e u k (by omega) hg, h.same⟩
theorem Rnd.pass {i d u : Nat} {k : Int} {b : Bool} (h : Rnd G gs c0 c i d b) (hg : G.go i d = some (u, k)) (hn : ¬ (0 ≤ cAt c u ∧ (cAt c i < 0 ∨ cAt c u + k < cAt c i))) : Rnd G gs c0 c i (d + 1) b :=
  ⟨h.bf, h.down, fun t e v j ht hg' h0 => by
    by_cases he : t = i ∧ e = d
    · obtain ⟨rfl, rfl⟩ := he; rw [hg] at hg'; cases hg'
      have := h.down u h0
      omega
    · exact h.did t e v j (by omega) hg' h0, h.same⟩
theorem Rnd.yes {i d u : Nat} {k : Int} {b : Bool} (h : Rnd G gs c0 c i d b) (hg : G.go i d = some (u, k)) (hu : 0 ≤ cAt c u) (hl : cAt c i < 0 ∨ cAt c u + k < cAt c i) : Rnd G gs c0 (c.set i (cAt c u + k)) i (d + 1) true := by
  have hf := (Gr.go_some hg).1
  have hp := Gr.go_pos hg
  have hs := fun v => cAt_set c i v (cAt c u + k) (h.bf.in hf)
  refine ⟨h.bf.set hg hu hl, fun t h0 => ?_, fun t e v j ht hg' h0 => ?_, fun e => by cases e⟩
  · have := h.down t h0
    rw [hs]; split
    · rename_i e; subst e; omega
    · exact this
  · rw [hs]
    split
    · rename_i e'; subst e'
      by_cases he : e = d
      · subst he; rw [hg] at hg'; cases hg'
        have := h.down u h0
        omega
      · have := h.did i e v j (by omega) hg' h0
        omega
    · rename_i e'
      exact h.did t e v j (by omega) hg' h0
/-- A round in which nothing changes: the least costs. -/
theorem Rnd.still (h : Rnd G gs c0 c G.fs.length 0 false) : Least G gs c := by
  have e := h.same rfl
  subst e
  refine ⟨h.bf.len, h.bf.low, h.bf.real, fun t k hT => ?_⟩
  induction hT with
  | goal h1 h2 => rw [h.bf.goal _ h1 h2]; omega
  | @step t d u c' k hg _ ih =>
    have := h.did t d u c' (.inl (Gr.free_in (Gr.go_some hg).1)) hg ih.1
    omega
theorem Bf.high (h : Bf G gs c) (hs : Least G gs cs) (t : Nat) (h0 : 0 ≤ cAt c t) : 0 ≤ cAt cs t ∧ cAt cs t ≤ cAt c t := hs.min t _ (h.real t h0)
theorem Rnd.keeps {i d : Nat} {b : Bool} (h : Rnd G gs c0 c i d b) (hs : Least G gs cs) {t : Nat} (e : cAt c0 t = cAt cs t) : cAt c t = cAt cs t := by
  rcases hs.low t with h1 | h1
  · rcases h.bf.low t with h2 | h2
    · omega
    · have := h.bf.high hs t h2; omega
  · have h2 := h.down t (by omega)
    have h3 := h.bf.high hs t h2.1
    omega
theorem countP_lt {p q : Nat → Bool} : ∀ (l : List Nat) (_ : ∀ t ∈ l, q t = true → p t = true) (_ : ∃ t ∈ l, p t = true ∧ q t = false), l.countP q < l.countP p
  | [], _, h => by obtain ⟨t, h, _⟩ := h; cases h
  | a :: l, h1, h2 => by
    simp only [List.countP_cons]
    have hle : l.countP q ≤ l.countP p := List.countP_mono_left (fun t ht => h1 t (List.mem_cons_of_mem _ ht))
    obtain ⟨t, ht, hp, hq⟩ := h2
    rcases List.mem_cons.1 ht with rfl | ht
    · rw [hp, hq]; simp; omega
    · have := countP_lt l (fun t ht => h1 t (List.mem_cons_of_mem _ ht)) ⟨t, ht, hp, hq⟩
      have ha := h1 a List.mem_cons_self
      cases hqa : q a with
      | true => rw [ha hqa]; simp; omega
      | false => simp; omega
/-- Each round puts one tile right, if one is wrong. -/
theorem Rnd.better {b : Bool} (h0 : Bf G gs c0) (h : Rnd G gs c0 c G.fs.length 0 b) (hs : Least G gs cs) : wrongs cs c G.fs.length < wrongs cs c0 G.fs.length ∨ c0 = cs := by
  by_cases hx : ∃ t, t < G.fs.length ∧ cAt c0 t ≠ cAt cs t ∧ cAt c t = cAt cs t
  · obtain ⟨t, h1, h2, h3⟩ := hx
    left
    unfold wrongs
    refine countP_lt _ (fun u _ hu => ?_) ⟨t, List.mem_range.2 h1, by simpa using h2, by simpa using h3⟩
    simp only [decide_eq_true_eq] at hu ⊢
    exact fun e => hu (h.keeps hs e)
  · right
    have H : ∀ t, t < G.fs.length → cAt c t = cAt cs t → cAt c0 t = cAt cs t := fun t ht e => by
      by_cases e0 : cAt c0 t = cAt cs t
      · exact e0
      · exact absurd ⟨t, ht, e0, e⟩ hx
    have key : ∀ (n : Nat) (t : Nat), t < G.fs.length → cAt cs t ≤ n → cAt c0 t = cAt cs t := by
      intro n
      induction n with
      | zero =>
        intro t ht hn
        rcases hs.low t with h1 | h1
        · rcases h0.low t with h2 | h2
          · omega
          · have := h0.high hs t h2; omega
        · have hz := hs.real t h1
          obtain ⟨k, hk⟩ : ∃ k, k = cAt cs t := ⟨_, rfl⟩
          rw [← hk] at hz
          cases hz with
          | goal a b => rw [h0.goal t a b]; exact hk
          | @step _ d u c' k' hg hT =>
            have := hT.free.2
            have := Gr.go_pos hg
            omega
      | succ n ih =>
        intro t ht hn
        rcases hs.low t with h1 | h1
        · exact ih t ht (by omega)
        · have hz := hs.real t h1
          obtain ⟨k, hk⟩ : ∃ k, k = cAt cs t := ⟨_, rfl⟩
          rw [← hk] at hz
          cases hz with
          | goal a b => rw [h0.goal t a b]; exact hk
          | @step _ d u c' k' hg hT =>
            have hp := Gr.go_pos hg
            have hu := hs.min u k' hT
            have hul : u < G.fs.length := by have := cAt_in hu.1; rwa [hs.len] at this
            have hr := ih u hul (by omega)
            have hd := h.did t d u c' (.inl ht) hg (by omega)
            have hh := h.bf.high hs t hd.1
            exact H t ht (by omega)
    apply List.ext_getElem?
    intro t
    by_cases ht : t < G.fs.length
    · rw [cAt_get (by rw [h0.len]; exact ht), cAt_get (by rw [hs.len]; exact ht), key (cAt cs t).toNat t ht (by omega)]
    · rw [List.getElem?_eq_none (by rw [h0.len]; omega), List.getElem?_eq_none (by rw [hs.len]; omega)]
theorem wrongs_le (cs c : List Int) (n : Nat) : wrongs cs c n ≤ n := by unfold wrongs; exact Nat.le_trans List.countP_le_length (by simp)
theorem wrongs_none (h : Bf G gs c) (hs : Least G gs cs) (h0 : wrongs cs c G.fs.length = 0) : c = cs := by
  unfold wrongs at h0
  rw [List.countP_eq_zero] at h0
  apply List.ext_getElem?
  intro t
  by_cases ht : t < G.fs.length
  · have := h0 t (List.mem_range.2 ht)
    rw [cAt_get (by rw [h.len]; exact ht), cAt_get (by rw [hs.len]; exact ht)]
    simpa using this
  · rw [List.getElem?_eq_none (by rw [h.len]; omega), List.getElem?_eq_none (by rw [hs.len]; omega)]
end
end Go.Proofs.YtbhmpbgoanmdlaaDoor
