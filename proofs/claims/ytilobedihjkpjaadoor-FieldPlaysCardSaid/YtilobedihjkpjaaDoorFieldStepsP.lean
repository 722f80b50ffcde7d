/-
  FieldSteps in plain Lean: what each tile's cell and those around it tell.
-/
import Derived.Test.YtilobedihjkpjaaDoorFieldNearest
namespace Go.Proofs.YtilobedihjkpjaaDoor
section
variable {G : Gr} {c : List Int} {gs : List Nat}
theorem Gr.around_rise (G : Gr) (t : Nat) : (G.around t).Pairwise (fun x y => x.d < y.d) := by
  unfold Gr.around
  refine List.Pairwise.filterMap _ (R := (· < ·)) ?_ List.pairwise_lt_range
  intro a b hab x hx y hy
  have h1 : ∀ {d : Nat} {z : Gr.St}, z ∈ G.step t d → z.d = d := by
    intro d z hz
    unfold Gr.step at hz
    obtain ⟨p, _, rfl⟩ := Option.map_eq_some_iff.1 hz
    rfl
  rw [h1 hx, h1 hy]
  exact hab
theorem findRise {p : Gr.St → Bool} : ∀ {l : List Gr.St} (_ : l.Pairwise (fun x y => x.d < y.d)) {a : Gr.St} (_ : a ∈ l) (_ : p a = true), ∃ x, l.find? p = some x ∧ x ∈ l ∧ p x = true ∧ (x = a ∨ x.d < a.d) := by
  intro l
  induction l with
  | nil => intro _ a ha; cases ha
  | cons b l ih =>
    intro hl a ha hp
    rw [List.pairwise_cons] at hl
    cases hb : p b with
    | true =>
      refine ⟨b, by rw [List.find?_cons, hb], List.mem_cons_self, hb, ?_⟩
      rcases List.mem_cons.1 ha with rfl | ha
      · exact .inl rfl
      · exact .inr (hl.1 a ha)
    | false =>
      rcases List.mem_cons.1 ha with rfl | ha
      · rw [hp] at hb; cases hb
      · obtain ⟨x, h1, h2, h3, h4⟩ := ih hl.2 ha hp
        exact ⟨x, by rw [List.find?_cons, hb]; exact h1, List.mem_cons_of_mem _ h2, h3, h4⟩
theorem Least.each (hG : G.Ok) (h : Least G gs c) {t : Nat} {a : Gr.St} (ha : a ∈ G.around t) :
    (cAt c t = -1 ∧ cAt c a.to = -1 ∧ G.dirOf c t = -1) ∨ (0 ≤ cAt c t ∧ 0 ≤ cAt c a.to ∧ G.dirOf c t = a.d ∧ cAt c t = cAt c a.to + a.c) ∨
    (0 ≤ cAt c t ∧ 0 ≤ cAt c a.to ∧ G.dirOf c t < a.d ∧ cAt c t = cAt c a.to + a.c) ∨ (0 ≤ cAt c t ∧ 0 ≤ cAt c a.to ∧ G.dirOf c t ≠ a.d ∧ cAt c t < cAt c a.to + a.c) := by
  have hgo := Gr.mem_around.1 ha
  have hpos := Gr.go_pos hgo
  rcases h.low t with h0 | h0
  · left
    refine ⟨h0, ?_, dirOf_zero (by omega)⟩
    rcases h.low a.to with h1 | h1
    · exact h1
    · have := h.min t _ (.step hgo (h.real _ h1)); omega
  · right
    have h1 := h.near hG h0 ha
    have h2 := h.min t _ (.step hgo (h.real _ h1.1))
    by_cases e : cAt c t = cAt c a.to + a.c
    · obtain ⟨x, x1, x2, x3, x4⟩ := findRise (p := Gr.dirB c t) (G.around_rise t) ha (by unfold Gr.dirB; rw [decide_eq_true (by omega), decide_eq_true (by omega)]; rfl)
      have hd : G.dirOf c t = x.d := by unfold Gr.dirOf; rw [x1]
      rcases x4 with rfl | x4
      · exact .inl ⟨h0, h1.1, hd, e⟩
      · exact .inr (.inl ⟨h0, h1.1, by rw [hd]; omega, e⟩)
    · refine .inr (.inr ⟨h0, h1.1, fun hd => e ?_, by omega⟩)
      by_cases hp : 0 < cAt c t
      · obtain ⟨x, x1, x2⟩ := h.dir hG hp
        obtain ⟨y1, y2, y3⟩ := Gr.nxt_some x1
        have y4 := Gr.mem_around.1 y1
        have e2 : x.d = a.d := by rw [x2] at hd; omega
        rw [e2, hgo] at y4
        simp only [Option.some.injEq, Prod.mk.injEq] at y4
        rw [y4.1, y4.2]; omega
      · rw [dirOf_zero hp] at hd; omega
theorem Least.tile (h : Least G gs c) (t : Nat) : (G.free t = true ∧ t ∈ gs ∧ cAt c t = 0 ∧ G.dirOf c t = -1) ∨ (G.free t = true ∧ t ∉ gs ∧ cAt c t ≠ 0) ∨ (G.free t = false ∧ cAt c t = -1 ∧ G.dirOf c t = -1) := by
  cases hf : G.free t with
  | false =>
    right; right
    have e : cAt c t = -1 := by
      rcases h.low t with h0 | h0
      · exact h0
      · have := (h.real t h0).free.1; rw [hf] at this; cases this
    exact ⟨rfl, e, dirOf_zero (by omega)⟩
  | true =>
    by_cases hm : t ∈ gs
    · left
      have := h.min t 0 (.goal hm hf)
      have e : cAt c t = 0 := by omega
      exact ⟨rfl, hm, e, dirOf_zero (by omega)⟩
    · exact .inr (.inl ⟨rfl, hm, fun e => hm (h.zero e).1⟩)
theorem mem_goals {xs gl : List Int} (hm : ∀ x, x ∈ gl ↔ x ∈ xs) (hin : ∀ x ∈ xs, 0 ≤ x) (t : Nat) : t ∈ Fld.goalsOf gl ↔ (t : Int) ∈ xs := by
  unfold Fld.goalsOf
  rw [List.mem_map]
  constructor
  · rintro ⟨y, hy, rfl⟩
    have h1 := (hm y).1 hy
    have := hin y h1
    rwa [Int.toNat_of_nonneg this]
  · intro h
    exact ⟨t, (hm t).2 h, by simp⟩
end
end Go.Proofs.YtilobedihjkpjaaDoor
