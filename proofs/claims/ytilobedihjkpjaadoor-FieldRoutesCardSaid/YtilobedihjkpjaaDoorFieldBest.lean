/-
  FieldRoutes in plain Lean: the cheapest of the ways to the goals.
-/
import Derived.Test.YtilobedihjkpjaaDoorFieldNearest
import Derived.Test.YtilobedihjkpjaaDoorFieldNew
namespace Go.Proofs.YtilobedihjkpjaaDoor
section
variable {G : Gr} {c d : List Int} {gs : List Nat} {k : Nat} {b : Int}
theorem Gr.To.pick {t : Nat} {K : Int} (h : Gr.To G gs t K) : ∃ g ∈ gs, Gr.To G [g] t K := by
  induction h with
  | goal h1 h2 => exact ⟨_, h1, .goal (List.mem_singleton.2 rfl) h2⟩
  | step hg _ ih => obtain ⟨g, h1, h2⟩ := ih; exact ⟨g, h1, .step hg h2⟩
theorem Gr.To.wide {t g : Nat} {K : Int} (hg : g ∈ gs) (h : Gr.To G [g] t K) : Gr.To G gs t K :=
  Fld.To.more (fun x hx => by simp only [List.mem_singleton] at hx; subst hx; exact hg) h
/-- The cheapest way to one of some goals; -1: none leads there. -/
def BestI (G : Gr) (gs : List Nat) (k : Nat) (b : Int) : Prop :=
  (b = -1 ∧ ∀ g ∈ gs, ∀ K, ¬ Gr.To G [g] k K) ∨ (0 ≤ b ∧ (∃ g ∈ gs, Gr.To G [g] k b) ∧ ∀ g ∈ gs, ∀ K, Gr.To G [g] k K → b ≤ K)
theorem BestI.start : BestI G [] k (-1) := .inl ⟨rfl, fun g h => by cases h⟩
theorem BestI.low (h : BestI G gs k b) : b = -1 ∨ 0 ≤ b := by rcases h with h | h; exact .inl h.1; exact .inr h.1
theorem Least.noway {g : Nat} (hL : Least G [g] d) (h0 : cAt d k = -1) (K : Int) : ¬ Gr.To G [g] k K := fun h => by have := (hL.min k K h).1; omega
theorem BestI.no {g : Nat} (h : BestI G gs k b) (hL : Least G [g] d) (h0 : cAt d k = -1) : BestI G (gs ++ [g]) k b := by
  rcases h with ⟨h1, h2⟩ | ⟨h1, ⟨g1, h2, h3⟩, h4⟩
  · refine .inl ⟨h1, fun x hx K => ?_⟩
    rcases List.mem_append.1 hx with hx | hx
    · exact h2 x hx K
    · simp only [List.mem_singleton] at hx; subst hx; exact hL.noway h0 K
  · refine .inr ⟨h1, ⟨g1, List.mem_append_left _ h2, h3⟩, fun x hx K hK => ?_⟩
    rcases List.mem_append.1 hx with hx | hx
    · exact h4 x hx K hK
    · simp only [List.mem_singleton] at hx; subst hx; exact absurd hK (hL.noway h0 K)
theorem BestI.keep {g : Nat} (h : BestI G gs k b) (hL : Least G [g] d) (hb : 0 ≤ b) (hle : b ≤ cAt d k) : BestI G (gs ++ [g]) k b := by
  rcases h with ⟨h1, h2⟩ | ⟨h1, ⟨g1, h2, h3⟩, h4⟩
  · omega
  · refine .inr ⟨h1, ⟨g1, List.mem_append_left _ h2, h3⟩, fun x hx K hK => ?_⟩
    rcases List.mem_append.1 hx with hx | hx
    · exact h4 x hx K hK
    · simp only [List.mem_singleton] at hx; subst hx
      have := (hL.min k K hK).2; omega
theorem BestI.take {g : Nat} (h : BestI G gs k b) (hL : Least G [g] d) (h0 : 0 ≤ cAt d k) (hb : b < 0 ∨ cAt d k < b) : BestI G (gs ++ [g]) k (cAt d k) := by
  refine .inr ⟨h0, ⟨g, List.mem_append_right _ List.mem_cons_self, hL.real k h0⟩, fun x hx K hK => ?_⟩
  rcases List.mem_append.1 hx with hx | hx
  · rcases h with ⟨h1, h2⟩ | ⟨h1, _, h4⟩
    · exact absurd hK (h2 x hx K)
    · have := h4 x hx K hK; omega
  · simp only [List.mem_singleton] at hx; subst hx
    exact (hL.min k K hK).2
theorem BestI.done (h : BestI G gs k b) (hL : Least G gs c) : b = cAt c k := by
  rcases h with ⟨h1, h2⟩ | ⟨h1, ⟨g, hg, h3⟩, h4⟩
  · rcases hL.low k with h0 | h0
    · rw [h0, h1]
    · obtain ⟨g, hg, h⟩ := (hL.real k h0).pick
      exact absurd h (h2 g hg _)
  · have h5 := hL.min k b (h3.wide hg)
    obtain ⟨g', hg', h⟩ := (hL.real k h5.1).pick
    have := h4 g' hg' _ h
    omega
end
end Go.Proofs.YtilobedihjkpjaaDoor
