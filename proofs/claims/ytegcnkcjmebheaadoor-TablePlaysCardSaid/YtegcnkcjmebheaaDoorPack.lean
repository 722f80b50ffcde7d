/-
  Things in another order; many things as one.
-/
import Derived.Test.YtegcnkcjmebheaaDoorStar
namespace Go.Proofs.YtegcnkcjmebheaaDoor
open Go Go.RowKit

theorem Things.perm {w0 w : World} {L L' : List Res} (h : L.Perm L') : ∀ {G : Nat → Prop}, Things w0 w L G → ∃ G', Things w0 w L' G' ∧ ∀ k, G' k ↔ G k := by
  induction h with
  | nil => exact fun h => ⟨_, h, fun _ => Iff.rfl⟩
  | cons R _ ih =>
    intro G h
    cases h with
    | cons a1 a2 a3 h =>
      obtain ⟨G', b1, b2⟩ := ih h
      exact ⟨_, .cons a1 a2 (fun k f g => a3 k f ((b2 k).1 g)) b1, fun k => or_congr Iff.rfl (b2 k)⟩
  | swap R S L =>
    intro G h
    cases h with
    | cons a1 a2 a3 h =>
      cases h with
      | cons b1 b2 b3 h =>
        refine ⟨_, .cons b1 b2 (fun k f g => ?_) (.cons a1 a2 (fun k f g => a3 k f (.inr g)) h), fun k => ?_⟩
        · rcases g with g | g
          · exact a3 k g (.inl f)
          · exact b3 k f g
        · constructor
          · rintro (h | h | h)
            · exact .inr (.inl h)
            · exact .inl h
            · exact .inr (.inr h)
          · rintro (h | h | h)
            · exact .inr (.inl h)
            · exact .inl h
            · exact .inr (.inr h)
  | trans _ _ ih1 ih2 =>
    intro G h
    obtain ⟨G1, a1, a2⟩ := ih1 h
    obtain ⟨G2, b1, b2⟩ := ih2 a1
    exact ⟨G2, b1, fun k => (b2 k).trans (a2 k)⟩
theorem Star.perm {w0 w : World} {L L' : List Res} (X : Star w0 w L) (h : L.Perm L') : Star w0 w L' := by
  obtain ⟨G, hG⟩ := X.all
  obtain ⟨G', h', _⟩ := hG.perm h
  exact ⟨X.same, G', h'⟩

/-- Many things as one. -/
def packR : List Res → Res
  | [] => factR True
  | R :: L => sepR R (packR L)
theorem Star.unpack {w0 w : World} : ∀ {M L : List Res}, Star w0 w (packR M :: L) → Star w0 w (M ++ L)
  | [], _, X => X.open_fact.2
  | R :: M, L, X => by
    have h := Star.unpack (X.open_sep.swap)
    exact h.perm (List.perm_middle)
theorem Star.pack {w0 w : World} : ∀ {M L : List Res}, Star w0 w (M ++ L) → Star w0 w (packR M :: L)
  | [], _, X => Star.close_fact trivial X
  | R :: M, L, X => by
    have h := Star.pack (M := M) (L := R :: L) (X.perm (List.perm_middle.symm))
    exact h.swap.close_sep
end Go.Proofs.YtegcnkcjmebheaaDoor
