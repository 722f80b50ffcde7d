/-
  What a walk costs.
-/
import Derived.Test.YtilobedihjkpjaaDoorStepIdx
import Derived.Test.YtilobedihjkpjaaDoorErr
import Derived.Test.YtilobedihjkpjaaDoorPart
namespace Go.Proofs.YtilobedihjkpjaaDoor.Steps
open Go Go.RowKit

section
variable {G : Gr}
theorem cost_none : G.cost [] = (0, 3) := by simp [Gr.cost]
theorem cost_range {xs : List Int} (x : Int) (hx : x ∈ xs) (h : G.has x = false) : G.cost xs = (0, 1) := by
  unfold Gr.cost
  rw [if_neg (by intro e; rw [e] at hx; cases hx), if_pos (by rw [List.all_eq_false]; exact ⟨x, hx, by rw [h]; simp⟩)]
theorem cost_blocked {xs : List Int} (h0 : xs ≠ []) (h1 : ∀ x ∈ xs, G.has x = true) (h2 : xs.any (fun t => !G.free t.toNat) = true) : G.cost xs = (0, 8) := by
  unfold Gr.cost
  rw [if_neg h0, if_neg (by rw [Bool.not_eq_false, List.all_eq_true]; exact h1), if_pos h2]
theorem cost_walk {xs : List Int} (h0 : xs ≠ []) (h1 : ∀ x ∈ xs, G.has x = true) (h2 : xs.any (fun t => !G.free t.toNat) = false) : G.cost xs = match G.walkC (xs.map Int.toNat) with | some c => (c, 0) | none => (0, 9) := by
  unfold Gr.cost
  rw [if_neg h0, if_neg (by rw [Bool.not_eq_false, List.all_eq_true]; exact h1), if_neg (by rw [h2]; simp)]
  cases G.walkC (xs.map Int.toNat) <;> rfl
/-- The walk up to a tile. -/
theorem walkC_step : ∀ (l : List Nat) (k : Nat) (a b : Nat) (s : Int), l[k]? = some a → l[k + 1]? = some b → G.walkC (l.take (k + 1)) = some s → G.walkC (l.take (k + 2)) = (G.edge a b).map (s + ·)
  | [], _, _, _, _, h, _, _ => by simp at h
  | [x], 0, a, b, s, h1, h2, h3 => by simp at h2
  | [x], k + 1, a, b, s, h1, h2, h3 => by simp at h1
  | x :: y :: l, 0, a, b, s, h1, h2, h3 => by
    simp at h1 h2
    subst h1 h2
    simp [Gr.walkC] at h3
    subst h3
    cases l <;> simp [Gr.walkC] <;> cases G.edge x y <;> rfl
  | x :: y :: l, k + 1, a, b, s, h1, h2, h3 => by
    simp only [List.getElem?_cons_succ] at h1 h2
    simp only [List.take_succ_cons, Gr.walkC] at h3 ⊢
    cases he : G.edge x y with
    | none => rw [he] at h3; cases h3
    | some e =>
      rw [he] at h3
      simp only [Option.bind_some] at h3 ⊢
      cases hw : G.walkC (y :: l.take k) with
      | none => rw [hw] at h3; cases h3
      | some s' =>
        rw [hw] at h3
        simp only [Option.map_some, Option.some.injEq] at h3
        have := walkC_step (y :: l) k a b s' (by simpa using h1) (by simpa using h2) (by simpa using hw)
        simp only [List.take_succ_cons] at this
        rw [this]
        cases G.edge a b with
        | none => rfl
        | some c => simp; omega
theorem walkC_stuck : ∀ (l : List Nat) (k : Nat), G.walkC (l.take k) = none → G.walkC l = none
  | [], _, h => by simpa using h
  | [x], 0, h => by simp [Gr.walkC] at h
  | [x], k + 1, h => by simpa using h
  | x :: y :: l, 0, h => by simp [Gr.walkC] at h
  | x :: y :: l, 1, h => by simp [Gr.walkC] at h
  | x :: y :: l, k + 2, h => by
    simp only [List.take_succ_cons, Gr.walkC] at h ⊢
    cases he : G.edge x y with
    | none => rfl
    | some e =>
      rw [he] at h
      simp only [Option.bind_some] at h ⊢
      cases hw : G.walkC (y :: l.take k) with
      | none =>
        have := walkC_stuck (y :: l) (k + 1) (by simpa using hw)
        rw [this]; rfl
      | some s' => rw [hw] at h; cases h
theorem edge_find (a b : Nat) : G.edge a b = ((G.aroundI a).find? fun s => (s.to : Int) == (b : Int)).map (·.c) := by
  rw [Gr.aroundI_nat]
  unfold Gr.edge
  congr 2
  funext s
  rw [Bool.eq_iff_iff]
  simp
  omega
theorem edge_bound (h : G.Ok) {a b : Nat} {c : Int} (he : G.edge a b = some c) : 0 ≤ c ∧ c ≤ 14 := by
  unfold Gr.edge at he
  cases hf : (G.around a).find? (fun s => s.to == b) with
  | none => rw [hf] at he; cases he
  | some s =>
    rw [hf] at he
    simp at he
    have := Gr.mem_around.1 (List.mem_of_find?_eq_some hf)
    have := (Gr.go_some this).2.2.2.2.1
    rw [← he, this]
    split <;> omega
end
end Go.Proofs.YtilobedihjkpjaaDoor.Steps

namespace Go.Proofs.YtilobedihjkpjaaDoor.Err
open Go Go.RowKit
/-- The five errors that a ground answers. -/
structure Errs5 (w : World) (ad : Nat → Addr) : Prop where
  c0 : w.cell? ⟨1, 0, none⟩ = some (.iface 205 (.pointer (some (ad 0))))
  c2 : w.cell? ⟨3, 0, none⟩ = some (.iface 205 (.pointer (some (ad 2))))
  c6 : w.cell? ⟨7, 0, none⟩ = some (.iface 205 (.pointer (some (ad 6))))
  c7 : w.cell? ⟨8, 0, none⟩ = some (.iface 205 (.pointer (some (ad 7))))
  c8 : w.cell? ⟨9, 0, none⟩ = some (.iface 205 (.pointer (some (ad 8))))
theorem Errs5.same {w w' : World} {ad : Nat → Addr} (h : Errs5 w ad) (hs : Same w w') : Errs5 w' ad := ⟨hs.keep h.c0, hs.keep h.c2, hs.keep h.c6, hs.keep h.c7, hs.keep h.c8⟩
theorem Errs.five {w : World} {ad : Nat → Addr} (h : Errs w ad) : Errs5 w ad := ⟨h.c0, h.c2, h.c6, h.c7, h.c8⟩
theorem errs5_of {w : World} {a0 a2 a6 a7 a8 : Addr} (h0 : w.cell? ⟨1, 0, none⟩ = some (.iface 205 (.pointer (some a0)))) (h2 : w.cell? ⟨3, 0, none⟩ = some (.iface 205 (.pointer (some a2))))
    (h6 : w.cell? ⟨7, 0, none⟩ = some (.iface 205 (.pointer (some a6)))) (h7 : w.cell? ⟨8, 0, none⟩ = some (.iface 205 (.pointer (some a7)))) (h8 : w.cell? ⟨9, 0, none⟩ = some (.iface 205 (.pointer (some a8)))) : ∃ ad, Errs5 w ad :=
  ⟨fun k => match k with | 0 => a0 | 2 => a2 | 6 => a6 | 7 => a7 | _ => a8, h0, h2, h6, h7, h8⟩
/-- .. the three that grounds and routes need. -/
structure Errs3 (w : World) (ad : Nat → Addr) : Prop where
  c0 : w.cell? ⟨1, 0, none⟩ = some (.iface 205 (.pointer (some (ad 0))))
  c6 : w.cell? ⟨7, 0, none⟩ = some (.iface 205 (.pointer (some (ad 6))))
  c8 : w.cell? ⟨9, 0, none⟩ = some (.iface 205 (.pointer (some (ad 8))))
theorem Errs3.same {w w' : World} {ad : Nat → Addr} (h : Errs3 w ad) (hs : Same w w') : Errs3 w' ad := ⟨hs.keep h.c0, hs.keep h.c6, hs.keep h.c8⟩
/-- .. the two that grounds need. -/
structure Errs2 (w : World) (ad : Nat → Addr) : Prop where
  c0 : w.cell? ⟨1, 0, none⟩ = some (.iface 205 (.pointer (some (ad 0))))
  c6 : w.cell? ⟨7, 0, none⟩ = some (.iface 205 (.pointer (some (ad 6))))
theorem Errs2.same {w w' : World} {ad : Nat → Addr} (h : Errs2 w ad) (hs : Same w w') : Errs2 w' ad := ⟨hs.keep h.c0, hs.keep h.c6⟩
theorem Errs3.two {w : World} {ad : Nat → Addr} (h : Errs3 w ad) : Errs2 w ad := ⟨h.c0, h.c6⟩
theorem Errs5.three {w : World} {ad : Nat → Addr} (h : Errs5 w ad) : Errs3 w ad := ⟨h.c0, h.c6, h.c8⟩
theorem Errs.three {w : World} {ad : Nat → Addr} (h : Errs w ad) : Errs3 w ad := ⟨h.c0, h.c6, h.c8⟩
theorem errs3_of {w : World} {a0 a6 a8 : Addr} (h0 : w.cell? ⟨1, 0, none⟩ = some (.iface 205 (.pointer (some a0))))
    (h6 : w.cell? ⟨7, 0, none⟩ = some (.iface 205 (.pointer (some a6)))) (h8 : w.cell? ⟨9, 0, none⟩ = some (.iface 205 (.pointer (some a8)))) : ∃ ad, Errs3 w ad :=
  ⟨fun k => match k with | 0 => a0 | 6 => a6 | _ => a8, h0, h6, h8⟩
end Go.Proofs.YtilobedihjkpjaaDoor.Err
