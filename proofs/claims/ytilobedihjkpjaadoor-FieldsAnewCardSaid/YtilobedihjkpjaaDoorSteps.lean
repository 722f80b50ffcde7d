/-
  The methods of a ground that read it: Len, has, Free, to, Go; each by its contract.
-/
import Derived.Test.YtilobedihjkpjaaDoorGround
namespace Go.Proofs.YtilobedihjkpjaaDoor.Steps
open Go Go.RowKit

section
variable {w : World} {p g c : Nat} {G : Gr}

set_option maxRecDepth 100000 in
theorem len_any (h : Gnd 92 w p g c G) : Calls Tryd.prog 17 #[.pointer (some ⟨p, 0, none⟩)] w fun r w' => r = .returned (.int .i64 G.fs.length) ∧ w = w' := by
  have c2 := h.c2
  clear h
  go_enter Tryd.func17, Tryd.ntmps17
  go_wp2
  go_ret
  exact ⟨rfl, rfl⟩

set_option maxRecDepth 100000 in
theorem has_any (h : Gnd 92 w p g c G) (t : Int) : Calls Tryd.prog 50 #[.pointer (some ⟨p, 0, none⟩), .int .i64 t] w fun r w' => r = .returned (.bool (G.has t)) ∧ w = w' := by
  have c2 := h.c2
  clear h
  go_enter Tryd.func50, Tryd.ntmps50
  by_cases h0 : 0 ≤ t
  · by_cases h1 : t < G.fs.length
    · go_wp2
      go_ret
      exact ⟨by rw [show G.has t = true from decide_eq_true (by omega)]; rfl, rfl⟩
    · go_wp2
      go_ret
      exact ⟨by rw [show G.has t = false from decide_eq_false (by omega)]; rfl, rfl⟩
  · go_wp2
    go_ret
    exact ⟨by rw [show G.has t = false from decide_eq_false (by omega)]; rfl, rfl⟩

set_option maxRecDepth 100000 in
theorem free_any (h : Gnd 92 w p g c G) (t : Int) : Calls Tryd.prog 14 #[.pointer (some ⟨p, 0, none⟩), .int .i64 t] w fun r w' => r = .returned (.bool (G.freeI t)) ∧ w = w' := by
  have c2 := h.c2
  have H := hid h
  go_enter Tryd.func14, Tryd.ntmps14
  by_cases h0 : G.has t = true
  · have h1 : 0 ≤ t ∧ t < G.fs.length := of_decide_eq_true h0
    obtain ⟨t, rfl⟩ := Int.eq_ofNat_of_zero_le h1.1
    have h2 : t < G.fs.length := by omega
    have hg := h.get t h2
    have e : G.freeI (t : Int) = G.free t := by unfold Gr.freeI; rw [h0]; rfl
    rw [e]
    clear h e h1
    go_wp2_with fail
    refine (has_any H.out _).mono ?_
    rintro r w' ⟨rfl, rfl⟩
    rw [h0]
    go_wp2
    go_ret
    exact ⟨rfl, rfl⟩
  · have h1 : G.has t = false := by simpa using h0
    have e : G.freeI t = false := by unfold Gr.freeI; rw [h1]; rfl
    rw [e]
    clear h e h0
    go_wp2_with fail
    refine (has_any H.out _).mono ?_
    rintro r w' ⟨rfl, rfl⟩
    rw [h1]
    go_wp2
    go_ret
    exact ⟨rfl, rfl⟩

set_option maxRecDepth 100000 in
theorem shift_any (w : World) (d : Nat) (hd : d < 8) : Calls Tryd.prog 75 #[.int .i64 d] w fun r w' => r = .returned (.tuple #[.int .i64 (dxOf d), .int .i64 (dyOf d)]) ∧ Same w w' := by
  have hd' : d = 0 ∨ d = 1 ∨ d = 2 ∨ d = 3 ∨ d = 4 ∨ d = 5 ∨ d = 6 ∨ d = 7 := by omega
  rcases hd' with rfl | rfl | rfl | rfl | rfl | rfl | rfl | rfl
  all_goals
    clear hd
    go_enter Tryd.func75, Tryd.ntmps75
    go_wp2
    go_quiet (fail)
    go_wp2
    go_ret2
    exact ⟨rfl, ((Chg.refl _).alloc _).drewN _⟩

end
end Go.Proofs.YtilobedihjkpjaaDoor.Steps
