/-
  paddockref06: in, Check.
-/
import Derived.Test.YtegcnkcjmebheaaDoorSchRow
namespace Go.Proofs.YtegcnkcjmebheaaDoor.Tab
open Go Go.RowKit
set_option maxRecDepth 100000 in
theorem ref_in (n lo hi : Int) (w : World) : Calls Tryd.prog 44 #[.int .i64 n, .int .i64 lo, .int .i64 hi] w fun r w' => r = .returned (.bool (inS (lo, hi) n)) ∧ w = w' := by
  by_cases h1 : lo ≤ n
  · by_cases h2 : n ≤ hi
    · rw [show inS (lo, hi) n = true by unfold inS; simp [h1, h2]]
      go_enter Tryd.func44, Tryd.ntmps44
      go_wp2
      go_ret
      exact ⟨rfl, rfl⟩
    · rw [show inS (lo, hi) n = false by unfold inS; simp [h2]]
      go_enter Tryd.func44, Tryd.ntmps44
      go_wp2
      go_ret
      exact ⟨rfl, rfl⟩
  · rw [show inS (lo, hi) n = false by unfold inS; simp [h1]]
    go_enter Tryd.func44, Tryd.ntmps44
    go_wp2
    go_ret
    exact ⟨rfl, rfl⟩
theorem ref_inB {n lo hi : Int} {b : Bool} (h : inS (lo, hi) n = b) (w : World) : Calls Tryd.prog 44 #[.int .i64 n, .int .i64 lo, .int .i64 hi] w fun r w' => r = .returned (.bool b) ∧ w = w' := h ▸ ref_in n lo hi w
theorem zero_of {n : Int} (h : inS (0, 0) n = true) : n = 0 := by
  simp only [inS, Bool.and_eq_true, decide_eq_true_eq] at h
  omega
theorem not_zero {n : Int} (h : inS (0, 0) n = false) : (n == 0) = false := by
  cases e : n == 0 with
  | false => rfl
  | true =>
    rw [show n = 0 by simpa using e] at h
    cases h
set_option maxRecDepth 100000 in
set_option maxHeartbeats 4000000 in
theorem ref_check0 (a b : Int) (w : World) : Calls Tryd.prog 15 #[vV ⟨0, a, b⟩] w fun r w' => r = .returned (.int .i64 (chkN ⟨0, a, b⟩ : Nat)) ∧ Same w w' := by
  have ok : Mask.okKind 0 = true := by decide
  have sA : spanA 0 = ((-1048576, 1048576) : Int × Int) := by decide +kernel
  have sB : spanB 0 = ((-1048576, 1048576) : Int × Int) := by decide +kernel
  cases hA : inS ((-1048576, 1048576) : Int × Int) a with
  | false =>
    have HC : chkN ⟨0, a, b⟩ = 1 := chk_range ok (by rw [sA, hA]; rfl)
    rw [HC]
    have RA := hid (ref_inB hA)
    clear sA sB ok HC hA
    go_enter Tryd.func15, Tryd.ntmps15
    go_wp2_with (first | (go_at_call 44; refine (RA.out _).mono ?_; rintro r w' ⟨rfl, rfl⟩; clear RA))
    go_ret
    exact ⟨rfl, by repeat (first | exact Chg.refl _ | refine Chg.drew ?_ | refine Chg.alloc _ ?_)⟩
  | true =>
    cases hB : inS ((-1048576, 1048576) : Int × Int) b with
    | false =>
      have HC : chkN ⟨0, a, b⟩ = 1 := chk_range ok (by rw [sA, sB, hA, hB]; rfl)
      rw [HC]
      have RA := hid (ref_inB hA)
      have RB := hid (ref_inB hB)
      clear sA sB ok HC hA hB
      go_enter Tryd.func15, Tryd.ntmps15
      go_wp2_with (first | (go_at_call 44; refine (RA.out _).mono ?_; rintro r w' ⟨rfl, rfl⟩; clear RA) | (go_at_call 44; refine (RB.out _).mono ?_; rintro r w' ⟨rfl, rfl⟩; clear RB))
      go_ret
      exact ⟨rfl, by repeat (first | exact Chg.refl _ | refine Chg.drew ?_ | refine Chg.alloc _ ?_)⟩
    | true =>
      have HC : chkN ⟨0, a, b⟩ = 0 := chk_ok ok (by rw [sA, hA]) (by rw [sB, hB])
      rw [HC]
      have RA := hid (ref_inB hA)
      have RB := hid (ref_inB hB)
      clear sA sB ok HC hA hB
      go_enter Tryd.func15, Tryd.ntmps15
      go_wp2_with (first | (go_at_call 44; refine (RA.out _).mono ?_; rintro r w' ⟨rfl, rfl⟩; clear RA) | (go_at_call 44; refine (RB.out _).mono ?_; rintro r w' ⟨rfl, rfl⟩; clear RB))
      go_ret
      exact ⟨rfl, by repeat (first | exact Chg.refl _ | refine Chg.drew ?_ | refine Chg.alloc _ ?_)⟩
set_option maxRecDepth 100000 in
set_option maxHeartbeats 4000000 in
theorem ref_check1 (a b : Int) (w : World) : Calls Tryd.prog 15 #[vV ⟨1, a, b⟩] w fun r w' => r = .returned (.int .i64 (chkN ⟨1, a, b⟩ : Nat)) ∧ Same w w' := by
  have ok : Mask.okKind 1 = true := by decide
  have sA : spanA 1 = ((0, 1048576) : Int × Int) := by decide +kernel
  have sB : spanB 1 = ((0, 1048576) : Int × Int) := by decide +kernel
  cases hA : inS ((0, 1048576) : Int × Int) a with
  | false =>
    have HC : chkN ⟨1, a, b⟩ = 1 := chk_range ok (by rw [sA, hA]; rfl)
    rw [HC]
    have RA := hid (ref_inB hA)
    clear sA sB ok HC hA
    go_enter Tryd.func15, Tryd.ntmps15
    go_wp2_with (first | (go_at_call 44; refine (RA.out _).mono ?_; rintro r w' ⟨rfl, rfl⟩; clear RA))
    go_ret
    exact ⟨rfl, by repeat (first | exact Chg.refl _ | refine Chg.drew ?_ | refine Chg.alloc _ ?_)⟩
  | true =>
    cases hB : inS ((0, 1048576) : Int × Int) b with
    | false =>
      have HC : chkN ⟨1, a, b⟩ = 1 := chk_range ok (by rw [sA, sB, hA, hB]; rfl)
      rw [HC]
      have RA := hid (ref_inB hA)
      have RB := hid (ref_inB hB)
      clear sA sB ok HC hA hB
      go_enter Tryd.func15, Tryd.ntmps15
      go_wp2_with (first | (go_at_call 44; refine (RA.out _).mono ?_; rintro r w' ⟨rfl, rfl⟩; clear RA) | (go_at_call 44; refine (RB.out _).mono ?_; rintro r w' ⟨rfl, rfl⟩; clear RB))
      go_ret
      exact ⟨rfl, by repeat (first | exact Chg.refl _ | refine Chg.drew ?_ | refine Chg.alloc _ ?_)⟩
    | true =>
      have HC : chkN ⟨1, a, b⟩ = 0 := chk_ok ok (by rw [sA, hA]) (by rw [sB, hB])
      rw [HC]
      have RA := hid (ref_inB hA)
      have RB := hid (ref_inB hB)
      clear sA sB ok HC hA hB
      go_enter Tryd.func15, Tryd.ntmps15
      go_wp2_with (first | (go_at_call 44; refine (RA.out _).mono ?_; rintro r w' ⟨rfl, rfl⟩; clear RA) | (go_at_call 44; refine (RB.out _).mono ?_; rintro r w' ⟨rfl, rfl⟩; clear RB))
      go_ret
      exact ⟨rfl, by repeat (first | exact Chg.refl _ | refine Chg.drew ?_ | refine Chg.alloc _ ?_)⟩
set_option maxRecDepth 100000 in
set_option maxHeartbeats 4000000 in
theorem ref_check2 (a b : Int) (w : World) : Calls Tryd.prog 15 #[vV ⟨2, a, b⟩] w fun r w' => r = .returned (.int .i64 (chkN ⟨2, a, b⟩ : Nat)) ∧ Same w w' := by
  have ok : Mask.okKind 2 = true := by decide
  have sA : spanA 2 = ((-1048576, 1048576) : Int × Int) := by decide +kernel
  have sB : spanB 2 = ((-1048576, 1048576) : Int × Int) := by decide +kernel
  cases hA : inS ((-1048576, 1048576) : Int × Int) a with
  | false =>
    have HC : chkN ⟨2, a, b⟩ = 1 := chk_range ok (by rw [sA, hA]; rfl)
    rw [HC]
    have RA := hid (ref_inB hA)
    clear sA sB ok HC hA
    go_enter Tryd.func15, Tryd.ntmps15
    go_wp2_with (first | (go_at_call 44; refine (RA.out _).mono ?_; rintro r w' ⟨rfl, rfl⟩; clear RA))
    go_ret
    exact ⟨rfl, by repeat (first | exact Chg.refl _ | refine Chg.drew ?_ | refine Chg.alloc _ ?_)⟩
  | true =>
    cases hB : inS ((-1048576, 1048576) : Int × Int) b with
    | false =>
      have HC : chkN ⟨2, a, b⟩ = 1 := chk_range ok (by rw [sA, sB, hA, hB]; rfl)
      rw [HC]
      have RA := hid (ref_inB hA)
      have RB := hid (ref_inB hB)
      clear sA sB ok HC hA hB
      go_enter Tryd.func15, Tryd.ntmps15
      go_wp2_with (first | (go_at_call 44; refine (RA.out _).mono ?_; rintro r w' ⟨rfl, rfl⟩; clear RA) | (go_at_call 44; refine (RB.out _).mono ?_; rintro r w' ⟨rfl, rfl⟩; clear RB))
      go_ret
      exact ⟨rfl, by repeat (first | exact Chg.refl _ | refine Chg.drew ?_ | refine Chg.alloc _ ?_)⟩
    | true =>
      have HC : chkN ⟨2, a, b⟩ = 0 := chk_ok ok (by rw [sA, hA]) (by rw [sB, hB])
      rw [HC]
      have RA := hid (ref_inB hA)
      have RB := hid (ref_inB hB)
      clear sA sB ok HC hA hB
      go_enter Tryd.func15, Tryd.ntmps15
      go_wp2_with (first | (go_at_call 44; refine (RA.out _).mono ?_; rintro r w' ⟨rfl, rfl⟩; clear RA) | (go_at_call 44; refine (RB.out _).mono ?_; rintro r w' ⟨rfl, rfl⟩; clear RB))
      go_ret
      exact ⟨rfl, by repeat (first | exact Chg.refl _ | refine Chg.drew ?_ | refine Chg.alloc _ ?_)⟩
set_option maxRecDepth 100000 in
set_option maxHeartbeats 4000000 in
theorem ref_check3 (a b : Int) (w : World) : Calls Tryd.prog 15 #[vV ⟨3, a, b⟩] w fun r w' => r = .returned (.int .i64 (chkN ⟨3, a, b⟩ : Nat)) ∧ Same w w' := by
  have ok : Mask.okKind 3 = true := by decide
  have sA : spanA 3 = ((0, 0) : Int × Int) := by decide +kernel
  have sB : spanB 3 = ((0, 0) : Int × Int) := by decide +kernel
  cases hA : inS ((0, 0) : Int × Int) a with
  | false =>
    have HC : chkN ⟨3, a, b⟩ = 1 := chk_range ok (by rw [sA, hA]; rfl)
    rw [HC]
    have zA := not_zero hA
    clear sA sB ok HC hA
    go_enter Tryd.func15, Tryd.ntmps15
    go_wp2_with fail
    go_ret
    exact ⟨rfl, by repeat (first | exact Chg.refl _ | refine Chg.drew ?_ | refine Chg.alloc _ ?_)⟩
  | true =>
    cases hB : inS ((0, 0) : Int × Int) b with
    | false =>
      have HC : chkN ⟨3, a, b⟩ = 1 := chk_range ok (by rw [sA, sB, hA, hB]; rfl)
      rw [HC]
      obtain rfl := zero_of hA
      have zB := not_zero hB
      clear sA sB ok HC hA hB
      go_enter Tryd.func15, Tryd.ntmps15
      go_wp2_with fail
      go_ret
      exact ⟨rfl, by repeat (first | exact Chg.refl _ | refine Chg.drew ?_ | refine Chg.alloc _ ?_)⟩
    | true =>
      have HC : chkN ⟨3, a, b⟩ = 0 := chk_ok ok (by rw [sA, hA]) (by rw [sB, hB])
      rw [HC]
      obtain rfl := zero_of hA
      obtain rfl := zero_of hB
      clear sA sB ok HC hA hB
      go_enter Tryd.func15, Tryd.ntmps15
      go_wp2_with fail
      go_ret
      exact ⟨rfl, by repeat (first | exact Chg.refl _ | refine Chg.drew ?_ | refine Chg.alloc _ ?_)⟩
set_option maxRecDepth 100000 in
set_option maxHeartbeats 4000000 in
theorem ref_check4 (a b : Int) (w : World) : Calls Tryd.prog 15 #[vV ⟨4, a, b⟩] w fun r w' => r = .returned (.int .i64 (chkN ⟨4, a, b⟩ : Nat)) ∧ Same w w' := by
  have ok : Mask.okKind 4 = true := by decide
  have sA : spanA 4 = ((0, 255) : Int × Int) := by decide +kernel
  have sB : spanB 4 = ((0, 0) : Int × Int) := by decide +kernel
  cases hA : inS ((0, 255) : Int × Int) a with
  | false =>
    have HC : chkN ⟨4, a, b⟩ = 1 := chk_range ok (by rw [sA, hA]; rfl)
    rw [HC]
    have RA := hid (ref_inB hA)
    clear sA sB ok HC hA
    go_enter Tryd.func15, Tryd.ntmps15
    go_wp2_with (first | (go_at_call 44; refine (RA.out _).mono ?_; rintro r w' ⟨rfl, rfl⟩; clear RA))
    go_ret
    exact ⟨rfl, by repeat (first | exact Chg.refl _ | refine Chg.drew ?_ | refine Chg.alloc _ ?_)⟩
  | true =>
    cases hB : inS ((0, 0) : Int × Int) b with
    | false =>
      have HC : chkN ⟨4, a, b⟩ = 1 := chk_range ok (by rw [sA, sB, hA, hB]; rfl)
      rw [HC]
      have RA := hid (ref_inB hA)
      have zB := not_zero hB
      clear sA sB ok HC hA hB
      go_enter Tryd.func15, Tryd.ntmps15
      go_wp2_with (first | (go_at_call 44; refine (RA.out _).mono ?_; rintro r w' ⟨rfl, rfl⟩; clear RA))
      go_ret
      exact ⟨rfl, by repeat (first | exact Chg.refl _ | refine Chg.drew ?_ | refine Chg.alloc _ ?_)⟩
    | true =>
      have HC : chkN ⟨4, a, b⟩ = 0 := chk_ok ok (by rw [sA, hA]) (by rw [sB, hB])
      rw [HC]
      have RA := hid (ref_inB hA)
      obtain rfl := zero_of hB
      clear sA sB ok HC hA hB
      go_enter Tryd.func15, Tryd.ntmps15
      go_wp2_with (first | (go_at_call 44; refine (RA.out _).mono ?_; rintro r w' ⟨rfl, rfl⟩; clear RA))
      go_ret
      exact ⟨rfl, by repeat (first | exact Chg.refl _ | refine Chg.drew ?_ | refine Chg.alloc _ ?_)⟩
set_option maxRecDepth 100000 in
set_option maxHeartbeats 4000000 in
theorem ref_check5 (a b : Int) (w : World) : Calls Tryd.prog 15 #[vV ⟨5, a, b⟩] w fun r w' => r = .returned (.int .i64 (chkN ⟨5, a, b⟩ : Nat)) ∧ Same w w' := by
  have ok : Mask.okKind 5 = true := by decide
  have sA : spanA 5 = ((0, 1048576) : Int × Int) := by decide +kernel
  have sB : spanB 5 = ((0, 0) : Int × Int) := by decide +kernel
  cases hA : inS ((0, 1048576) : Int × Int) a with
  | false =>
    have HC : chkN ⟨5, a, b⟩ = 1 := chk_range ok (by rw [sA, hA]; rfl)
    rw [HC]
    have RA := hid (ref_inB hA)
    clear sA sB ok HC hA
    go_enter Tryd.func15, Tryd.ntmps15
    go_wp2_with (first | (go_at_call 44; refine (RA.out _).mono ?_; rintro r w' ⟨rfl, rfl⟩; clear RA))
    go_ret
    exact ⟨rfl, by repeat (first | exact Chg.refl _ | refine Chg.drew ?_ | refine Chg.alloc _ ?_)⟩
  | true =>
    cases hB : inS ((0, 0) : Int × Int) b with
    | false =>
      have HC : chkN ⟨5, a, b⟩ = 1 := chk_range ok (by rw [sA, sB, hA, hB]; rfl)
      rw [HC]
      have RA := hid (ref_inB hA)
      have zB := not_zero hB
      clear sA sB ok HC hA hB
      go_enter Tryd.func15, Tryd.ntmps15
      go_wp2_with (first | (go_at_call 44; refine (RA.out _).mono ?_; rintro r w' ⟨rfl, rfl⟩; clear RA))
      go_ret
      exact ⟨rfl, by repeat (first | exact Chg.refl _ | refine Chg.drew ?_ | refine Chg.alloc _ ?_)⟩
    | true =>
      have HC : chkN ⟨5, a, b⟩ = 0 := chk_ok ok (by rw [sA, hA]) (by rw [sB, hB])
      rw [HC]
      have RA := hid (ref_inB hA)
      obtain rfl := zero_of hB
      clear sA sB ok HC hA hB
      go_enter Tryd.func15, Tryd.ntmps15
      go_wp2_with (first | (go_at_call 44; refine (RA.out _).mono ?_; rintro r w' ⟨rfl, rfl⟩; clear RA))
      go_ret
      exact ⟨rfl, by repeat (first | exact Chg.refl _ | refine Chg.drew ?_ | refine Chg.alloc _ ?_)⟩
set_option maxRecDepth 100000 in
set_option maxHeartbeats 4000000 in
theorem ref_check6 (a b : Int) (w : World) : Calls Tryd.prog 15 #[vV ⟨6, a, b⟩] w fun r w' => r = .returned (.int .i64 (chkN ⟨6, a, b⟩ : Nat)) ∧ Same w w' := by
  have ok : Mask.okKind 6 = true := by decide
  have sA : spanA 6 = ((-4194304, 4194304) : Int × Int) := by decide +kernel
  have sB : spanB 6 = ((-4194304, 4194304) : Int × Int) := by decide +kernel
  cases hA : inS ((-4194304, 4194304) : Int × Int) a with
  | false =>
    have HC : chkN ⟨6, a, b⟩ = 1 := chk_range ok (by rw [sA, hA]; rfl)
    rw [HC]
    have RA := hid (ref_inB hA)
    clear sA sB ok HC hA
    go_enter Tryd.func15, Tryd.ntmps15
    go_wp2_with (first | (go_at_call 44; refine (RA.out _).mono ?_; rintro r w' ⟨rfl, rfl⟩; clear RA))
    go_ret
    exact ⟨rfl, by repeat (first | exact Chg.refl _ | refine Chg.drew ?_ | refine Chg.alloc _ ?_)⟩
  | true =>
    cases hB : inS ((-4194304, 4194304) : Int × Int) b with
    | false =>
      have HC : chkN ⟨6, a, b⟩ = 1 := chk_range ok (by rw [sA, sB, hA, hB]; rfl)
      rw [HC]
      have RA := hid (ref_inB hA)
      have RB := hid (ref_inB hB)
      clear sA sB ok HC hA hB
      go_enter Tryd.func15, Tryd.ntmps15
      go_wp2_with (first | (go_at_call 44; refine (RA.out _).mono ?_; rintro r w' ⟨rfl, rfl⟩; clear RA) | (go_at_call 44; refine (RB.out _).mono ?_; rintro r w' ⟨rfl, rfl⟩; clear RB))
      go_ret
      exact ⟨rfl, by repeat (first | exact Chg.refl _ | refine Chg.drew ?_ | refine Chg.alloc _ ?_)⟩
    | true =>
      have HC : chkN ⟨6, a, b⟩ = 0 := chk_ok ok (by rw [sA, hA]) (by rw [sB, hB])
      rw [HC]
      have RA := hid (ref_inB hA)
      have RB := hid (ref_inB hB)
      clear sA sB ok HC hA hB
      go_enter Tryd.func15, Tryd.ntmps15
      go_wp2_with (first | (go_at_call 44; refine (RA.out _).mono ?_; rintro r w' ⟨rfl, rfl⟩; clear RA) | (go_at_call 44; refine (RB.out _).mono ?_; rintro r w' ⟨rfl, rfl⟩; clear RB))
      go_ret
      exact ⟨rfl, by repeat (first | exact Chg.refl _ | refine Chg.drew ?_ | refine Chg.alloc _ ?_)⟩
set_option maxRecDepth 100000 in
set_option maxHeartbeats 4000000 in
theorem ref_check7 (a b : Int) (w : World) : Calls Tryd.prog 15 #[vV ⟨7, a, b⟩] w fun r w' => r = .returned (.int .i64 (chkN ⟨7, a, b⟩ : Nat)) ∧ Same w w' := by
  have ok : Mask.okKind 7 = true := by decide
  have sA : spanA 7 = ((-4194304, 4194304) : Int × Int) := by decide +kernel
  have sB : spanB 7 = ((-4194304, 4194304) : Int × Int) := by decide +kernel
  cases hA : inS ((-4194304, 4194304) : Int × Int) a with
  | false =>
    have HC : chkN ⟨7, a, b⟩ = 1 := chk_range ok (by rw [sA, hA]; rfl)
    rw [HC]
    have RA := hid (ref_inB hA)
    clear sA sB ok HC hA
    go_enter Tryd.func15, Tryd.ntmps15
    go_wp2_with (first | (go_at_call 44; refine (RA.out _).mono ?_; rintro r w' ⟨rfl, rfl⟩; clear RA))
    go_ret
    exact ⟨rfl, by repeat (first | exact Chg.refl _ | refine Chg.drew ?_ | refine Chg.alloc _ ?_)⟩
  | true =>
    cases hB : inS ((-4194304, 4194304) : Int × Int) b with
    | false =>
      have HC : chkN ⟨7, a, b⟩ = 1 := chk_range ok (by rw [sA, sB, hA, hB]; rfl)
      rw [HC]
      have RA := hid (ref_inB hA)
      have RB := hid (ref_inB hB)
      clear sA sB ok HC hA hB
      go_enter Tryd.func15, Tryd.ntmps15
      go_wp2_with (first | (go_at_call 44; refine (RA.out _).mono ?_; rintro r w' ⟨rfl, rfl⟩; clear RA) | (go_at_call 44; refine (RB.out _).mono ?_; rintro r w' ⟨rfl, rfl⟩; clear RB))
      go_ret
      exact ⟨rfl, by repeat (first | exact Chg.refl _ | refine Chg.drew ?_ | refine Chg.alloc _ ?_)⟩
    | true =>
      have HC : chkN ⟨7, a, b⟩ = 0 := chk_ok ok (by rw [sA, hA]) (by rw [sB, hB])
      rw [HC]
      have RA := hid (ref_inB hA)
      have RB := hid (ref_inB hB)
      clear sA sB ok HC hA hB
      go_enter Tryd.func15, Tryd.ntmps15
      go_wp2_with (first | (go_at_call 44; refine (RA.out _).mono ?_; rintro r w' ⟨rfl, rfl⟩; clear RA) | (go_at_call 44; refine (RB.out _).mono ?_; rintro r w' ⟨rfl, rfl⟩; clear RB))
      go_ret
      exact ⟨rfl, by repeat (first | exact Chg.refl _ | refine Chg.drew ?_ | refine Chg.alloc _ ?_)⟩
set_option maxRecDepth 100000 in
set_option maxHeartbeats 4000000 in
theorem ref_check8 (a b : Int) (w : World) : Calls Tryd.prog 15 #[vV ⟨8, a, b⟩] w fun r w' => r = .returned (.int .i64 (chkN ⟨8, a, b⟩ : Nat)) ∧ Same w w' := by
  have ok : Mask.okKind 8 = true := by decide
  have sA : spanA 8 = ((-4194304, 4194304) : Int × Int) := by decide +kernel
  have sB : spanB 8 = ((-4194304, 4194304) : Int × Int) := by decide +kernel
  cases hA : inS ((-4194304, 4194304) : Int × Int) a with
  | false =>
    have HC : chkN ⟨8, a, b⟩ = 1 := chk_range ok (by rw [sA, hA]; rfl)
    rw [HC]
    have RA := hid (ref_inB hA)
    clear sA sB ok HC hA
    go_enter Tryd.func15, Tryd.ntmps15
    go_wp2_with (first | (go_at_call 44; refine (RA.out _).mono ?_; rintro r w' ⟨rfl, rfl⟩; clear RA))
    go_ret
    exact ⟨rfl, by repeat (first | exact Chg.refl _ | refine Chg.drew ?_ | refine Chg.alloc _ ?_)⟩
  | true =>
    cases hB : inS ((-4194304, 4194304) : Int × Int) b with
    | false =>
      have HC : chkN ⟨8, a, b⟩ = 1 := chk_range ok (by rw [sA, sB, hA, hB]; rfl)
      rw [HC]
      have RA := hid (ref_inB hA)
      have RB := hid (ref_inB hB)
      clear sA sB ok HC hA hB
      go_enter Tryd.func15, Tryd.ntmps15
      go_wp2_with (first | (go_at_call 44; refine (RA.out _).mono ?_; rintro r w' ⟨rfl, rfl⟩; clear RA) | (go_at_call 44; refine (RB.out _).mono ?_; rintro r w' ⟨rfl, rfl⟩; clear RB))
      go_ret
      exact ⟨rfl, by repeat (first | exact Chg.refl _ | refine Chg.drew ?_ | refine Chg.alloc _ ?_)⟩
    | true =>
      have HC : chkN ⟨8, a, b⟩ = 0 := chk_ok ok (by rw [sA, hA]) (by rw [sB, hB])
      rw [HC]
      have RA := hid (ref_inB hA)
      have RB := hid (ref_inB hB)
      clear sA sB ok HC hA hB
      go_enter Tryd.func15, Tryd.ntmps15
      go_wp2_with (first | (go_at_call 44; refine (RA.out _).mono ?_; rintro r w' ⟨rfl, rfl⟩; clear RA) | (go_at_call 44; refine (RB.out _).mono ?_; rintro r w' ⟨rfl, rfl⟩; clear RB))
      go_ret
      exact ⟨rfl, by repeat (first | exact Chg.refl _ | refine Chg.drew ?_ | refine Chg.alloc _ ?_)⟩
set_option maxRecDepth 100000 in
set_option maxHeartbeats 4000000 in
theorem ref_check9 (a b : Int) (w : World) : Calls Tryd.prog 15 #[vV ⟨9, a, b⟩] w fun r w' => r = .returned (.int .i64 (chkN ⟨9, a, b⟩ : Nat)) ∧ Same w w' := by
  have ok : Mask.okKind 9 = true := by decide
  have sA : spanA 9 = ((-4194304, 4194304) : Int × Int) := by decide +kernel
  have sB : spanB 9 = ((-4194304, 4194304) : Int × Int) := by decide +kernel
  cases hA : inS ((-4194304, 4194304) : Int × Int) a with
  | false =>
    have HC : chkN ⟨9, a, b⟩ = 1 := chk_range ok (by rw [sA, hA]; rfl)
    rw [HC]
    have RA := hid (ref_inB hA)
    clear sA sB ok HC hA
    go_enter Tryd.func15, Tryd.ntmps15
    go_wp2_with (first | (go_at_call 44; refine (RA.out _).mono ?_; rintro r w' ⟨rfl, rfl⟩; clear RA))
    go_ret
    exact ⟨rfl, by repeat (first | exact Chg.refl _ | refine Chg.drew ?_ | refine Chg.alloc _ ?_)⟩
  | true =>
    cases hB : inS ((-4194304, 4194304) : Int × Int) b with
    | false =>
      have HC : chkN ⟨9, a, b⟩ = 1 := chk_range ok (by rw [sA, sB, hA, hB]; rfl)
      rw [HC]
      have RA := hid (ref_inB hA)
      have RB := hid (ref_inB hB)
      clear sA sB ok HC hA hB
      go_enter Tryd.func15, Tryd.ntmps15
      go_wp2_with (first | (go_at_call 44; refine (RA.out _).mono ?_; rintro r w' ⟨rfl, rfl⟩; clear RA) | (go_at_call 44; refine (RB.out _).mono ?_; rintro r w' ⟨rfl, rfl⟩; clear RB))
      go_ret
      exact ⟨rfl, by repeat (first | exact Chg.refl _ | refine Chg.drew ?_ | refine Chg.alloc _ ?_)⟩
    | true =>
      have HC : chkN ⟨9, a, b⟩ = 0 := chk_ok ok (by rw [sA, hA]) (by rw [sB, hB])
      rw [HC]
      have RA := hid (ref_inB hA)
      have RB := hid (ref_inB hB)
      clear sA sB ok HC hA hB
      go_enter Tryd.func15, Tryd.ntmps15
      go_wp2_with (first | (go_at_call 44; refine (RA.out _).mono ?_; rintro r w' ⟨rfl, rfl⟩; clear RA) | (go_at_call 44; refine (RB.out _).mono ?_; rintro r w' ⟨rfl, rfl⟩; clear RB))
      go_ret
      exact ⟨rfl, by repeat (first | exact Chg.refl _ | refine Chg.drew ?_ | refine Chg.alloc _ ?_)⟩
set_option maxRecDepth 100000 in
set_option maxHeartbeats 4000000 in
theorem ref_checkN (k a b : Int) (hk : k < 0 ∨ 10 ≤ k) (w : World) : Calls Tryd.prog 15 #[vV ⟨k, a, b⟩] w fun r w' => r = .returned (.int .i64 (chkN ⟨k, a, b⟩ : Nat)) ∧ Same w w' := by
  have HC : chkN ⟨k, a, b⟩ = 5 := chk_kind (by unfold Mask.okKind; simp only [Bool.and_eq_false_iff, decide_eq_false_iff_not]; omega)
  rw [HC]
  have n0 : (k == 0) = false := by simp; omega
  have n1 : (k == 1) = false := by simp; omega
  have n2 : (k == 2) = false := by simp; omega
  have n3 : (k == 3) = false := by simp; omega
  have n4 : (k == 4) = false := by simp; omega
  have n5 : (k == 5) = false := by simp; omega
  have n6 : (k == 6) = false := by simp; omega
  have n7 : (k == 7) = false := by simp; omega
  have n8 : (k == 8) = false := by simp; omega
  have n9 : (k == 9) = false := by simp; omega
  clear HC hk
  go_enter Tryd.func15, Tryd.ntmps15
  go_wp2_with fail
  go_ret
  exact ⟨rfl, by repeat (first | exact Chg.refl _ | refine Chg.drew ?_ | refine Chg.alloc _ ?_)⟩
/-- The document's Check answers as the program's. -/
theorem ref_check (v : Vl) (w : World) : Calls Tryd.prog 15 #[vV v] w fun r w' => r = .returned (.int .i64 (chkN v : Nat)) ∧ Same w w' := by
  obtain ⟨k, a, b⟩ := v
  rcases (show k < 0 ∨ 10 ≤ k ∨ k = 0 ∨ k = 1 ∨ k = 2 ∨ k = 3 ∨ k = 4 ∨ k = 5 ∨ k = 6 ∨ k = 7 ∨ k = 8 ∨ k = 9 by omega) with h | h | rfl | rfl | rfl | rfl | rfl | rfl | rfl | rfl | rfl | rfl
  · exact ref_checkN k a b (.inl h) w
  · exact ref_checkN k a b (.inr h) w
  · exact ref_check0 a b w
  · exact ref_check1 a b w
  · exact ref_check2 a b w
  · exact ref_check3 a b w
  · exact ref_check4 a b w
  · exact ref_check5 a b w
  · exact ref_check6 a b w
  · exact ref_check7 a b w
  · exact ref_check8 a b w
  · exact ref_check9 a b w
end Go.Proofs.YtegcnkcjmebheaaDoor.Tab
