/-
  Package masks: masks as natural numbers; Holds, Meets, Fits; bits.
-/
import Derived.Test.YtkjecihiipjngaaDoorProg
import Derived.Test.YtkjecihiipjngaaDoorLib
import Derived.Laws.BitsAllLaws
namespace Go.Proofs.YtkjecihiipjngaaDoor.Mask
open Go Go.RowKit

/-- A mask's value. -/
abbrev mk (m : Nat) : Value := .int .u64 m
abbrev top : Nat := 18446744073709551615

/-- Has m all bits of n? Has it one of them? -/
def holds (m n : Nat) : Bool := n &&& (top - m) == 0
def meets (m n : Nat) : Bool := m &&& n != 0
def fits (m a b : Nat) : Bool := holds m a && !meets m b

theorem top_bit (m i : Nat) (hm : m ≤ top) : (top - m).testBit i = (decide (i < 64) && !m.testBit i) := by
  have := Nat.testBit_two_pow_sub_succ (x := m) (n := 64) (by unfold top at hm; omega) i
  rw [← this]
  congr 1
  unfold top; omega

theorem holds_iff (m n : Nat) (hm : m ≤ top) (hn : n ≤ top) : holds m n = true ↔ ∀ i, n.testBit i = true → m.testBit i = true := by
  unfold holds
  rw [beq_iff_eq]
  constructor
  · intro h i hi
    have h2 : (n &&& (top - m)).testBit i = false := by rw [h]; simp
    rw [Nat.testBit_and, hi, top_bit m i hm] at h2
    have hlt : i < 64 := by
      rcases Nat.lt_or_ge i 64 with h | h
      · exact h
      · have := Nat.testBit_lt_two_pow (x := n) (i := i) (Nat.lt_of_lt_of_le (show n < 2 ^ 64 by unfold top at hn; omega) (Nat.pow_le_pow_right (by omega) h))
        rw [hi] at this; cases this
    simpa [hlt] using h2
  · intro h
    apply Nat.eq_of_testBit_eq
    intro i
    rw [Nat.testBit_and, top_bit m i hm, Nat.zero_testBit]
    cases hn' : n.testBit i with
    | false => rfl
    | true => simp [h i hn']

theorem meets_iff (m n : Nat) : meets m n = true ↔ ∃ i, m.testBit i = true ∧ n.testBit i = true := by
  unfold meets
  rw [bne_iff_ne]
  constructor
  · intro h
    obtain ⟨i, hi⟩ := Nat.exists_testBit_of_ne_zero h
    rw [Nat.testBit_and, Bool.and_eq_true] at hi
    exact ⟨i, hi⟩
  · rintro ⟨i, h1, h2⟩ h
    have : (m &&& n).testBit i = false := by rw [h]; simp
    rw [Nat.testBit_and, h1, h2] at this
    cases this

theorem fits_iff (m a b : Nat) (hm : m ≤ top) (ha : a ≤ top) : fits m a b = true ↔ (∀ i, a.testBit i = true → m.testBit i = true) ∧ ∀ i, m.testBit i = true → b.testBit i = false := by
  unfold fits
  rw [Bool.and_eq_true, holds_iff m a hm ha, Bool.not_eq_true', ← Bool.not_eq_true, meets_iff]
  constructor
  · rintro ⟨h1, h2⟩
    refine ⟨h1, fun i hi => ?_⟩
    cases hb : b.testBit i with
    | false => rfl
    | true => exact absurd ⟨i, hi, hb⟩ h2
  · rintro ⟨h1, h2⟩
    refine ⟨h1, ?_⟩
    rintro ⟨i, hi, hb⟩
    rw [h2 i hi] at hb; cases hb

theorem holds_any (m n : Nat) (hm : m ≤ top) (hn : n ≤ top) (w : World) : Calls Tryd.prog 26 #[mk m, mk n] w fun r w' => r = .returned (.bool (holds m n)) ∧ w = w' := by
  have hb := u64_andNot_nat n m (by unfold top at hn; omega) (by unfold top at hm; omega)
  go_enter Tryd.func26, Tryd.ntmps26
  go_wp2
  go_ret
  refine ⟨ret_bool ?_, rfl⟩
  unfold holds top
  rw [Bool.eq_iff_iff]
  simp
theorem meets_any (m n : Nat) (hm : m ≤ top) (hn : n ≤ top) (w : World) : Calls Tryd.prog 27 #[mk m, mk n] w fun r w' => r = .returned (.bool (meets m n)) ∧ w = w' := by
  have hb := u64_and_nat m n (by unfold top at hm; omega) (by unfold top at hn; omega)
  go_enter Tryd.func27, Tryd.ntmps27
  go_wp2
  go_ret
  refine ⟨ret_bool ?_, rfl⟩
  unfold meets
  rw [Bool.eq_iff_iff]
  simp

set_option maxRecDepth 100000 in
theorem fits_any (m a b : Nat) (hm : m ≤ top) (ha : a ≤ top) (hb : b ≤ top) (w : World) : Calls Tryd.prog 23 #[mk m, mk a, mk b] w fun r w' => r = .returned (.bool (fits m a b)) ∧ w = w' := by
  go_enter Tryd.func23, Tryd.ntmps23
  cases hh : holds m a with
  | false =>
    go_wp2_with (go_at_call 26; refine (holds_any m a hm ha _).mono ?_; rintro r w1 ⟨rfl, rfl⟩; rw [hh])
    go_ret
    exact ⟨ret_bool (by simp [fits, hh]), rfl⟩
  | true =>
    go_wp2_with fail
    refine (holds_any m a hm ha _).mono ?_; rintro r w1 ⟨rfl, rfl⟩
    rw [hh]
    go_wp2_with fail
    refine (meets_any m b hm hb _).mono ?_; rintro r w1 ⟨rfl, rfl⟩
    go_wp2
    go_ret
    exact ⟨ret_bool (by simp [fits, hh]), rfl⟩

theorem bit_no (k : Int) (hk : k < 0 ∨ 10 ≤ k) (w : World) : Calls Tryd.prog 61 #[.int .i64 k] w fun r w' => r = .returned (mk 0) ∧ w = w' := by
  go_enter Tryd.func61, Tryd.ntmps61
  rcases hk with h | h
  · go_wp2
    go_ret
    exact ⟨rfl, rfl⟩
  · by_cases h2 : k < 0
    · omega
    · go_wp2
      go_ret
      exact ⟨rfl, rfl⟩
theorem bit_yes (k : Nat) (hk : k < 10) (w : World) : Calls Tryd.prog 61 #[.int .i64 k] w fun r w' => r = .returned (mk (2 ^ k)) ∧ w = w' := by
  have hn : ¬ ((k : Int) < 0) := by omega
  have hn2 : ¬ ((10 : Int) ≤ k) := by omega
  have hp : IntKind.u64.wrap (2 ^ k) = ((2 ^ k : Nat) : Int) := by
    rcases k with _ | _ | _ | _ | _ | _ | _ | _ | _ | _ | k
    all_goals first | rfl | omega
  go_enter Tryd.func61, Tryd.ntmps61
  go_wp2
  go_ret
  refine ⟨?_, rfl⟩
  show Ending.returned (.int .u64 ((2 : Int) ^ k)) = _
  rw [show ((2 : Int) ^ k) = ((2 ^ k : Nat) : Int) from (Int.natCast_pow 2 k).symm]
end Go.Proofs.YtkjecihiipjngaaDoor.Mask
