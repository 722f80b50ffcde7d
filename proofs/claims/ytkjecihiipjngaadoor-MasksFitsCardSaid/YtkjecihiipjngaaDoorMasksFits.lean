/-
  MasksFits: the walk.
-/
import Derived.Test.YtkjecihiipjngaaDoorMaskOf
import Derived.Test.YtkjecihiipjngaaDoorBits
namespace Go.Proofs.YtkjecihiipjngaaDoor.MasksFits
open Go Go.RowKit Go.Proofs.YtkjecihiipjngaaDoor.Mask

theorem testBit_big {n i : Nat} (hn : n ≤ top) (hi : 64 ≤ i) : n.testBit i = false :=
  Nat.testBit_lt_two_pow (Nat.lt_of_lt_of_le (show n < 2 ^ 64 by unfold top at hn; omega) (Nat.pow_le_pow_right (by omega) hi))
theorem fitB_iff (b f g : Nat → Bool) : fitB b f g = true ↔ ∀ i, i < 64 → (f i = true → b i = true) ∧ (b i = true → g i = false) := by
  unfold fitB
  rw [List.all_eq_true]
  constructor
  · intro h i hi
    have := h i (List.mem_range.2 hi)
    unfold okAt at this
    revert this
    cases b i <;> cases f i <;> cases g i <;> simp
  · intro h i hi
    have := h i (List.mem_range.1 hi)
    unfold okAt
    revert this
    cases b i <;> cases f i <;> cases g i <;> simp
theorem fitB_fits (m a b : Nat) (hm : m ≤ top) (ha : a ≤ top) : fitB m.testBit a.testBit b.testBit = fits m a b := by
  rw [Bool.eq_iff_iff, fitB_iff, fits_iff _ _ _ hm ha]
  constructor
  · intro h
    refine ⟨fun i hi => ?_, fun i hi => ?_⟩
    · rcases Nat.lt_or_ge i 64 with h' | h'
      · exact (h i h').1 hi
      · rw [testBit_big ha h'] at hi; cases hi
    · rcases Nat.lt_or_ge i 64 with h' | h'
      · exact (h i h').2 hi
      · rw [testBit_big hm h'] at hi; cases hi
  · rintro ⟨h1, h2⟩ i _
    exact ⟨h1 i, h2 i⟩
theorem fitB_holds (m a : Nat) (hm : m ≤ top) (ha : a ≤ top) : fitB m.testBit a.testBit (fun _ => false) = holds m a := by
  rw [Bool.eq_iff_iff, fitB_iff, holds_iff _ _ hm ha]
  constructor
  · intro h i hi
    rcases Nat.lt_or_ge i 64 with h' | h'
    · exact (h i h').1 hi
    · rw [testBit_big ha h'] at hi; cases hi
  · intro h i _
    exact ⟨h i, fun _ => rfl⟩
theorem fitB_meets (m b : Nat) (hm : m ≤ top) : fitB m.testBit (fun _ => false) b.testBit = !meets m b := by
  rw [Bool.eq_iff_iff, fitB_iff, Bool.not_eq_true', ← Bool.not_eq_true, meets_iff]
  constructor
  · rintro h ⟨i, h1, h2⟩
    rcases Nat.lt_or_ge i 64 with h' | h'
    · rw [(h i h').2 h1] at h2; cases h2
    · rw [testBit_big hm h'] at h1; cases h1
  · intro h i _
    refine ⟨fun f => (by cases f), fun hi => ?_⟩
    cases hb : b.testBit i with
    | false => rfl
    | true => exact absurd ⟨i, hi, hb⟩ h

theorem fits1 (m a b : Nat) (hm : m ≤ top) (ha : a ≤ top) (w : World) : Calls Tryd.prog 25 #[.agg (bitP m.testBit), .agg (bitP a.testBit), .agg (bitP b.testBit)] w fun r w' => r = .returned (.bool (fits m a b)) ∧ Same w w' := by
  rw [← fitB_fits m a b hm ha]; exact fitB_any _ _ _ w
theorem fits2 (m a : Nat) (hm : m ≤ top) (ha : a ≤ top) (w : World) : Calls Tryd.prog 25 #[.agg (bitP m.testBit), .agg (bitP a.testBit), .agg (bitP (fun _ => false))] w fun r w' => r = .returned (.bool (holds m a)) ∧ Same w w' := by
  rw [← fitB_holds m a hm ha]; exact fitB_any _ _ _ w
theorem fits3 (m b : Nat) (hm : m ≤ top) (w : World) : Calls Tryd.prog 25 #[.agg (bitP m.testBit), .agg (bitP (fun _ => false)), .agg (bitP b.testBit)] w fun r w' => r = .returned (.bool (!meets m b)) ∧ Same w w' := by
  rw [← fitB_meets m b hm]; exact fitB_any _ _ _ w

theorem less_any (m n : Nat) (w : World) : Calls Tryd.prog 28 #[mk m, mk n] w fun r w' => r = .returned (.bool (decide (m < n))) ∧ w = w' := by
  go_enter Tryd.func28, Tryd.ntmps28
  go_wp2
  go_ret
  exact ⟨rfl, rfl⟩

set_option maxRecDepth 100000 in
set_option maxHeartbeats 2000000 in
theorem walk (m a b : Nat) (w : World) (hm : m ≤ top) (ha : a ≤ top) (hb : b ≤ top) (e : Value) (he : w.cell? ⟨4, 0, none⟩ = some e) :
    Calls Tryd.prog 6 #[mk m, mk a, mk b] w fun r w' => r = .returned (.bool true) ∧ Same w w' := by
  go_enter Tryd.func6, Tryd.ntmps6
  go_wp2_with fail
  refine (alive _ e he).mono ?_
  rintro r w1 ⟨rfl, hs⟩
  have S := hid hs
  clear hs
  go_wp2_with fail
  refine (from_any m hm _).mono ?_
  rintro r w2 ⟨rfl, hs⟩
  have S := hid (S.out.trans hs (fun _ _ f => f))
  clear hs
  go_wp2_with fail
  refine (from_any a ha _).mono ?_
  rintro r w3 ⟨rfl, hs⟩
  have S := hid (S.out.trans hs (fun _ _ f => f))
  clear hs
  go_wp2_with fail
  refine (from_any b hb _).mono ?_
  rintro r w4 ⟨rfl, hs⟩
  have X := hid ((Star.new w).go (S.out.trans hs (fun _ _ f => f)))
  clear hs
  go_wp2_with (first
    | (with_reducible refine at_alloc 7 ?_); (refine wpList_alloc_star X.out rfl _ rfl (.agg noBits) zeroB ?_; intro q7 w5 hX; have X := hid hX; clear hX)
    | (with_reducible refine at_alloc 8 ?_); (refine wpList_alloc_star X.out rfl _ rfl (.agg noBits) zeroB ?_; intro q8 w5 hX; have X := hid hX; clear hX)
    | (with_reducible refine at_alloc 9 ?_); (refine wpList_alloc_star X.out rfl _ rfl (.agg noBits) zeroB ?_; intro q9 w5 hX; have X := hid hX; clear hX)
    | (with_reducible refine at_alloc 10 ?_); (refine wpList_alloc_star X.out rfl _ rfl (.agg noBits) zeroB ?_; intro q10 w5 hX; have X := hid hX; clear hX)
    | (with_reducible refine at_build ?_); (refine wpList_build_big rfl _ rfl noBits builtB ?_)
    | (with_reducible refine at_store 7 ?_); (refine wpList_store_star X.out 2 rfl rfl _ _ _ rfl (bitA m) (by rfl) (by rfl) (sizeB _) (by simp [Value.cells, noBits, bitA, bitP_size]) (bitP_one _) ?_; intro w5 hX; have X := hid hX; clear hX)
    | (with_reducible refine at_store 8 ?_); (refine wpList_store_star X.out 1 rfl rfl _ _ _ rfl (bitA a) (by rfl) (by rfl) (sizeB _) (by simp [Value.cells, noBits, bitA, bitP_size]) (bitP_one _) ?_; intro w5 hX; have X := hid hX; clear hX)
    | (with_reducible refine at_store 9 ?_); (refine wpList_store_star X.out 0 rfl rfl _ _ _ rfl (bitA b) (by rfl) (by rfl) (sizeB _) (by simp [Value.cells, noBits, bitA, bitP_size]) (bitP_one _) ?_; intro w5 hX; have X := hid hX; clear hX)
    | (with_reducible refine at_store 10 ?_); (refine wpList_store_star X.out 0 rfl rfl _ _ _ rfl noBits (by rfl) (by rfl) (sizeB _) (by simp [Value.cells, noBits, bitA, bitP_size]) (bitP_one _) ?_; intro w5 hX; have X := hid hX; clear hX))
  have hl : ∀ (i g : Nat) (f : Nat → Bool), ([Blk q10 noBits 48, Blk q9 (bitA b) 48, Blk q8 (bitA a) 48, Blk q7 (bitA m) 48] : List Res)[i]? = some (Blk g (bitP f) 48) → ∀ n : SameW w5, (Instr.loadAt 48 (.pointer (some ⟨g, 0, none⟩))).run Tryd.prog n.w = .ok (.agg (bitP f)) n.w := by
    intro i g f h n
    have X' : Star w w5 [Blk q10 noBits 48, Blk q9 (bitA b) 48, Blk q8 (bitA a) 48, Blk q7 (bitA m) 48] := X.out
    exact loadAt_row (n.same.heap (X'.blk i h).1 (fun f => f)) Tryd.underlying48 rfl (sizeB _)
  have l10 := hl 0 _ _ rfl
  have l9 := hl 1 _ _ rfl
  have l8 := hl 2 _ _ rfl
  have l7 := hl 3 _ _ rfl
  have SS := hid X.out.same
  clear hl he
  refine wp_region_same (by kernel_rfl) (by kernel_rfl) ?_
  repeat (first
    | ((with_reducible refine at_loadQ 7 ?_); go_big_quiet_want; (refine quiet_loadS rfl rfl l7 ?_); go_frame; go_big_quiet_on)
    | ((with_reducible refine at_loadQ 8 ?_); go_big_quiet_want; (refine quiet_loadS rfl rfl l8 ?_); go_frame; go_big_quiet_on)
    | ((with_reducible refine at_loadQ 9 ?_); go_big_quiet_want; (refine quiet_loadS rfl rfl l9 ?_); go_frame; go_big_quiet_on)
    | ((with_reducible refine at_loadQ 10 ?_); go_big_quiet_want; (refine quiet_loadS rfl rfl l10 ?_); go_frame; go_big_quiet_on)
    | go_big_quiet_step (first
      | (go_at_call 23; with_reducible exact Calls.same_of_eq (fits_any m a b hm ha hb _))
      | (go_at_call 26; with_reducible exact Calls.same_of_eq (holds_any m a hm ha _))
      | (go_at_call 27; with_reducible exact Calls.same_of_eq (meets_any m b hm hb _))
      | (go_at_call 28; with_reducible exact Calls.same_of_eq (less_any m a _))
      | (go_at_call 25; first
          | with_reducible exact Calls.same_of (fits1 m a b hm ha _)
          | with_reducible exact Calls.same_of (fits2 m a hm ha _)
          | with_reducible exact Calls.same_of (fits3 m b hm _))))
  refine wpQuiet_nil ?_
  intro _ hw'
  obtain ⟨n, hw''⟩ := hw'
  subst hw''
  go_wp2
  go_ret
  exact ⟨rfl, SS.out.trans n.same (fun _ _ f => f)⟩
end Go.Proofs.YtkjecihiipjngaaDoor.MasksFits
