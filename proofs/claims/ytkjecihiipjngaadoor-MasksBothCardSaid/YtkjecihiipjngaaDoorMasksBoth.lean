/-
  MasksBoth: the walk.
-/
import Derived.Test.YtkjecihiipjngaaDoorMaskOf
namespace Go.Proofs.YtkjecihiipjngaaDoor.MasksBoth
open Go Go.RowKit Go.Proofs.YtkjecihiipjngaaDoor.Mask

theorem both (m a0 a1 b0 b1 : Nat) (hm : m ≤ top) (h0 : a0 ≤ top) (k0 : b0 ≤ top) (h : a0 ||| b0 ≤ top) :
    fits m (a0 ||| b0) (a1 ||| b1) = (fits m a0 a1 && fits m b0 b1) := by
  rw [Bool.eq_iff_iff, Bool.and_eq_true, fits_iff _ _ _ hm h, fits_iff _ _ _ hm h0, fits_iff _ _ _ hm k0]
  simp only [Nat.testBit_or, Bool.or_eq_true, Bool.or_eq_false_iff]
  constructor
  · rintro ⟨h1, h2⟩
    exact ⟨⟨fun i hi => h1 i (.inl hi), fun i hi => (h2 i hi).1⟩, fun i hi => h1 i (.inr hi), fun i hi => (h2 i hi).2⟩
  · rintro ⟨⟨h1, h2⟩, h3, h4⟩
    exact ⟨fun i hi => hi.elim (h1 i) (h3 i), fun i hi => ⟨h2 i hi, h4 i hi⟩⟩
theorem self (m : Nat) (hm : m ≤ top) : fits m m (top - m) = true := by
  rw [fits_iff _ _ _ hm hm]
  exact ⟨fun i h => h, fun i h => by rw [top_bit m i hm, h]; simp⟩
theorem nothing (m : Nat) (hm : m ≤ top) : fits m 0 0 = true := by
  rw [fits_iff _ _ _ hm (by decide)]
  simp

theorem not_bits (m : Nat) (hm : m ≤ top) : bits .xor .u64 IntKind.u64.max (m : Int) = ((top - m : Nat) : Int) := by
  have h := u64_xor_nat top m (by decide) (by unfold top at hm; omega)
  refine Eq.trans (show _ = bits .xor .u64 ((top : Nat) : Int) (m : Int) from rfl) (h.trans ?_)
  congr 1
  apply Nat.eq_of_testBit_eq
  intro i
  rw [top_bit m i hm, Nat.testBit_xor, show top = 2 ^ 64 - 1 from rfl, Nat.testBit_two_pow_sub_one]
  by_cases hi : i < 64
  · simp [hi]
  · have hf : m.testBit i = false := Nat.testBit_lt_two_pow (Nat.lt_of_lt_of_le (show m < 2 ^ 64 by unfold top at hm; omega) (Nat.pow_le_pow_right (by omega) (by omega)))
    simp [hi, hf]

set_option maxRecDepth 100000 in
theorem walk (m a0 a1 b0 b1 : Nat) (w : World) (hm : m ≤ top) (h0 : a0 ≤ top) (h1 : a1 ≤ top) (k0 : b0 ≤ top) (k1 : b1 ≤ top) (e : Value) (he : w.cell? ⟨4, 0, none⟩ = some e) :
    Calls Tryd.prog 5 #[mk m, .agg #[mk a0, mk a1], .agg #[mk b0, mk b1]] w fun r w' => r = .returned (.bool true) ∧ Same w w' := by
  have hs0 : ∀ o, Same w (w.alloc o) := fun o => (Chg.refl _).alloc o
  have hs1 : ∀ o o', Same w ((w.alloc o).alloc o') := fun o o' => ((Chg.refl _).alloc o).alloc o'
  have HS1 := hid hs1
  have ha0 := u64_or_nat a0 b0 (by unfold top at h0; omega) (by unfold top at k0; omega)
  have ha1 := u64_or_nat a1 b1 (by unfold top at h1; omega) (by unfold top at k1; omega)
  have l0 : a0 ||| b0 ≤ top := Nat.le_of_lt_succ (Nat.or_lt_two_pow (n := 64) (by unfold top at h0; omega) (by unfold top at k0; omega))
  have l1 : a1 ||| b1 ≤ top := Nat.le_of_lt_succ (Nat.or_lt_two_pow (n := 64) (by unfold top at h1; omega) (by unfold top at k1; omega))
  have HB := hid (both m a0 a1 b0 b1 hm h0 k0 l0)
  clear hs0 hs1
  go_enter Tryd.func5, Tryd.ntmps5
  go_wp2_with fail
  refine (alive _ e ((HS1.out _ _).keep he)).mono ?_
  rintro r w1 ⟨rfl, hsa⟩
  have q0 := hsa.heap (alloc2_first w _ _) (fun f => f)
  have q1 := hsa.heap (alloc2_new w _ _) (fun f => f)
  have c0 := cell_of q0 0
  have c1 := cell_of q0 1
  have c2 := cell_of q1 0
  have c3 := cell_of q1 1
  have S1 := hid ((HS1.out _ _).trans hsa (fun _ _ f => f))
  clear hsa q0 q1
  generalize w.heap.size = q at *
  go_wp2_with fail
  refine (fits_any m a0 a1 hm h0 h1 _).mono ?_
  rintro r w2 ⟨rfl, rfl⟩
  go_wp2_with fail
  refine (fits_any m b0 b1 hm k0 k1 _).mono ?_
  rintro r w2 ⟨rfl, rfl⟩
  generalize fits m a0 a1 = x at *
  generalize fits m b0 b1 = y at *
  cases x <;> cases y
  all_goals
    (go_wp2_with fail
     refine (fits_any m _ _ hm l0 l1 _).mono ?_
     rintro r w2 ⟨rfl, rfl⟩
     rw [HB.out]
     go_wp2_with fail
     skip)
  all_goals
    (rw [not_bits m hm]
     refine (fits_any m m (top - m) hm hm (Nat.sub_le _ _) _).mono ?_
     rintro r w2 ⟨rfl, rfl⟩
     rw [self m hm]
     go_wp2_with fail
     refine (fits_any m 0 0 hm (by decide) (by decide) _).mono ?_
     rintro r w2 ⟨rfl, rfl⟩
     rw [nothing m hm]
     go_wp2
     go_ret
     exact ⟨rfl, S1.out⟩)
end Go.Proofs.YtkjecihiipjngaaDoor.MasksBoth
