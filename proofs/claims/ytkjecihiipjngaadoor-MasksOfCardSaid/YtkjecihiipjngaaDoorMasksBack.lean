/-
  MasksBack: the walk.
-/
import Derived.Test.YtkjecihiipjngaaDoorMasksKinds
namespace Go.Proofs.YtkjecihiipjngaaDoor.MasksBack
open Go Go.RowKit Go.Proofs.YtkjecihiipjngaaDoor.Mask Go.Proofs.YtkjecihiipjngaaDoor.MasksKinds

theorem fold_bit (l : List Nat) : ∀ (m i : Nat), ((castL l).foldl (fun m k => m ||| 2 ^ k.toNat) m).testBit i = (m.testBit i || decide (i ∈ l)) := by
  induction l with
  | nil => intro m i; simp [castL]
  | cons k l ih =>
    intro m i
    simp only [castL, List.map_cons, List.foldl_cons]
    have := ih (m ||| 2 ^ k) i
    simp only [castL] at this
    rw [Int.toNat_natCast, this, Nat.testBit_or, Nat.testBit_two_pow]
    by_cases e : k = i
    · subst e; simp
    · have e' : ¬ i = k := fun h => e h.symm
      simp [e, e']
theorem back (m : Nat) (hm : m < 1024) : okAll (castL (bitsOf m)) = true ∧ maskOf (castL (bitsOf m)) = m := by
  have h10 : ∀ i, m.testBit i = true → i < 10 := fun i hi => by
    rcases Nat.lt_or_ge i 10 with h' | h'
    · exact h'
    · have := Nat.testBit_lt_two_pow (x := m) (i := i) (Nat.lt_of_lt_of_le hm (Nat.pow_le_pow_right (n := 2) (by omega) h'))
      rw [this] at hi; cases hi
  constructor
  · unfold okAll
    rw [List.all_eq_true]
    intro x hx
    simp only [castL, List.mem_map] at hx
    obtain ⟨i, hi, rfl⟩ := hx
    have := h10 i ((mem_bitsOf m i).1 hi).2
    simp [okKind]
    omega
  · unfold maskOf
    apply Nat.eq_of_testBit_eq
    intro i
    rw [fold_bit, Nat.zero_testBit, Bool.false_or]
    rw [Bool.eq_iff_iff, decide_eq_true_eq, mem_bitsOf]
    exact ⟨fun h => h.2, fun h => ⟨by have := h10 i h; omega, h⟩⟩
theorem gone_same (m k : Nat) (hm : m ≤ top) (hk : k < 10) : (m ||| 2 ^ k) &&& (top - 2 ^ k) = m &&& (top - 2 ^ k) := by
  have hp : 2 ^ k ≤ top := by have := Nat.pow_lt_pow_right (n := 10) (a := 2) (by omega) hk; unfold top; omega
  apply Nat.eq_of_testBit_eq
  intro i
  rw [Nat.testBit_and, Nat.testBit_and, Nat.testBit_or, top_bit _ _ hp, Nat.testBit_two_pow]
  by_cases e : k = i
  · subst e; simp
  · simp [e]
theorem one_mask (k : Nat) : maskOf [(k : Int)] = 2 ^ k := by simp [maskOf]
set_option maxRecDepth 100000 in
set_option maxHeartbeats 1000000 in
theorem walk (m0 : Nat) (k0 : Int) (w : World) (hT : Tab w) (T : TypeId) (u : Addr) (he : w.cell? ⟨4, 0, none⟩ = some (.iface T (.pointer (some u)))) :
    Calls Tryd.prog 10 #[mk m0, .int .i64 k0] w fun r w' => r = .returned (.bool true) ∧ Same w w' := by
  have HT := hid hT
  have HE := hid he
  obtain ⟨k, hk, hmod⟩ := mod_small k0 10 (by omega) (by omega)
  have hmod2 : wrap64 ((IntKind.u64.wrap k0).tmod 10) = (k : Int) := hmod
  have hm1 : m0 % 1024 < 1024 := Nat.mod_lt _ (by omega)
  clear hT he hmod
  go_enter Tryd.func10, Tryd.ntmps10
  go_wp2_with fail
  refine (alive _ _ HE.out).mono ?_
  rintro r w1 ⟨rfl, hs⟩
  have S := hid hs
  clear hs
  go_wp2_with fail
  rw [show ((m0 : Int) % 1024) = ((m0 % 1024 : Nat) : Int) by omega, hmod2]
  clear hmod2
  generalize m0 % 1024 = m at *
  have hm : m ≤ top := by unfold top; omega
  obtain ⟨hok, hback⟩ := back m hm1
  have HOK := hid hok
  have HB := hid hback
  have hok1 : okAll [(k : Int)] = true := by simp [okAll, okKind]; omega
  have HOK1 := hid hok1
  have h1 := one_mask k
  have HM1 := hid h1
  have hp : 2 ^ k ≤ top := by have := Nat.pow_lt_pow_right (n := 10) (a := 2) (by omega) hk; unfold top; omega
  have hw : m ||| 2 ^ k ≤ top := Nat.le_of_lt_succ (Nat.or_lt_two_pow (n := 64) (by unfold top at hm; omega) (by unfold top at hp; omega))
  have hg : m &&& (top - 2 ^ k) ≤ top := Nat.le_trans Nat.and_le_left hm
  have G := hid (gone_same m k hm hk)
  have H1 := hid (show (okKind (k : Int) && (m ||| 2 ^ k).testBit (k : Int).toNat) = true by simp [okKind, Nat.testBit_or]; omega)
  have H2 := hid (show (okKind (k : Int) && (m &&& (top - 2 ^ k)).testBit (k : Int).toNat) = false by
    rw [Int.toNat_natCast, Nat.testBit_and, top_bit _ _ hp, Nat.testBit_two_pow]; simp)
  have H3 := hid (show holds (m ||| 2 ^ k) m = true by rw [holds_iff _ _ hw hm]; intro i hi; rw [Nat.testBit_or, hi]; rfl)
  have H4 := hid (show holds m (m &&& (top - 2 ^ k)) = true by rw [holds_iff _ _ hm hg]; intro i hi; rw [Nat.testBit_and, Bool.and_eq_true] at hi; exact hi.1)
  have hbl := bitsOf_len m
  have hcl : (castL (bitsOf m)).length = (bitsOf m).length := by simp [castL]
  have HCL := hid hcl
  clear hok hback hok1 h1 hcl
  generalize 2 ^ k = b at *
  refine (kinds_any ((Star.new w).go S.out) m hm HT.out).mono ?_
  rintro r w2 ⟨vk, rfl, hX⟩
  have X := hid hX
  have IK := hid (natRow_ints hX 0 rfl)
  clear hX
  go_wp2_with fail
  refine (of_any _ _ _ IK.out (by rw [HCL.out]; omega) _ (X.out.keepCell HE.out)).mono ?_
  rintro r w3 ⟨rfl, hs⟩
  rw [ofR_yes _ HOK.out, HB.out]
  have S3 := hid (X.out.same.trans hs (fun _ _ f => f))
  clear hs
  go_wp2_with fail
  refine (with_any m hm _ [(k : Int)] _ (reads_lit #[.int .i64 k] 3 1 1 (by omega) rfl) (by simp) T u ((S3.out.alloc _).keep HE.out)).mono ?_
  rintro r w4 ⟨rfl, hs⟩
  rw [chR_yes _ _ HOK1.out, HM1.out]
  have S4 := hid ((S3.out.alloc _).trans hs (fun _ _ f => f))
  clear hs
  go_wp2_with fail
  refine (without_any (m ||| b) hw _ [(k : Int)] _ (reads_lit #[.int .i64 k] 3 1 1 (by omega) rfl) (by simp) T u ((S4.out.alloc _).keep HE.out)).mono ?_
  rintro r w5 ⟨rfl, hs⟩
  rw [chR_yes _ _ HOK1.out, HM1.out, G.out]
  have S5 := hid ((S4.out.alloc _).trans hs (fun _ _ f => f))
  clear hs
  go_wp2_with fail
  refine (without_any m hm _ [(k : Int)] _ (reads_lit #[.int .i64 k] 3 1 1 (by omega) rfl) (by simp) T u ((S5.out.alloc _).keep HE.out)).mono ?_
  rintro r w6 ⟨rfl, hs⟩
  rw [chR_yes _ _ HOK1.out, HM1.out]
  have S6 := hid ((S5.out.alloc _).trans hs (fun _ _ f => f))
  clear hs
  go_wp2_with fail
  refine (has_any (m ||| b) hw (k : Int) _).mono ?_
  rintro r w7 ⟨rfl, rfl⟩
  rw [H1.out]
  go_wp2_with fail
  refine (has_any (m &&& (top - b)) hg (k : Int) _).mono ?_
  rintro r w7 ⟨rfl, rfl⟩
  rw [H2.out]
  go_wp2_with fail
  refine (holds_any (m ||| b) m hw hm _).mono ?_
  rintro r w7 ⟨rfl, rfl⟩
  rw [H3.out]
  go_wp2_with fail
  refine (holds_any m (m &&& (top - b)) hm hg _).mono ?_
  rintro r w7 ⟨rfl, rfl⟩
  rw [H4.out]
  go_wp2
  go_ret
  exact ⟨rfl, S6.out⟩
end Go.Proofs.YtkjecihiipjngaaDoor.MasksBack
