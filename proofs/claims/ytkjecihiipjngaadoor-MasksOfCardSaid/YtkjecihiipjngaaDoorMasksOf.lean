/-
  MasksOf: the walk.
-/
import Derived.Test.YtkjecihiipjngaaDoorBitsSet
import Derived.Test.YtkjecihiipjngaaDoorMasksBack
import Derived.Test.YtkjecihiipjngaaDoorKept
import Derived.Test.YtkjecihiipjngaaDoorErr
namespace Go.Proofs.YtkjecihiipjngaaDoor.MasksOf
open Go Go.RowKit Go.Proofs.YtkjecihiipjngaaDoor.Mask Go.Proofs.YtkjecihiipjngaaDoor.MasksKinds

theorem okAll_mem {xs : List Int} (h : okAll xs = true) {x : Int} (hx : x ∈ xs) : 0 ≤ x ∧ x < 10 := by
  unfold okAll at h
  have := List.all_eq_true.1 h x hx
  simpa [okKind] using this
theorem mask_bit (xs : List Int) (h : okAll xs = true) (i : Nat) : (maskOf xs).testBit i = decide ((i : Int) ∈ xs) := by
  have e : xs = castL (xs.map Int.toNat) := by
    unfold castL
    rw [List.map_map]
    conv => lhs; rw [← List.map_id xs]
    apply List.map_congr_left
    intro x hx
    have := (okAll_mem h hx).1
    simp; omega
  unfold maskOf
  conv => lhs; rw [e]
  rw [MasksBack.fold_bit, Nat.zero_testBit, Bool.false_or]
  rw [Bool.eq_iff_iff]
  simp only [decide_eq_true_eq, List.mem_map]
  constructor
  · rintro ⟨x, hx, rfl⟩
    have := (okAll_mem h hx).1
    rw [Int.toNat_of_nonneg this]; exact hx
  · intro hx; exact ⟨(i : Int), hx, by simp⟩
theorem bits1 (xs : List Int) (h : okAll xs = true) : bitP (setB (fun _ => false) xs true) = bitA (maskOf xs) := by
  refine bitP_congr (fun i _ => ?_)
  rw [mask_bit xs h]
  unfold setB
  by_cases e : (i : Int) ∈ xs <;> simp [e]
theorem bits2 (m : Nat) (xs : List Int) (h : okAll xs = true) : bitP (setB m.testBit xs true) = bitA (m ||| maskOf xs) := by
  refine bitP_congr (fun i _ => ?_)
  rw [Nat.testBit_or, mask_bit xs h]
  unfold setB
  by_cases e : (i : Int) ∈ xs <;> simp [e]
theorem bits3 (m : Nat) (xs : List Int) (h : okAll xs = true) : bitP (setB m.testBit xs false) = bitA (m &&& (top - maskOf xs)) := by
  refine bitP_congr (fun i hi => ?_)
  rw [Nat.testBit_and, top_bit _ _ (by have := maskOf_lt xs h; unfold top; omega), mask_bit xs h]
  unfold setB
  by_cases e : (i : Int) ∈ xs <;> simp [e, hi]


theorem sizeA (f : Nat → Bool) : noBits.size = (bitP f).size := by simp [noBits, bitP_size]
theorem set_none (on : Bool) (v : Value) (xs : List Int) (w : World) (hr : Ints w v xs) (hl : xs.length ≤ 9223372036854775807) :
    Calls Tryd.prog 55 #[.agg noBits, v, .bool on] w fun r w' => r = .returned (setR (fun _ => false) xs on) ∧ Same w w' := set_any (fun _ => false) on v xs w hr hl
theorem set_of (m : Nat) (on : Bool) (v : Value) (xs : List Int) (w : World) (hr : Ints w v xs) (hl : xs.length ≤ 9223372036854775807) :
    Calls Tryd.prog 55 #[.agg (bitA m), v, .bool on] w fun r w' => r = .returned (setR m.testBit xs on) ∧ Same w w' := set_any m.testBit on v xs w hr hl
abbrev copyR (g cp : Nat) (xs : List Int) : Res := Row 3 1 (.slice (some ⟨g, 0, none⟩) (xs.length + 4) cp) (xs.length + 4) ((xs ++ Num.marks).map (Value.int .i64))
theorem copy_of {w0 w : World} {L : List Res} {g cp : Nat} {xs : List Int} (X : Star w0 w L) (i : Nat) (hi : L[i]? = some (copyR g cp xs)) : Num.Copy w0 w g cp xs := by
  obtain ⟨h1, h2⟩ := X.row i hi
  exact ⟨h1, h2 g rfl⟩

set_option maxRecDepth 100000 in
set_option maxHeartbeats 2000000 in
theorem walk (m : Nat) (xs : List Int) (v : Value) (w : World) (hm : m ≤ top) (hr : Ints w v xs) (hx : xs.length ≤ 17592186043904) (ad : Nat → Addr) (hE : Err.Errs w ad) :
    Calls Tryd.prog 12 #[mk m, v] w fun r w' => r = .returned (.bool true) ∧ Same w w' := by
  obtain ⟨a, c, rfl⟩ := hr.slice
  have HR := hid hr
  have HE := hid hE
  clear hr hE
  go_enter Tryd.func12, Tryd.ntmps12
  go_wp2_with fail
  refine (alive _ _ HE.out.c4).mono ?_
  rintro r w1 ⟨rfl, hs⟩
  have S1 := hid hs
  clear hs
  by_cases h1 : 200 < xs.length
  · go_wp2
    go_ret
    exact ⟨rfl, S1.out⟩
  have hx2 : xs.length ≤ 200 := by omega
  go_wp2_with fail
  refine (Num.ints_any _ xs _ (HR.out.same S1.out) (by omega)).mono ?_
  rintro r w2 ⟨g, cp, rfl, hc, hs⟩
  have X := hid (((Star.new w).go S1.out).add hs (R := copyR g cp xs) ⟨hc.own, rfl⟩ (fun k h => by simp [Value.ownBlock] at h; subst h; exact hc.new))
  have hcm : cp ≤ 9223372036854775807 := by
    rcases hc.own.2 with ⟨h, _⟩ | ⟨g', cap, cur, h, _, _, _, h2, _⟩
    · cases h
    · cases h; unfold maxLen at h2; exact h2
  clear hc hs S1
  cases hok : okAll xs
  · have HOK := hid hok
    clear hok
    go_wp2_with fail
    refine (of_any _ xs _ (copy_of X.out 0 rfl).reads (by omega) _ (X.out.keepCell HE.out.c4)).mono ?_
    rintro r w3 ⟨rfl, hs⟩
    rw [ofR_no _ HOK.out]
    have X := hid (X.out.go hs)
    clear hs
    go_wp2_with fail
    refine (with_any m hm _ xs _ (copy_of X.out 0 rfl).reads (by omega) _ _ (X.out.keepCell HE.out.c4)).mono ?_
    rintro r w4 ⟨rfl, hs⟩
    rw [chR_no _ _ HOK.out]
    have X := hid (X.out.go hs)
    clear hs
    go_wp2_with fail
    refine (without_any m hm _ xs _ (copy_of X.out 0 rfl).reads (by omega) _ _ (X.out.keepCell HE.out.c4)).mono ?_
    rintro r w5 ⟨rfl, hs⟩
    rw [chR_no _ _ HOK.out]
    have X := hid (X.out.go hs)
    clear hs
    go_wp2_with (first | (with_reducible refine at_build ?_); (refine wpList_build_big rfl _ rfl noBits builtB ?_))
    refine (set_none true _ xs _ (X.out.reads HR.out) (by omega)).mono ?_
    rintro r w8 ⟨rfl, hs⟩
    rw [setR_no _ _ _ HOK.out]
    have X := hid (X.out.go hs)
    clear hs
    go_wp2_with (first
      | (with_reducible refine at_alloc 12 ?_); (refine wpList_alloc_star X.out rfl _ rfl (.agg noBits) zeroB ?_; intro q12 w6 hX; have X := hid hX; clear hX)
      | (with_reducible refine at_store 12 ?_); (refine wpList_store_star X.out 0 rfl rfl _ _ _ rfl noBits (by rfl) (by rfl) (sizeB _) (sizeA _) (bitP_one _) ?_; intro w6 hX; have X := hid hX; clear hX)
      | (go_at_call 24; refine (from_any m hm _).mono ?_; rintro r w7 ⟨rfl, hs⟩; have X := hid (X.out.go hs); clear hs))
    refine (set_of m true _ xs _ (X.out.reads HR.out) (by omega)).mono ?_
    rintro r w8 ⟨rfl, hs⟩
    rw [setR_no _ _ _ HOK.out]
    have X := hid (X.out.go hs)
    clear hs
    go_wp2_with (first
      | (with_reducible refine at_alloc 14 ?_); (refine wpList_alloc_star X.out rfl _ rfl (.agg noBits) zeroB ?_; intro q14 w6 hX; have X := hid hX; clear hX)
      | (with_reducible refine at_store 14 ?_); (refine wpList_store_star X.out 0 rfl rfl _ _ _ rfl noBits (by rfl) (by rfl) (sizeB _) (sizeA _) (bitP_one _) ?_; intro w6 hX; have X := hid hX; clear hX)
      | (go_at_call 24; refine (from_any m hm _).mono ?_; rintro r w7 ⟨rfl, hs⟩; have X := hid (X.out.go hs); clear hs))
    refine (set_of m false _ xs _ (X.out.reads HR.out) (by omega)).mono ?_
    rintro r w8 ⟨rfl, hs⟩
    rw [setR_no _ _ _ HOK.out]
    have X := hid (X.out.go hs)
    clear hs
    go_wp2_with (first
      | (with_reducible refine at_alloc 16 ?_); (refine wpList_alloc_star X.out rfl _ rfl (.agg noBits) zeroB ?_; intro q16 w6 hX; have X := hid hX; clear hX)
      | (with_reducible refine at_store 16 ?_); (refine wpList_store_star X.out 0 rfl rfl _ _ _ rfl noBits (by rfl) (by rfl) (sizeB _) (sizeA _) (bitP_one _) ?_; intro w6 hX; have X := hid hX; clear hX))
    refine (Num.kept_any w g cp _ xs _ (copy_of X.out 3 rfl) (X.out.reads HR.out) (by omega) hcm).mono ?_
    rintro r w9 ⟨rfl, hs⟩
    have X := hid (X.out.go hs)
    clear hs
    go_wp2_with fail
    refine (Err.num ad 5 (by omega) _ (HE.out.same X.out.same)).mono ?_
    rintro r w10 ⟨rfl, hs⟩
    have X := hid (X.out.go hs)
    clear hs
    go_wp2_with fail
    refine (Err.num ad 5 (by omega) _ (HE.out.same X.out.same)).mono ?_
    rintro r w11 ⟨rfl, hs⟩
    have X := hid (X.out.go hs)
    clear hs
    go_wp2_with fail
    refine (Err.num ad 5 (by omega) _ (HE.out.same X.out.same)).mono ?_
    rintro r w12 ⟨rfl, hs⟩
    have X := hid (X.out.go hs)
    clear hs
    go_wp2
    go_ret
    exact ⟨rfl, X.out.same⟩
  · have HOK := hid hok
    clear hok
    go_wp2_with fail
    refine (of_any _ xs _ (copy_of X.out 0 rfl).reads (by omega) _ (X.out.keepCell HE.out.c4)).mono ?_
    rintro r w3 ⟨rfl, hs⟩
    rw [ofR_yes _ HOK.out]
    have X := hid (X.out.go hs)
    clear hs
    go_wp2_with fail
    refine (with_any m hm _ xs _ (copy_of X.out 0 rfl).reads (by omega) _ _ (X.out.keepCell HE.out.c4)).mono ?_
    rintro r w4 ⟨rfl, hs⟩
    rw [chR_yes _ _ HOK.out]
    have X := hid (X.out.go hs)
    clear hs
    go_wp2_with fail
    refine (without_any m hm _ xs _ (copy_of X.out 0 rfl).reads (by omega) _ _ (X.out.keepCell HE.out.c4)).mono ?_
    rintro r w5 ⟨rfl, hs⟩
    rw [chR_yes _ _ HOK.out]
    have X := hid (X.out.go hs)
    clear hs
    go_wp2_with (first | (with_reducible refine at_build ?_); (refine wpList_build_big rfl _ rfl noBits builtB ?_))
    refine (set_none true _ xs _ (X.out.reads HR.out) (by omega)).mono ?_
    rintro r w8 ⟨rfl, hs⟩
    rw [setR_yes _ _ _ HOK.out, bits1 xs HOK.out]
    have X := hid (X.out.go hs)
    clear hs
    go_wp2_with (first
      | (with_reducible refine at_alloc 12 ?_); (refine wpList_alloc_star X.out rfl _ rfl (.agg noBits) zeroB ?_; intro q12 w6 hX; have X := hid hX; clear hX)
      | (with_reducible refine at_store 12 ?_); (refine wpList_store_star X.out 0 rfl rfl _ _ _ rfl (bitA (maskOf xs)) (by rfl) (by rfl) (sizeB _) (sizeA _) (bitP_one _) ?_; intro w6 hX; have X := hid hX; clear hX)
      | (go_at_call 24; refine (from_any m hm _).mono ?_; rintro r w7 ⟨rfl, hs⟩; have X := hid (X.out.go hs); clear hs))
    refine (set_of m true _ xs _ (X.out.reads HR.out) (by omega)).mono ?_
    rintro r w8 ⟨rfl, hs⟩
    rw [setR_yes _ _ _ HOK.out, bits2 m xs HOK.out]
    have X := hid (X.out.go hs)
    clear hs
    go_wp2_with (first
      | (with_reducible refine at_alloc 14 ?_); (refine wpList_alloc_star X.out rfl _ rfl (.agg noBits) zeroB ?_; intro q14 w6 hX; have X := hid hX; clear hX)
      | (with_reducible refine at_store 14 ?_); (refine wpList_store_star X.out 0 rfl rfl _ _ _ rfl (bitA (m ||| maskOf xs)) (by rfl) (by rfl) (sizeB _) (sizeA _) (bitP_one _) ?_; intro w6 hX; have X := hid hX; clear hX)
      | (go_at_call 24; refine (from_any m hm _).mono ?_; rintro r w7 ⟨rfl, hs⟩; have X := hid (X.out.go hs); clear hs))
    refine (set_of m false _ xs _ (X.out.reads HR.out) (by omega)).mono ?_
    rintro r w8 ⟨rfl, hs⟩
    rw [setR_yes _ _ _ HOK.out, bits3 m xs HOK.out]
    have X := hid (X.out.go hs)
    clear hs
    go_wp2_with (first
      | (with_reducible refine at_alloc 16 ?_); (refine wpList_alloc_star X.out rfl _ rfl (.agg noBits) zeroB ?_; intro q16 w6 hX; have X := hid hX; clear hX)
      | (with_reducible refine at_store 16 ?_); (refine wpList_store_star X.out 0 rfl rfl _ _ _ rfl (bitA (m &&& (top - maskOf xs))) (by rfl) (by rfl) (sizeB _) (sizeA _) (bitP_one _) ?_; intro w6 hX; have X := hid hX; clear hX))
    refine (Num.kept_any w g cp _ xs _ (copy_of X.out 3 rfl) (X.out.reads HR.out) (by omega) hcm).mono ?_
    rintro r w9 ⟨rfl, hs⟩
    have X := hid (X.out.go hs)
    clear hs
    have hmk := maskOf_lt xs HOK.out
    have h1 : maskOf xs ≤ top := by unfold top; omega
    have h2 : m ||| maskOf xs ≤ top := Nat.le_of_lt_succ (Nat.or_lt_two_pow (n := 64) (by unfold top at hm; omega) (by omega))
    have h3 : m &&& (top - maskOf xs) ≤ top := Nat.le_trans Nat.and_le_left hm
    have N1 := hid (fun w => number_any (maskOf xs) h1 w)
    have N2 := hid (fun w => number_any (m ||| maskOf xs) h2 w)
    have N3 := hid (fun w => number_any (m &&& (top - maskOf xs)) h3 w)
    have XX : Hid (Star w w9 [Blk q16 (bitA (m &&& (top - maskOf xs))) 48, Blk q14 (bitA (m ||| maskOf xs)) 48, Blk q12 (bitA (maskOf xs)) 48, copyR g cp xs]) := X
    clear X h1 h2 h3 hmk
    go_wp2_with (first
      | (with_reducible refine at_load 12 ?_); (refine wpList_load_row_want (by rfl) _ _ rfl q12 (by rfl) _ (bitA (maskOf xs)) _ _ (XX.out.blk 2 rfl).1 Tryd.underlying48 rfl (sizeB _) ?_))
    refine (N1.out _).mono ?_
    rintro r w10 ⟨rfl, hs⟩
    have X10 := hid (XX.out.go hs)
    clear hs
    go_wp2_with (first
      | (with_reducible refine at_load 14 ?_); (refine wpList_load_row_want (by rfl) _ _ rfl q14 (by rfl) _ (bitA (m ||| maskOf xs)) _ _ (X10.out.blk 1 rfl).1 Tryd.underlying48 rfl (sizeB _) ?_))
    refine (N2.out _).mono ?_
    rintro r w11 ⟨rfl, hs⟩
    have X11 := hid (X10.out.go hs)
    clear hs
    go_wp2_with (first
      | (with_reducible refine at_load 16 ?_); (refine wpList_load_row_want (by rfl) _ _ rfl q16 (by rfl) _ (bitA (m &&& (top - maskOf xs))) _ _ (X11.out.blk 0 rfl).1 Tryd.underlying48 rfl (sizeB _) ?_))
    refine (N3.out _).mono ?_
    rintro r w12 ⟨rfl, hs⟩
    have X12 := hid (X11.out.go hs)
    clear hs
    go_wp2
    go_ret
    exact ⟨rfl, X12.out.same⟩
end Go.Proofs.YtkjecihiipjngaaDoor.MasksOf
