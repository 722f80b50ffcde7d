/-
  MasksKinds: the walk.
-/
import Derived.Test.YtkjecihiipjngaaDoorMaskKinds
import Derived.Test.YtkjecihiipjngaaDoorMaskWith
import Derived.Test.YtkjecihiipjngaaDoorNum
namespace Go.Proofs.YtkjecihiipjngaaDoor.MasksKinds
open Go Go.RowKit Go.Proofs.YtkjecihiipjngaaDoor.Mask

theorem count_any (m : Nat) (hm : m ≤ top) (w : World) : Calls Tryd.prog 34 #[mk m] w fun r w' => r = .returned (.int .i64 (bitsOf m).length) ∧ w = w' := by
  go_enter Tryd.func34, Tryd.ntmps34
  go_wp2_with fail
  refine (ones_any m hm _).mono ?_
  rintro r w1 ⟨rfl, rfl⟩
  go_wp2
  go_ret
  exact ⟨rfl, rfl⟩
theorem right_any (m : Nat) (w : World) : Calls Tryd.prog 35 #[mk m] w fun r w' => r = .returned (.bool (decide (m < 1024))) ∧ w = w' := by
  go_enter Tryd.func35, Tryd.ntmps35
  go_wp2
  go_ret
  refine ⟨ret_bool ?_, rfl⟩
  rw [Bool.eq_iff_iff]
  simp
  omega
theorem kind_any (k : Int) (w : World) : Calls Tryd.prog 36 #[.int .i64 k] w fun r w' => r = .returned (.bool (okKind k)) ∧ w = w' := by
  by_cases h0 : 0 ≤ k
  · go_enter Tryd.func36, Tryd.ntmps36
    go_wp2
    go_ret
    refine ⟨ret_bool ?_, rfl⟩
    rw [Bool.eq_iff_iff]
    simp [okKind]
    omega
  · go_enter Tryd.func36, Tryd.ntmps36
    go_wp2
    go_ret
    refine ⟨ret_bool ?_, rfl⟩
    rw [Bool.eq_iff_iff]
    simp [okKind]
    omega

set_option maxRecDepth 100000 in
theorem in_any (v : Value) (xs : List Int) (y : Int) (w : World) (hr : Ints w v xs) (hx : xs.length ≤ 9223372036854775807) :
    Calls Tryd.prog 37 #[v, .int .i64 y] w fun r w' => r = .returned (.bool (decide (y ∈ xs))) ∧ w = w' := by
  obtain ⟨a, c, rfl⟩ := hr.slice
  have HR := hid hr
  obtain ⟨n, hn⟩ : ∃ n, n = xs.length := ⟨_, rfl⟩
  rw [← hn] at hx
  simp only [← hn] at HR ⊢
  have HN := hid hn
  clear hr hn
  go_enter Tryd.func37, Tryd.ntmps37
  go_wp2
  go_loop [9] (fun iv => ∃ k : Nat, k ≤ n ∧ iv = .int .i64 k ∧ ∀ j (h : j < xs.length), j < k → xs[j] ≠ y) (fun iv => n - (intOf iv).toNat)
  case atStart => exact ⟨0, by omega, rfl, fun j _ h => by omega⟩
  case round =>
    obtain ⟨k, hk, rfl, hall⟩ := hrel
    have HA := hid hall
    clear hall
    by_cases hlt : k < n
    · obtain ⟨b, off, cap, e1, hb, hcl⟩ := HR.out.open (by have := HN.out; omega)
      cases e1
      have hkx : k < xs.length := by have := HN.out; omega
      have g0 := hcl k (.int .i64 xs[k]) (by simp [hkx])
      have HM := hid (List.getElem_mem hkx)
      have HS := hid (show xs[k] ≠ y → ∀ j (h : j < xs.length), j < k + 1 → xs[j] ≠ y by
        intro hne j h hj
        by_cases e : j = k
        · subst e; exact hne
        · exact HA.out j h (by omega))
      clear hcl
      generalize xs[k] = x at *
      by_cases e : x = y
      · subst e
        go_wp2
        go_ret
        exact ⟨ret_bool (decide_eq_true HM.out).symm, rfl⟩
      · have hne : (x == y) = false := by simpa using e
        go_wp2
        go_round
        case rel => exact ⟨k + 1, by omega, by go_num, HS.out e⟩
        case measure => simp [intOf]; omega
    · go_wp2
      go_ret
      refine ⟨ret_bool (decide_eq_false ?_).symm, rfl⟩
      intro hm
      obtain ⟨j, hj, e⟩ := List.getElem_of_mem hm
      exact HA.out j hj (by have := HN.out; omega) e

theorem bits_sorted (m : Nat) : (bitsOf m).Pairwise (· < ·) := List.Pairwise.filter _ List.pairwise_lt_range
theorem bits_last (m : Nat) (hm : m ≤ top) (l : List Nat) (z : Nat) (h : bitsOf m = l ++ [z]) : decide (z < 10) = decide (m < 1024) := by
  have hz := (mem_bitsOf m z).1 (by rw [h]; simp)
  have hs := bits_sorted m
  rw [h, List.pairwise_append] at hs
  rw [Bool.eq_iff_iff]
  simp only [decide_eq_true_eq]
  constructor
  · intro hz10
    have : m < 2 ^ 10 := Nat.lt_pow_two_of_testBit m (fun i hi => by
      cases ht : m.testBit i with
      | false => rfl
      | true =>
        have hi64 : i < 64 := by
          rcases Nat.lt_or_ge i 64 with h' | h'
          · exact h'
          · have := Nat.testBit_lt_two_pow (x := m) (i := i) (Nat.lt_of_lt_of_le (show m < 2 ^ 64 by unfold top at hm; omega) (Nat.pow_le_pow_right (by omega) h'))
            rw [this] at ht; cases ht
        have hin : i ∈ l ++ [z] := by rw [← h]; exact (mem_bitsOf m i).2 ⟨hi64, ht⟩
        rcases List.mem_append.1 hin with h' | h'
        · have := hs.2.2 i h' z (by simp); omega
        · simp at h'; omega)
    exact this
  · intro hm10
    rcases Nat.lt_or_ge z 10 with h' | h'
    · exact h'
    · have := Nat.testBit_lt_two_pow (x := m) (i := z) (Nat.lt_of_lt_of_le hm10 (Nat.pow_le_pow_right (n := 2) (by omega) h'))
      rw [this] at hz; cases hz.2
theorem bits_none (m : Nat) (hm : m ≤ top) (h : bitsOf m = []) : m = 0 := by
  by_cases h0 : m = 0
  · exact h0
  · have := (bitsOf_step m hm h0).1
    rw [h] at this; cases this
def castL (l : List Nat) : List Int := l.map (fun i : Nat => (i : Int))
theorem nI_cast (l : List Nat) : nI l = (castL l).map (Value.int .i64) := by simp [nI, castL]
theorem natRow_ints {w0 w : World} {L : List Res} (X : Star w0 w L) (i : Nat) {v : Value} {l : List Nat} (hi : L[i]? = some (natRow v l)) : Ints w v (castL l) := by
  have := Reads.of_own (X.row i hi).1
  rw [nI_cast] at this
  unfold Ints
  rw [show (castL l).length = l.length by simp [castL]]
  exact this
theorem has_in (m : Nat) (k : Int) : (okKind k && decide (k ∈ castL (bitsOf m))) = (okKind k && m.testBit k.toNat) := by
  cases h : okKind k with
  | false => rfl
  | true =>
    simp [okKind] at h
    obtain ⟨j, rfl⟩ := Int.eq_ofNat_of_zero_le h.1
    simp only [Bool.true_and, Int.toNat_natCast]
    rw [Bool.eq_iff_iff]
    simp only [decide_eq_true_eq, castL, List.mem_map]
    constructor
    · rintro ⟨i, hi, e⟩
      have : i = j := by omega
      subst this
      exact ((mem_bitsOf m i).1 hi).2
    · intro ht
      exact ⟨j, (mem_bitsOf m j).2 ⟨by omega, ht⟩, rfl⟩

set_option maxRecDepth 100000 in
set_option maxHeartbeats 1000000 in
theorem walk (m : Nat) (k : Int) (w : World) (hm : m ≤ top) (hT : Tab w) (e : Value) (he : w.cell? ⟨4, 0, none⟩ = some e) :
    Calls Tryd.prog 8 #[mk m, .int .i64 k] w fun r w' => r = .returned (.bool true) ∧ Same w w' := by
  have HT := hid hT
  clear hT
  go_enter Tryd.func8, Tryd.ntmps8
  go_wp2_with fail
  refine (alive _ e he).mono ?_
  rintro r w1 ⟨rfl, hs⟩
  have S := hid hs
  clear hs
  go_wp2_with fail
  refine (from_any m hm _).mono ?_
  rintro r w2 ⟨rfl, hs⟩
  have X := hid ((Star.new w).go (S.out.trans hs (fun _ _ f => f)))
  clear hs S
  go_wp2_with (first
    | (with_reducible refine at_alloc 5 ?_); (refine wpList_alloc_star X.out rfl _ rfl (.agg noBits) zeroB ?_; intro q5 w5 hX; have X := hid hX; clear hX)
    | (with_reducible refine at_store 5 ?_); (refine wpList_store_star X.out 0 rfl rfl _ _ _ rfl (bitA m) (by rfl) (by rfl) (sizeB _) (by simp [Value.cells, noBits, bitA, bitP_size]) (bitP_one _) ?_; intro w6 hX; have X6 := hid hX; clear hX X)
    | (go_at_call 31; refine (kinds_any X6.out m hm HT.out).mono ?_; rintro r w7 ⟨vk, rfl, hX⟩; have X7 := hid hX; clear hX X6)
    | (with_reducible refine at_load 5 ?_); (refine wpList_load_row rfl _ _ rfl q5 (by rfl) _ (bitA m) _ _ (X7.out.blk 1 rfl).1 Tryd.underlying48 rfl (sizeB _) ?_))
  refine (refKinds_any X7.out m.testBit).mono ?_
  rintro r w8 ⟨vr, rfl, hX⟩
  have X8 : Hid (Star w w8 [natRow vr (bitsOf m), natRow vk (bitsOf m), Blk q5 (bitA m) 48]) := hid hX
  clear hX X7 X
  have IR := hid (natRow_ints X8.out 0 rfl)
  have IK := hid (natRow_ints X8.out 1 rfl)
  have hcl : (castL (bitsOf m)).length = (bitsOf m).length := by simp [castL]
  have hbl := bitsOf_len m
  have HI := hid (has_in m k)
  have S8 := hid X8.out.same
  have HC := hid hcl
  rcases List.eq_nil_or_concat (bitsOf m) with h0 | ⟨l, z, hz⟩
  · have h1024 : decide (m < 1024) = true := by rw [bits_none m hm h0]; rfl
    have H1 := hid h1024
    have HL0 := hid (show (bitsOf m).length = 0 by rw [h0]; rfl)
    obtain ⟨ar, cr, er, -⟩ := own_slice (X8.out.row 0 rfl).1
    obtain ⟨ak, ck, ek, -⟩ := own_slice (X8.out.row 1 rfl).1
    rw [HL0.out] at er ek
    subst er ek
    clear h0 h1024 hcl hbl
    go_wp2_with fail
    refine (Num.sameInts _ _ _ _ _ IK.out IR.out (by rw [HC.out, HL0.out]; omega) (by rw [HC.out, HL0.out]; omega)).mono ?_
    rintro r w9 ⟨rfl, hs9⟩
    rw [decide_eq_true (rfl : castL (bitsOf m) = castL (bitsOf m))]
    have S9 := hid (S8.out.trans hs9 (fun _ _ f => f))
    have IR9 := hid (IR.out.same hs9)
    clear hs9
    go_wp2_with fail
    refine (count_any m hm _).mono ?_
    rintro r w10 ⟨rfl, rfl⟩
    rw [HL0.out]
    go_wp2_with fail
    refine (right_any m _).mono ?_
    rintro r w10 ⟨rfl, rfl⟩
    rw [H1.out]
    go_wp2_with fail
    refine (has_any m hm k _).mono ?_
    rintro r w10 ⟨rfl, rfl⟩
    rw [← HI.out]
    go_wp2_with fail
    refine (kind_any k _).mono ?_
    rintro r w10 ⟨rfl, rfl⟩
    generalize okKind k = ok at *
    cases ok
    · go_wp2
      go_ret
      exact ⟨rfl, S9.out⟩
    · go_wp2_with fail
      refine (in_any _ _ k _ IR9.out (by rw [HC.out, HL0.out]; omega)).mono ?_
      rintro r w10 ⟨rfl, rfl⟩
      go_wp2
      go_ret
      exact ⟨ret_bool (by simp), S9.out⟩
  · rw [List.concat_eq_append] at hz
    have H1 := hid (show decide ((z : Int) < 10) = decide (m < 1024) by rw [← bits_last m hm l z hz]; rw [Bool.eq_iff_iff]; simp only [decide_eq_true_eq]; omega)
    obtain ⟨n, hn⟩ : ∃ n, n = l.length := ⟨_, rfl⟩
    have HLn := hid (show (bitsOf m).length = n + 1 by rw [hz, hn]; simp)
    have hn63 : n ≤ 63 := by have := HLn.out; omega
    have hrow := X8.out.row 0 rfl
    obtain ⟨gr, cr, er⟩ := own_shape hrow.1 (by have := HLn.out; omega)
    obtain ⟨ak, ck, ek, -⟩ := own_slice (X8.out.row 1 rfl).1
    have c0 : w8.cell? ⟨gr, n, none⟩ = some (.int .i64 z) := by
      rw [er] at hrow
      refine (hrow.1.cellAt n (by have := HLn.out; omega)).trans ?_
      rw [hz]
      simp [nI, hn]
    have hgl : gr < w8.heap.size := by
      rw [er] at hrow
      exact (hrow.1.lt gr rfl).2
    rw [HLn.out] at er ek
    subst er ek
    have hz0 : ((n : Int) + 1 == 0) = false := by simp; omega
    clear hz hcl hbl hrow hn
    go_wp2_with fail
    refine (Num.sameInts _ _ _ _ _ IK.out IR.out (by rw [HC.out, HLn.out]; omega) (by rw [HC.out, HLn.out]; omega)).mono ?_
    rintro r w9 ⟨rfl, hs9⟩
    rw [decide_eq_true (rfl : castL (bitsOf m) = castL (bitsOf m))]
    have S9 := hid (S8.out.trans hs9 (fun _ _ f => f))
    have IR9 := hid (IR.out.same hs9)
    clear hs9
    go_wp2_with fail
    refine (count_any m hm _).mono ?_
    rintro r w10 ⟨rfl, rfl⟩
    rw [HLn.out]
    go_wp2_with fail
    refine (right_any m _).mono ?_
    rintro r w10 ⟨rfl, rfl⟩
    rw [← H1.out]
    go_wp2_with fail
    refine (has_any m hm k _).mono ?_
    rintro r w10 ⟨rfl, rfl⟩
    rw [← HI.out]
    go_wp2_with fail
    refine (kind_any k _).mono ?_
    rintro r w10 ⟨rfl, rfl⟩
    generalize okKind k = ok at *
    cases ok
    · go_wp2
      go_ret
      exact ⟨rfl, S9.out⟩
    · go_wp2_with fail
      refine (in_any _ _ k _ IR9.out (by rw [HC.out, HLn.out]; omega)).mono ?_
      rintro r w10 ⟨rfl, rfl⟩
      go_wp2
      go_ret
      exact ⟨ret_bool (by simp), S9.out⟩
end Go.Proofs.YtkjecihiipjngaaDoor.MasksKinds
