/-
  The bits of a number: how many, which, the lowest; in plain words.
-/
import Derived.Lib.TrailingZeros
import Derived.Test.YtkjecihiipjngaaDoorMask
namespace Go.Proofs.YtkjecihiipjngaaDoor.Mask
open Go Go.RowKit

/-- The places of the bits that are set. -/
def bitsOf (n : Nat) : List Nat := (List.range 64).filter n.testBit
theorem mem_bitsOf (n i : Nat) : i ∈ bitsOf n ↔ i < 64 ∧ n.testBit i = true := by simp [bitsOf]
theorem bitsOf_zero : bitsOf 0 = [] := by simp [bitsOf]

theorem low_bit (k q : Nat) (i : Nat) : ((2 ^ k * (2 * q + 1)) &&& (2 ^ k * (2 * q + 1) - 1)).testBit i = ((2 ^ k * (2 * q + 1)).testBit i && decide (i ≠ k)) := by
  have hp : 0 < 2 ^ k := Nat.pow_pos (by omega)
  have e1 : 2 ^ k * (2 * q + 1) - 1 = 2 ^ k * (2 * q) + (2 ^ k - 1) := by rw [Nat.mul_add, Nat.mul_one]; omega
  have e2 : 2 ^ k * (2 * q + 1) = 2 ^ k * (2 * q + 1) + 0 := rfl
  rw [Nat.testBit_and, e1]
  rw [Nat.testBit_two_pow_mul_add _ (by omega : 2 ^ k - 1 < 2 ^ k)]
  conv => lhs; rw [e2, Nat.testBit_two_pow_mul_add _ hp]
  conv => rhs; rw [e2, Nat.testBit_two_pow_mul_add _ hp]
  by_cases h : i < k
  · simp [h]
  · rw [if_neg h, if_neg h]
    rcases Nat.lt_trichotomy i k with h1 | h1 | h1
    · omega
    · subst h1; simp
    · obtain ⟨j, rfl⟩ : ∃ j, i = k + (j + 1) := ⟨i - k - 1, by omega⟩
      have e : k + (j + 1) - k = j + 1 := by omega
      rw [e, Nat.testBit_succ, Nat.testBit_succ]
      have : (2 * q + 1) / 2 = q := by omega
      have h2 : 2 * q / 2 = q := by omega
      rw [this, h2]
      have hne : k + (j + 1) ≠ k := by omega
      simp

theorem filter_first (p p' : Nat → Bool) (k : Nat) (hk : k < 64) (h0 : ∀ i, i < k → p i = false) (h1 : p k = true) (h' : ∀ i, p' i = (p i && decide (i ≠ k))) : (List.range 64).filter p = k :: (List.range 64).filter p' := by
  obtain ⟨d, hd⟩ : ∃ d, 64 = k + (d + 1) := ⟨63 - k, by omega⟩
  rw [hd, List.range_add, List.filter_append, List.filter_append]
  have e1 : (List.range k).filter p = [] := List.filter_eq_nil_iff.2 (fun i hi => by rw [h0 i (List.mem_range.1 hi)]; simp)
  have e2 : (List.range k).filter p' = [] := List.filter_eq_nil_iff.2 (fun i hi => by rw [h', h0 i (List.mem_range.1 hi)]; simp)
  rw [e1, e2, List.nil_append, List.nil_append, List.range_succ_eq_map, List.map_cons, Nat.add_zero, List.filter_cons, List.filter_cons, if_pos h1, if_neg (by rw [h']; simp)]
  congr 1
  apply List.filter_congr
  intro i hi
  simp only [List.map_map, List.mem_map, List.mem_range, Function.comp] at hi
  obtain ⟨j, _, rfl⟩ := hi
  rw [h']
  have : k + (j + 1) ≠ k := by omega
  simp

theorem bitsOf_step (x : Nat) (hx : x ≤ top) (h0 : x ≠ 0) : bitsOf x = Lib.ctz 64 x :: bitsOf (x &&& (x - 1)) ∧ Lib.ctz 64 x < 64 ∧ (x &&& (x - 1)) < x := by
  have hlt : x < 2 ^ 64 := by unfold top at hx; omega
  have hc : Lib.ctz 64 x = Lib.ctzFrom 64 x := by unfold Lib.ctz; rw [if_neg h0]
  obtain ⟨q, hq, hk⟩ := Lib.ctzFrom_spec 64 x (by omega) hlt
  rw [hc]
  generalize Lib.ctzFrom 64 x = k at *
  have hp : 0 < 2 ^ k := Nat.pow_pos (by omega)
  refine ⟨?_, hk, ?_⟩
  · unfold bitsOf
    refine filter_first _ _ k hk (fun i hi => ?_) ?_ (fun i => ?_)
    · rw [hq, show 2 ^ k * (2 * q + 1) = 2 ^ k * (2 * q + 1) + 0 from rfl, Nat.testBit_two_pow_mul_add _ hp, if_pos hi, Nat.zero_testBit]
    · rw [hq, show 2 ^ k * (2 * q + 1) = 2 ^ k * (2 * q + 1) + 0 from rfl, Nat.testBit_two_pow_mul_add _ hp, if_neg (by omega), Nat.sub_self]; simp
    · rw [hq]; exact low_bit k q i
  · have := Nat.and_le_right (n := x) (m := x - 1)
    omega

theorem bitsOf_len (n : Nat) : (bitsOf n).length ≤ 64 := by
  have := List.length_filter_le n.testBit (List.range 64)
  simpa [bitsOf] using this

/-! How many bits: byte by byte. -/
def V : List Nat → Nat
  | [] => 0
  | b :: bs => 256 * V bs + b
def M (c : Nat) : Nat → Nat
  | 0 => 0
  | n + 1 => 256 * M c n + c
theorem and_byte (q m r c : Nat) (hr : r < 256) (hc : c < 256) : (256 * q + r) &&& (256 * m + c) = 256 * (q &&& m) + (r &&& c) := by
  apply Nat.eq_of_testBit_eq
  intro i
  have hrc : r &&& c < 2 ^ 8 := Nat.lt_of_le_of_lt Nat.and_le_left hr
  rw [Nat.testBit_and, show (256 : Nat) = 2 ^ 8 from rfl, Nat.testBit_two_pow_mul_add _ hr, Nat.testBit_two_pow_mul_add _ hc, Nat.testBit_two_pow_mul_add _ hrc]
  by_cases h : i < 8
  · simp [h, Nat.testBit_and]
  · simp [h, Nat.testBit_and]
def s1 (r : Nat) : Nat := ((r / 2) &&& 85) + (r &&& 85)
def s2 (r : Nat) : Nat := ((r / 4) &&& 51) + (r &&& 51)
def s3 (r : Nat) : Nat := (r / 16 + r) &&& 15
theorem t1 : ∀ b, b < 2 → ∀ t, t < 128 → (128 * b + t) &&& 85 = t &&& 85 := by decide +kernel
theorem t2 : ∀ b, b < 4 → ∀ t, t < 64 → (64 * b + t) &&& 51 = t &&& 51 := by decide +kernel
theorem b1 : ∀ r, r < 256 → s1 r < 256 ∧ s2 (s1 r) % 16 ≤ 4 ∧ s2 (s1 r) / 16 ≤ 4 ∧ s3 (s2 (s1 r)) ≤ 8 ∧ s3 (s2 (s1 r)) = ((List.range 8).filter r.testBit).length := by decide +kernel
theorem V1 : ∀ (bs : List Nat), (∀ b ∈ bs, b < 256) → ((V bs / 2) &&& M 85 bs.length) + (V bs &&& M 85 bs.length) = V (bs.map s1)
  | [], _ => rfl
  | b :: bs, h => by
    have ih := V1 bs (fun x hx => h x (List.mem_cons_of_mem _ hx))
    have hb := h b List.mem_cons_self
    simp only [V, M, List.length_cons, List.map_cons]
    have e : (256 * V bs + b) / 2 = 256 * (V bs / 2) + (128 * (V bs % 2) + b / 2) := by omega
    rw [e, and_byte _ _ _ _ (by omega) (by omega), and_byte _ _ _ _ hb (by omega), t1 _ (by omega) _ (by omega), ← ih]
    unfold s1
    omega
theorem V2 : ∀ (bs : List Nat), (∀ b ∈ bs, b < 256) → ((V bs / 4) &&& M 51 bs.length) + (V bs &&& M 51 bs.length) = V (bs.map s2)
  | [], _ => rfl
  | b :: bs, h => by
    have ih := V2 bs (fun x hx => h x (List.mem_cons_of_mem _ hx))
    have hb := h b List.mem_cons_self
    simp only [V, M, List.length_cons, List.map_cons]
    have e : (256 * V bs + b) / 4 = 256 * (V bs / 4) + (64 * (V bs % 4) + b / 4) := by omega
    rw [e, and_byte _ _ _ _ (by omega) (by omega), and_byte _ _ _ _ hb (by omega), t2 _ (by omega) _ (by omega), ← ih]
    unfold s2
    omega
theorem V3 : ∀ (bs : List Nat), (∀ b ∈ bs, b % 16 ≤ 4 ∧ b / 16 ≤ 4) → ((V bs / 16 + V bs) &&& M 15 bs.length) = V (bs.map s3)
  | [], _ => rfl
  | b :: bs, h => by
    have ih := V3 bs (fun x hx => h x (List.mem_cons_of_mem _ hx))
    have hb := h b List.mem_cons_self
    have hu : V bs % 16 ≤ 4 := by
      cases bs with
      | nil => simp [V]
      | cons c cs => have := (h c (by simp)).1; simp only [V]; omega
    simp only [V, M, List.length_cons, List.map_cons]
    have e : (256 * V bs + b) / 16 + (256 * V bs + b) = 256 * (V bs / 16 + V bs) + (16 * (V bs % 16) + b / 16 + b) := by omega
    have e15 : ∀ n, n &&& 15 = n % 16 := fun n => Nat.and_two_pow_sub_one_eq_mod n 4
    rw [e, and_byte _ _ _ _ (by omega) (by omega), ih]
    unfold s3
    rw [e15, e15]
    omega
theorem V_bits : ∀ (bs : List Nat) (i : Nat), (∀ b ∈ bs, b < 256) → (V bs).testBit i = ((bs[i / 8]?).getD 0).testBit (i % 8)
  | [], i, _ => by simp [V]
  | b :: bs, i, h => by
    have hb := h b List.mem_cons_self
    simp only [V]
    rw [show (256 : Nat) = 2 ^ 8 from rfl, Nat.testBit_two_pow_mul_add _ hb]
    by_cases hi : i < 8
    · rw [if_pos hi, Nat.div_eq_of_lt hi, Nat.mod_eq_of_lt hi]; simp
    · rw [if_neg hi, V_bits bs _ (fun x hx => h x (List.mem_cons_of_mem _ hx))]
      have e1 : i / 8 = (i - 8) / 8 + 1 := by omega
      have e2 : i % 8 = (i - 8) % 8 := by omega
      rw [e1, e2, List.getElem?_cons_succ]
theorem V_ex : ∀ (n x : Nat), x < 256 ^ n → ∃ bs : List Nat, bs.length = n ∧ (∀ b ∈ bs, b < 256) ∧ V bs = x
  | 0, x, h => ⟨[], rfl, by simp, by simp [V] at *; omega⟩
  | n + 1, x, h => by
    obtain ⟨bs, h1, h2, h3⟩ := V_ex n (x / 256) (by rw [Nat.pow_succ] at h; omega)
    refine ⟨x % 256 :: bs, by simp [h1], ?_, by simp only [V, h3]; omega⟩
    intro b hb
    rcases List.mem_cons.1 hb with rfl | hb
    · omega
    · exact h2 b hb
theorem count_bytes : ∀ (bs : List Nat), (∀ b ∈ bs, b < 256) → ((List.range (bs.length * 8)).filter (V bs).testBit).length = (bs.map (fun b => ((List.range 8).filter b.testBit).length)).sum
  | [], _ => rfl
  | b :: bs, h => by
    have hb := h b List.mem_cons_self
    have ih := count_bytes bs (fun x hx => h x (List.mem_cons_of_mem _ hx))
    have e : (b :: bs).length * 8 = 8 + bs.length * 8 := by simp; omega
    rw [e, List.range_add, List.filter_append, List.length_append, List.map_cons, List.sum_cons, ← ih]
    congr 1
    · congr 1
      apply List.filter_congr
      intro i hi
      have hi := List.mem_range.1 hi
      simp only [V]
      rw [show (256 : Nat) = 2 ^ 8 from rfl, Nat.testBit_two_pow_mul_add _ hb, if_pos hi]
    · rw [List.filter_map, List.length_map]
      congr 1
      apply List.filter_congr
      intro i hi
      simp only [Function.comp, V]
      rw [show (256 : Nat) = 2 ^ 8 from rfl, Nat.testBit_two_pow_mul_add _ hb, if_neg (by omega), Nat.add_sub_cancel_left]
theorem V_div (b : Nat) (bs : List Nat) (h : b < 256) : V (b :: bs) / 256 = V bs := by simp only [V]; omega
/-- The library's way of counting, in natural numbers. -/
def oc1 (x : Nat) : Nat := ((x / 2) &&& 6148914691236517205) + (x &&& 6148914691236517205)
def oc2 (x : Nat) : Nat := ((x / 4) &&& 3689348814741910323) + (x &&& 3689348814741910323)
def oc3 (x : Nat) : Nat := (x / 16 + x) &&& 1085102592571150095
theorem oc_count (x : Nat) (hx : x ≤ top) : oc1 x ≤ top ∧ oc2 (oc1 x) ≤ 4919131752989213764 ∧ oc3 (oc2 (oc1 x)) ≤ 578721382704613384 ∧
    (let y := oc3 (oc2 (oc1 x)); let y1 := y + y / 256; let y2 := y1 + y1 / 65536; let y3 := y2 + y2 / 4294967296; y3 % 128) = (bitsOf x).length := by
  obtain ⟨bs, h1, h2, h3⟩ := V_ex 8 x (by unfold top at hx; omega)
  have e1 : oc1 x = V (bs.map s1) := by
    rw [← V1 bs h2, h1, h3]; rfl
  have g1 : ∀ b ∈ bs.map s1, b < 256 := by
    intro b hb
    obtain ⟨a, ha, rfl⟩ := List.mem_map.1 hb
    exact (b1 a (h2 a ha)).1
  have e2 : oc2 (oc1 x) = V ((bs.map s1).map s2) := by
    rw [e1, ← V2 _ g1, List.length_map, h1]; rfl
  have g2 : ∀ b ∈ (bs.map s1).map s2, b % 16 ≤ 4 ∧ b / 16 ≤ 4 := by
    intro b hb
    obtain ⟨c, hc, rfl⟩ := List.mem_map.1 hb
    obtain ⟨a, ha, rfl⟩ := List.mem_map.1 hc
    exact ⟨(b1 a (h2 a ha)).2.1, (b1 a (h2 a ha)).2.2.1⟩
  have e3 : oc3 (oc2 (oc1 x)) = V (((bs.map s1).map s2).map s3) := by
    rw [e2, ← V3 _ g2, List.length_map, List.length_map, h1]; rfl
  have e4 : (bitsOf x).length = (bs.map (fun b => ((List.range 8).filter b.testBit).length)).sum := by
    have := count_bytes bs h2
    rw [h1, h3] at this
    exact this
  have e5 : bs.map (fun b => ((List.range 8).filter b.testBit).length) = ((bs.map s1).map s2).map s3 := by
    rw [List.map_map, List.map_map]
    apply List.map_congr_left
    intro a ha
    exact (b1 a (h2 a ha)).2.2.2.2.symm
  have g3 : ∀ b ∈ ((bs.map s1).map s2).map s3, b ≤ 8 := by
    intro b hb
    rw [← e5] at hb
    obtain ⟨a, ha, rfl⟩ := List.mem_map.1 hb
    have := List.length_filter_le a.testBit (List.range 8)
    simpa using this
  rw [e4, e5]
  rw [e3]
  have g4 : ∀ b ∈ (bs.map s1).map s2, b ≤ 68 := by
    intro b hb; have := g2 b hb; omega
  have hA : ∀ (l : List Nat), l.length = 8 → ∃ p0 p1 p2 p3 p4 p5 p6 p7, l = [p0, p1, p2, p3, p4, p5, p6, p7] := by
    intro l hl
    match l, hl with
    | [p0, p1, p2, p3, p4, p5, p6, p7], _ => exact ⟨_, _, _, _, _, _, _, _, rfl⟩
  refine ⟨?_, ?_, ?_, ?_⟩
  · rw [e1]
    obtain ⟨p0, p1, p2, p3, p4, p5, p6, p7, hp⟩ := hA (bs.map s1) (by simp [h1])
    rw [hp] at g1 ⊢
    simp only [List.mem_cons, List.not_mem_nil, or_false, forall_eq_or_imp, forall_eq] at g1
    simp only [V, top]
    omega
  · rw [e2]
    obtain ⟨p0, p1, p2, p3, p4, p5, p6, p7, hp⟩ := hA ((bs.map s1).map s2) (by simp [h1])
    rw [hp] at g4 ⊢
    simp only [List.mem_cons, List.not_mem_nil, or_false, forall_eq_or_imp, forall_eq] at g4
    simp only [V]
    omega
  · obtain ⟨p0, p1, p2, p3, p4, p5, p6, p7, hp⟩ := hA (((bs.map s1).map s2).map s3) (by simp [h1])
    rw [hp] at g3 ⊢
    simp only [List.mem_cons, List.not_mem_nil, or_false, forall_eq_or_imp, forall_eq] at g3
    simp only [V]
    omega
  · obtain ⟨p0, p1, p2, p3, p4, p5, p6, p7, hp⟩ := hA (((bs.map s1).map s2).map s3) (by simp [h1])
    rw [hp] at g3 ⊢
    simp only [List.mem_cons, List.not_mem_nil, or_false, forall_eq_or_imp, forall_eq] at g3
    have d1 : V [p0, p1, p2, p3, p4, p5, p6, p7] / 256 = V [p1, p2, p3, p4, p5, p6, p7] := V_div _ _ (by omega)
    have e1 : V [p0, p1, p2, p3, p4, p5, p6, p7] + V [p1, p2, p3, p4, p5, p6, p7] = V [p0 + p1, p1 + p2, p2 + p3, p3 + p4, p4 + p5, p5 + p6, p6 + p7, p7] := by simp only [V]; omega
    have d2 : V [p0 + p1, p1 + p2, p2 + p3, p3 + p4, p4 + p5, p5 + p6, p6 + p7, p7] / 65536 = V [p2 + p3, p3 + p4, p4 + p5, p5 + p6, p6 + p7, p7] := by
      rw [show 65536 = 256 * 256 from rfl, ← Nat.div_div_eq_div_mul, V_div _ _ (by omega), V_div _ _ (by omega)]
    have e2 : V [p0 + p1, p1 + p2, p2 + p3, p3 + p4, p4 + p5, p5 + p6, p6 + p7, p7] + V [p2 + p3, p3 + p4, p4 + p5, p5 + p6, p6 + p7, p7] = V [p0 + p1 + (p2 + p3), p1 + p2 + (p3 + p4), p2 + p3 + (p4 + p5), p3 + p4 + (p5 + p6), p4 + p5 + (p6 + p7), p5 + p6 + p7, p6 + p7, p7] := by simp only [V]; omega
    have d3 : V [p0 + p1 + (p2 + p3), p1 + p2 + (p3 + p4), p2 + p3 + (p4 + p5), p3 + p4 + (p5 + p6), p4 + p5 + (p6 + p7), p5 + p6 + p7, p6 + p7, p7] / 4294967296 = V [p4 + p5 + (p6 + p7), p5 + p6 + p7, p6 + p7, p7] := by
      rw [show 4294967296 = 256 * 256 * 256 * 256 from rfl, ← Nat.div_div_eq_div_mul, ← Nat.div_div_eq_div_mul, ← Nat.div_div_eq_div_mul, V_div _ _ (by omega), V_div _ _ (by omega), V_div _ _ (by omega), V_div _ _ (by omega)]
    simp only [d1, e1, d2, e2, d3]
    simp only [V, List.sum_cons, List.sum_nil]
    omega
end Go.Proofs.YtkjecihiipjngaaDoor.Mask
