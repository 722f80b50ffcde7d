/-
  HeapOrders: the walk.
-/
import Derived.Test.YtminjgfobcnmhaaDoorHeapSort
import Derived.Test.YtminjgfobcnmhaaDoorPart
namespace Go.Proofs.YtminjgfobcnmhaaDoor.HeapOrders
open Go Go.RowKit Go.Proofs.YtminjgfobcnmhaaDoor.Hp

/-- The entries from the k-th on, then those ahead of it. -/
def flat2 (xs : List (Int × Int)) (k : Nat) : List (Int × Int) := xs.drop k ++ xs.take k
theorem flat2_len (xs : List (Int × Int)) (k n : Nat) (h : n = xs.length) (hk : k < n) : n = (flat2 xs k).length := by simp [flat2]; omega
theorem flat2_perm (xs : List (Int × Int)) (k : Nat) : (flat2 xs k).Perm xs := by
  unfold flat2
  refine List.perm_append_comm.trans ?_
  rw [List.take_append_drop]
theorem flat_drop (xs : List (Int × Int)) (k : Nat) : (flat xs).drop (k * 2) = flat (xs.drop k) := by
  have h := flat_append (xs.take k) (xs.drop k)
  rw [List.take_append_drop] at h
  by_cases hk : k ≤ xs.length
  · rw [h, List.drop_append_of_le_length (by rw [flat_length, List.length_take]; omega), List.drop_eq_nil_of_le (by rw [flat_length, List.length_take]; omega), List.nil_append]
  · rw [List.drop_eq_nil_of_le (by rw [flat_length]; omega), List.drop_eq_nil_of_le (by omega)]; rfl
theorem flat2_flat (xs : List (Int × Int)) (k : Nat) : flat (flat2 xs k) = (flat xs).drop (k * 2) ++ (flat xs).take (k * 2) := by
  unfold flat2
  rw [flat_append, flat_drop, flat_take]

set_option maxRecDepth 100000 in
set_option maxHeartbeats 2000000 in
theorem walk (xs : List (Int × Int)) (x : Int) (v : Value) (w : World) (hr : Reads w v xs.length 2 (flat xs)) (hc : ∀ a n c, v = .slice a n c → n ≤ c) (hm : xs.length ≤ 9223372036854775807) :
    Calls Tryd.prog 7 #[v, .int .i64 x] w fun r w' => r = .returned (.bool true) ∧ Same w w' := by
  obtain ⟨i0, hi, hz0, hz1, hz2⟩ := info_parts info
  obtain ⟨a, c, rfl⟩ := hr.slice
  have hcap := hc _ _ _ rfl
  have HR := hid hr
  clear hr hc
  obtain ⟨n, hn⟩ : ∃ n, n = xs.length := ⟨_, rfl⟩
  rw [← hn] at hm hcap
  have HN := hid hn
  simp only [← hn] at HR ⊢
  clear hn
  go_enter Tryd.func7, Tryd.ntmps7
  go_wp2_with fail
  refine (alive _).mono ?_
  rintro r w1 ⟨rfl, hs1⟩
  have S1 := hid hs1
  clear hs1
  by_cases h1 : n < 1
  · go_wp2
    go_ret
    exact ⟨rfl, S1.out⟩
  by_cases h2 : 100 < n
  · go_wp2
    go_ret
    exact ⟨rfl, S1.out⟩
  obtain ⟨b, off, cap, e1, hb, hcl⟩ := HR.out.open (by omega)
  cases e1
  clear hcl
  obtain ⟨k, hk, hke⟩ := mod_small x n (by omega) (by omega)
  go_wp2_with fail
  rw [hke]
  refine (sort_any xs _ n c _ HN.out (HR.out.same S1.out) (by intro y e _; cases e; exact Nat.lt_of_lt_of_le hb S1.out.size) (by omega)).mono ?_
  rintro r w2 ⟨u, out, rfl, hf2, hp2, hr2, hs2⟩
  have S2 := hid (S1.out.trans hs2 (fun _ _ f => f))
  have F2 := hid hf2
  have P2 := hid hp2
  have R2 := hid hr2
  clear hf2 hp2 hr2 hs2
  go_wp2_with fail
  have hRt := fun c' => (HR.out.same S2.out).tail k c' hk
  have hRh := fun c' => (HR.out.same S2.out).head k c' (Nat.le_of_lt hk)
  have HRT := hid hRt
  have HRH := hid hRh
  clear hRt hRh
  have hkn : k ≤ n := Nat.le_of_lt hk
  have hkc : k ≤ c := by omega
  have hcne : ¬ c = k := by omega
  have hub : ∀ l : List (Int × Int), ∀ u ∈ flat l, u.oneCell' = true := flat_one
  have HUB := hid hub
  clear hub
  have hsrc : ∀ (w4 : World) (a4 : Option Addr) (c4 : Nat), w4.ownsRow 0 31 2 (.slice a4 n c4) n ((flat xs).drop (k * 2) ++ (flat xs).take (k * 2)) → Reads w4 (.slice a4 n c4) n 2 (flat (flat2 xs k)) := by
    intro w4 a4 c4 h
    have := Reads.of_own h
    rwa [← flat2_flat] at this
  have HSRC := hid hsrc
  clear hsrc
  go_region_law (first
        | (refine step_app rfl _ _ 22 rfl 31 i0 (.agg #[.int .i64 0, .int .i64 0]) 2 16 Tryd.underlying22 hi hz0 hz1 hz2 rfl (by decide) _ 0 [] rfl (by exact own_chg (S := fun _ => False) (World.ownsRow_lit (base := 0) w2 #[] 0 (Nat.zero_le _) (by decide) rfl) (by repeat (first | exact Chg.refl _ | refine Chg.drew ?_)) (fun _ _ f => f)) (some _) (n - k) _ ((flat xs).drop (k * 2)) rfl (by exact (HRT.out _).same (by repeat (first | exact Chg.refl _ | refine Chg.drew ?_ | refine Chg.alloc _ ?_))) (fun u hu => HUB.out xs u (List.mem_of_mem_drop hu)) (by omega) (by omega) ?_; intro a3 c3 w3; rw [show 0 + (n - k) = n - k from Nat.zero_add _, List.nil_append]; intro ho3 hg3 hn3; have hs3 : Same w2 w3 := (Chg.grown (by repeat (first | exact Chg.refl _ | refine Chg.drew ?_ | refine Chg.alloc _ ?_)) hg3 (fun k e hk => absurd hk (by have : w2.heap.size = k := Option.some.inj e; omega))))
        | (refine step_app rfl _ _ 22 rfl 31 i0 (.agg #[.int .i64 0, .int .i64 0]) 2 16 Tryd.underlying22 hi hz0 hz1 hz2 rfl (by decide) _ (n - k) ((flat xs).drop (k * 2)) rfl ho3 (some _) k _ ((flat xs).take (k * 2)) rfl (by exact (HRH.out _).same hs3) (fun u hu => HUB.out xs u (List.mem_of_mem_take hu)) (by omega) (by omega) ?_; intro a4 c4 w4; rw [show n - k + k = n from by omega]; intro ho4 hg4 hn4)
        | (go_simp; refine (sort_any ((flat2 xs k)) _ n _ _ (flat2_len xs k n HN.out hk) (HSRC.out _ _ _ ho4) (by intro y e _; cases e; exact own_lt ho4 _ rfl) (by omega)).mono ?_; rintro r w5 ⟨u5, out5, rfl, hf5, hp5, hr5, hs5⟩))
  have ha3 : After w2 (.slice a3 (n - k) c3) := hn3.after (w := w2) (by intro k e; cases e; exact Nat.le_refl _) (Chg.size (S := fun _ => False) (by repeat (first | exact Chg.refl _ | refine Chg.drew ?_ | refine Chg.alloc _ ?_)))
  have hs4 : Same w2 w4 := Chg.grown hs3 hg4 (fun k e hk => absurd hk (by have := ha3 k e; omega))
  have heq : out5 = out := rising_unique _ _ hr5 R2.out (hp5.trans ((flat2_perm xs k).trans P2.out.symm))
  subst heq
  have hs25 : Same w2 w5 := hs4.trans hs5 (fun _ _ f => f)
  have S5 := hid (S2.out.trans hs25 (fun _ _ f => f))
  have RU := hid (Reads.of_own (own_chg F2.out.1 hs25 (fun _ _ f => f)))
  have RV := hid (Reads.of_own hf5.1)
  obtain ⟨l, hl⟩ : ∃ l, l = out5.length := ⟨_, rfl⟩
  obtain ⟨au, cu, rfl⟩ := RU.out.slice
  obtain ⟨av, cv, rfl⟩ := RV.out.slice
  have hln : l = n := by have := P2.out.length_eq; have := HN.out; omega
  rw [← hl] at RU RV
  have HL := hid hl
  clear ha3 hs4 hs25 hf5 hp5 hr5 hs5 hg3 hn3 hs3 ho3 hg4 hn4 ho4 F2 P2 R2 HRT HRH HSRC HUB S1 S2 HR
  simp only [← hl]
  clear hl
  have hl100 : l ≤ 100 := by omega
  have hl1 : 1 ≤ l := by omega
  clear hln hkn hkc hcne hcap hke
  obtain ⟨bu, ou, cu', e1, hbu, hcu⟩ := RU.out.open (by omega)
  cases e1
  obtain ⟨bv, ov, cv', e1, hbv, hcv⟩ := RV.out.open (by omega)
  cases e1
  have HCU := hid hcu
  have HCV := hid hcv
  clear hcu hcv
  go_wp2_with fail
  go_loopw [61] (fun i wr => ∃ j : Nat, j ≤ l ∧ i = .int .i64 j ∧ Same w5 wr) (fun i _ => l - (intOf i).toNat)
  case atStart => exact ⟨0, Nat.zero_le _, rfl, Chg.refl _⟩
  case round =>
    obtain ⟨j, hj, rfl, hs⟩ := hrel
    have HS := hid hs
    clear hs
    by_cases hlt : j < l
    · have ho := at_eq (es := out5) (k := j) (by have := HL.out; omega)
      have g1 := HS.out.keep (HCU.out (j * 2) _ (flat_0 _ _ _ ho))
      have g2 := HS.out.keep (HCU.out (j * 2 + 1) _ (flat_1 _ _ _ ho))
      have g3 := HS.out.keep (HCV.out (j * 2) _ (flat_0 _ _ _ ho))
      have g4 := HS.out.keep (HCV.out (j * 2 + 1) _ (flat_1 _ _ _ ho))
      rw [← Nat.add_assoc] at g2 g4
      generalize at_ out5 j = e at *
      clear ho
      go_wp2
      go_quiet (fail)
      go_wp2
      go_roundw
      case rel => exact ⟨j + 1, by omega, by go_num, HS.out.drewN _⟩
      case measure => simp [intOf]; omega
    · go_wp2
      go_ret
      exact ⟨rfl, S5.out.trans HS.out (fun _ _ f => f)⟩
end Go.Proofs.YtminjgfobcnmhaaDoor.HeapOrders
