/-
  paddockref16's ground: Has, Is, Way, Go.
-/
import Derived.Test.YtilobedihjkpjaaDoorGridRight
import Derived.Test.YtilobedihjkpjaaDoorStepCostP
namespace Go.Proofs.YtilobedihjkpjaaDoor.Steps
open Go Go.RowKit

section
variable {w : World} {p g c : Nat} {G : Gr}
set_option maxRecDepth 100000 in
theorem rhas_any (h : Gnd 76 w p g c G) (t : Int) : Calls Tryd.prog 30 #[.pointer (some ⟨p, 0, none⟩), .int .i64 t] w fun r w' => r = .returned (.bool (G.has t)) ∧ w = w' := by
  have c2 := h.c2
  clear h
  go_enter Tryd.func30, Tryd.ntmps30
  by_cases h0 : 0 ≤ t
  · by_cases h1 : t < G.fs.length
    · go_wp2
      go_ret
      exact ⟨by rw [show G.has t = true from decide_eq_true (by omega)]; rfl, rfl⟩
    · go_wp2
      go_ret
      exact ⟨by rw [show G.has t = false from decide_eq_false (by omega)]; rfl, rfl⟩
  · go_wp2
    go_ret
    exact ⟨by rw [show G.has t = false from decide_eq_false (by omega)]; rfl, rfl⟩

set_option maxRecDepth 100000 in
theorem way_any (w : World) (d : Nat) (hd : d < 8) : Calls Tryd.prog 93 #[.int .i64 d] w fun r w' => r = .returned (.tuple #[.int .i64 (dxOf d), .int .i64 (dyOf d)]) ∧ w = w' := by
  have hd' : d = 0 ∨ d = 1 ∨ d = 2 ∨ d = 3 ∨ d = 4 ∨ d = 5 ∨ d = 6 ∨ d = 7 := by omega
  rcases hd' with rfl | rfl | rfl | rfl | rfl | rfl | rfl | rfl
  all_goals
    clear hd
    go_enter Tryd.func93, Tryd.ntmps93
    go_wp2
    go_ret2
    exact ⟨rfl, rfl⟩

set_option maxRecDepth 100000 in
set_option maxHeartbeats 8000000 in
theorem is_any (h : Gnd 76 w p g c G) (x y : Int) : Calls Tryd.prog 94 #[.pointer (some ⟨p, 0, none⟩), .int .i64 x, .int .i64 y] w fun r w' => r = .returned (.bool (G.isF x y)) ∧ Same w w' := by
  obtain ⟨v, hv⟩ : ∃ v, v = G.isF x y := ⟨_, rfl⟩
  rw [← hv]
  have HV := hid hv
  have HH := hid h
  have e0 := h.c0
  have e1 := h.c1
  have e2 := h.c2
  have hw1 := h.ok.w1
  have hw2 := h.ok.w2
  have hh1 := h.ok.h1
  have hh2 := h.ok.h2
  have hl := h.ok.max
  clear hv h
  go_enter Tryd.func94, Tryd.ntmps94
  go_wp2
  refine wp_region_quiet_lit (by kernel_rfl) (by kernel_rfl) ?_
  by_cases r1 : 0 ≤ x
  · have b1 : decide (0 ≤ x) = true := by simpa using r1
    iterate 3 ((with_reducible refine wpQuiet_step (fun K hK => ?_)); go_simp; refine hK _ ?_; clear hK K)
    by_cases r2 : x < G.W
    · have b2 : decide (x < (G.W : Int)) = true := by simpa using r2
      iterate 8 ((with_reducible refine wpQuiet_step (fun K hK => ?_)); go_simp; refine hK _ ?_; clear hK K)
      by_cases r3 : 0 ≤ y
      · have b3 : decide (0 ≤ y) = true := by simpa using r3
        iterate 4 ((with_reducible refine wpQuiet_step (fun K hK => ?_)); go_simp; refine hK _ ?_; clear hK K)
        by_cases r4 : y < G.H
        · have b4 : decide (y < (G.H : Int)) = true := by simpa using r4
          iterate 8 ((with_reducible refine wpQuiet_step (fun K hK => ?_)); go_simp; refine hK _ ?_; clear hK K)
          have hat := Gr.at_lt HH.out.ok r1 r2 r3 r4
          obtain ⟨k, hk⟩ := Int.eq_ofNat_of_zero_le hat.1
          have hF : G.isF x y = G.free k := by
            unfold Gr.isF Gr.free
            rw [decide_eq_true (by exact ⟨r1, r2, r3, r4⟩), Bool.true_and]
            unfold Gr.at' at hk
            rw [hk, Int.toNat_natCast]
          have hkl : k < G.fs.length := by omega
          have hg := HH.out.get k hkl
          have HF := hid hF
          have hk' : y * (G.W : Int) + x = (k : Int) := hk
          have hm1 : 0 ≤ y * (G.W : Int) := Int.mul_nonneg r3 (by omega)
          have hm2 : y * (G.W : Int) ≤ 1024 := by omega
          have hw3 : IntKind.i64.wrap (y * (G.W : Int)) = y * (G.W : Int) := IntWalk.i64_in _ (by omega)
          have hw4 : IntKind.i64.wrap (k : Int) = (k : Int) := IntWalk.i64_in _ (by omega)
          have hk2 : 0 ≤ (k : Int) ∧ (k : Int) < (G.fs.length : Int) := by omega
          clear hF hk hat
          generalize hf : G.free k = b at hg
          have HB := hid hf
          clear hf
          iterate 16 ((with_reducible refine wpQuiet_step (fun K hK => ?_)); go_simp; refine hK _ ?_; clear hK K)
          with_reducible refine wpQuiet_nil ?_
          rintro _ ⟨nq, rfl⟩
          go_wp2
          go_ret
          exact ⟨ret_bool (by rw [HV.out, HF.out, HB.out]), (Chg.refl _).drewN _⟩
        · have b4 : decide (y < (G.H : Int)) = false := by simpa using r4
          iterate 8 ((with_reducible refine wpQuiet_step (fun K hK => ?_)); go_simp; refine hK _ ?_; clear hK K)
          with_reducible refine wpQuiet_skips 14 (by kernel_rfl) ?_
          simp only [List.drop_succ_cons, List.drop_zero]
          iterate 2 ((with_reducible refine wpQuiet_step (fun K hK => ?_)); go_simp; refine hK _ ?_; clear hK K)
          with_reducible refine wpQuiet_nil ?_
          rintro _ ⟨nq, rfl⟩
          go_wp2
          go_ret
          exact ⟨ret_bool (by rw [HV.out, eq_comm, Bool.eq_false_iff, ne_eq, Gr.isF_iff]; omega), (Chg.refl _).drewN _⟩
      · have b3 : decide (0 ≤ y) = false := by simpa using r3
        iterate 4 ((with_reducible refine wpQuiet_step (fun K hK => ?_)); go_simp; refine hK _ ?_; clear hK K)
        with_reducible refine wpQuiet_skips 6 (by kernel_rfl) ?_
        simp only [List.drop_succ_cons, List.drop_zero]
        iterate 2 ((with_reducible refine wpQuiet_step (fun K hK => ?_)); go_simp; refine hK _ ?_; clear hK K)
        with_reducible refine wpQuiet_skips 14 (by kernel_rfl) ?_
        simp only [List.drop_succ_cons, List.drop_zero]
        iterate 2 ((with_reducible refine wpQuiet_step (fun K hK => ?_)); go_simp; refine hK _ ?_; clear hK K)
        with_reducible refine wpQuiet_nil ?_
        rintro _ ⟨nq, rfl⟩
        go_wp2
        go_ret
        exact ⟨ret_bool (by rw [HV.out, eq_comm, Bool.eq_false_iff, ne_eq, Gr.isF_iff]; omega), (Chg.refl _).drewN _⟩
    · have b2 : decide (x < (G.W : Int)) = false := by simpa using r2
      iterate 8 ((with_reducible refine wpQuiet_step (fun K hK => ?_)); go_simp; refine hK _ ?_; clear hK K)
      with_reducible refine wpQuiet_skips 2 (by kernel_rfl) ?_
      simp only [List.drop_succ_cons, List.drop_zero]
      iterate 2 ((with_reducible refine wpQuiet_step (fun K hK => ?_)); go_simp; refine hK _ ?_; clear hK K)
      with_reducible refine wpQuiet_skips 6 (by kernel_rfl) ?_
      simp only [List.drop_succ_cons, List.drop_zero]
      iterate 2 ((with_reducible refine wpQuiet_step (fun K hK => ?_)); go_simp; refine hK _ ?_; clear hK K)
      with_reducible refine wpQuiet_skips 14 (by kernel_rfl) ?_
      simp only [List.drop_succ_cons, List.drop_zero]
      iterate 2 ((with_reducible refine wpQuiet_step (fun K hK => ?_)); go_simp; refine hK _ ?_; clear hK K)
      with_reducible refine wpQuiet_nil ?_
      rintro _ ⟨nq, rfl⟩
      go_wp2
      go_ret
      exact ⟨ret_bool (by rw [HV.out, eq_comm, Bool.eq_false_iff, ne_eq, Gr.isF_iff]; omega), (Chg.refl _).drewN _⟩
  · have b1 : decide (0 ≤ x) = false := by simpa using r1
    iterate 3 ((with_reducible refine wpQuiet_step (fun K hK => ?_)); go_simp; refine hK _ ?_; clear hK K)
    with_reducible refine wpQuiet_skips 6 (by kernel_rfl) ?_
    simp only [List.drop_succ_cons, List.drop_zero]
    iterate 2 ((with_reducible refine wpQuiet_step (fun K hK => ?_)); go_simp; refine hK _ ?_; clear hK K)
    with_reducible refine wpQuiet_skips 2 (by kernel_rfl) ?_
    simp only [List.drop_succ_cons, List.drop_zero]
    iterate 2 ((with_reducible refine wpQuiet_step (fun K hK => ?_)); go_simp; refine hK _ ?_; clear hK K)
    with_reducible refine wpQuiet_skips 6 (by kernel_rfl) ?_
    simp only [List.drop_succ_cons, List.drop_zero]
    iterate 2 ((with_reducible refine wpQuiet_step (fun K hK => ?_)); go_simp; refine hK _ ?_; clear hK K)
    with_reducible refine wpQuiet_skips 14 (by kernel_rfl) ?_
    simp only [List.drop_succ_cons, List.drop_zero]
    iterate 2 ((with_reducible refine wpQuiet_step (fun K hK => ?_)); go_simp; refine hK _ ?_; clear hK K)
    with_reducible refine wpQuiet_nil ?_
    rintro _ ⟨nq, rfl⟩
    go_wp2
    go_ret
    exact ⟨ret_bool (by rw [HV.out, eq_comm, Bool.eq_false_iff, ne_eq, Gr.isF_iff]; omega), (Chg.refl _).drewN _⟩
end
end Go.Proofs.YtilobedihjkpjaaDoor.Steps
