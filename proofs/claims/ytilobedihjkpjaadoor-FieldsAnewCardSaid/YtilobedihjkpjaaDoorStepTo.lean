/-
  The tile in a direction.
-/
import Derived.Test.YtilobedihjkpjaaDoorSteps
namespace Go.Proofs.YtilobedihjkpjaaDoor.Steps
open Go Go.RowKit

section
variable {w : World} {p g c : Nat} {G : Gr}

set_option maxRecDepth 100000 in
set_option maxHeartbeats 8000000 in
theorem to_any (h : Gnd 92 w p g c G) (t d : Nat) (ht : t < G.fs.length) (hd : d < 8) : Calls Tryd.prog 51 #[.pointer (some ⟨p, 0, none⟩), .int .i64 t, .int .i64 d] w fun r w' => r = .returned (.int .i64 (G.to t d)) ∧ Same w w' := by
  have H := hid h
  have hto : G.to t d = (if G.isF (G.X t + dxOf d) (G.Y t + dyOf d) then G.at' (G.X t + dxOf d) (G.Y t + dyOf d) else -1) := rfl
  obtain ⟨v, hv⟩ : ∃ v, v = G.to t d := ⟨_, rfl⟩
  rw [hto] at hv
  rw [show G.to t d = v by rw [hv, hto]]
  have HV := hid hv
  clear hto hv
  go_enter Tryd.func51, Tryd.ntmps51
  go_wp2_with fail
  refine (shift_any w d hd).mono ?_
  rintro r w1 ⟨rfl, hs⟩
  have h1 := H.out.same hs
  have c0 := h1.c0
  have c1 := h1.c1
  have c2 := h1.c2
  have S1 := hid hs
  have H1 := hid h1
  have hw1 := h.ok.w1
  have hw2 := h.ok.w2
  have hh1 := h.ok.h1
  have hh2 := h.ok.h2
  have hl := h.ok.max
  obtain ⟨d1, d2, -, -⟩ := dir_abs hd
  have hX : (t : Int).tmod (G.W : Int) = G.X t := (Int.ofNat_tmod t G.W).symm
  have hY : (t : Int).tdiv (G.W : Int) = G.Y t := (Int.ofNat_tdiv t G.W).symm
  obtain ⟨x1, x2, x3, -⟩ := Gr.XY h.ok t
  have x4 := Gr.Yin h.ok ht
  generalize dxOf d = dx at *
  generalize dyOf d = dy at *
  generalize G.X t = tx at *
  generalize G.Y t = ty at *
  clear hs h1 h H
  go_wp2
  go_quiet (fail)
  have S2 := hid (S1.out.drewN nq)
  have H2 := H1.out.same ((Chg.refl _).drewN nq)
  have e0 := H2.c0
  have e1 := H2.c1
  have e2 := H2.c2
  have HH := hid H2
  clear c0 c1 c2 S1 H1 H2 hX hY
  generalize w1.drewN nq = w2 at *
  have hx1 : -1 ≤ tx + dx ∧ tx + dx ≤ 32 := by omega
  have hy1 : -1 ≤ ty + dy ∧ ty + dy ≤ 32 := by omega
  clear d1 d2 x1 x2 x3 x4
  generalize tx + dx = x at *
  generalize ty + dy = y at *
  go_wp2
  refine wp_region_quiet_lit (by kernel_rfl) (by kernel_rfl) ?_
  by_cases r1 : 0 ≤ x
  · have b1 : decide (x < 0) = false := by simpa using r1
    iterate 3 ((with_reducible refine wpQuiet_step (fun K hK => ?_)); go_simp; refine hK _ ?_; clear hK K)
    by_cases r2 : x < G.W
    · have b2 : decide ((G.W : Int) ≤ x) = false := by simpa using r2
      iterate 8 ((with_reducible refine wpQuiet_step (fun K hK => ?_)); go_simp; refine hK _ ?_; clear hK K)
      by_cases r3 : 0 ≤ y
      · have b3 : decide (y < 0) = false := by simpa using r3
        iterate 4 ((with_reducible refine wpQuiet_step (fun K hK => ?_)); go_simp; refine hK _ ?_; clear hK K)
        by_cases r4 : y < G.H
        · have b4 : decide ((G.H : Int) ≤ y) = false := by simpa using r4
          iterate 8 ((with_reducible refine wpQuiet_step (fun K hK => ?_)); go_simp; refine hK _ ?_; clear hK K)
          have hat := Gr.at_lt HH.out.ok r1 r2 r3 r4
          obtain ⟨k, hk⟩ := Int.eq_ofNat_of_zero_le hat.1
          have hF : G.isF x y = G.free k := by
            unfold Gr.isF Gr.free
            rw [decide_eq_true (by exact ⟨r1, r2, r3, r4⟩), Bool.true_and]
            unfold Gr.at' at hk
            rw [hk, Int.toNat_natCast]
          have hkl : k < G.fs.length := by omega
          have hg := HH.out.get k hkl
          have HF := hid hF
          have HK := hid hk
          have hk' : y * (G.W : Int) + x = (k : Int) := hk
          have hm1 : 0 ≤ y * (G.W : Int) := Int.mul_nonneg r3 (by omega)
          have hm2 : y * (G.W : Int) ≤ 1024 := by omega
          have hw3 : IntKind.i64.wrap (y * (G.W : Int)) = y * (G.W : Int) := IntWalk.i64_in _ (by omega)
          have hw4 : IntKind.i64.wrap (k : Int) = (k : Int) := IntWalk.i64_in _ (by omega)
          have hk2 : 0 ≤ (k : Int) ∧ (k : Int) < (G.fs.length : Int) := by omega
          clear hF hk hat
          generalize hf : G.free k = b at hg
          have HB := hid hf
          clear hf
          iterate 16 ((with_reducible refine wpQuiet_step (fun K hK => ?_)); go_simp; refine hK _ ?_; clear hK K)
          with_reducible refine wpQuiet_nil ?_
          rintro _ ⟨nq, rfl⟩
          cases b with
          | true =>
            go_wp2
            go_ret
            exact ⟨ret_int (by rw [HV.out, if_pos (by rw [HF.out, HB.out]), HK.out]), S2.out.drewN _⟩
          | false =>
            go_wp2
            go_ret
            exact ⟨ret_int (by rw [HV.out, if_neg (by rw [HF.out, HB.out]; simp)]), S2.out.drewN _⟩
        · have b4 : decide ((G.H : Int) ≤ y) = true := by simpa using r4
          iterate 8 ((with_reducible refine wpQuiet_step (fun K hK => ?_)); go_simp; refine hK _ ?_; clear hK K)
          with_reducible refine wpQuiet_skips 15 (by kernel_rfl) ?_
          simp only [List.drop_succ_cons, List.drop_zero]
          iterate 1 ((with_reducible refine wpQuiet_step (fun K hK => ?_)); go_simp; refine hK _ ?_; clear hK K)
          with_reducible refine wpQuiet_nil ?_
          rintro _ ⟨nq, rfl⟩
          go_wp2
          go_ret
          exact ⟨ret_int (by rw [HV.out, if_neg (by rw [Gr.isF_iff]; omega)]), S2.out.drewN _⟩
      · have b3 : decide (y < 0) = true := by simpa using r3
        iterate 4 ((with_reducible refine wpQuiet_step (fun K hK => ?_)); go_simp; refine hK _ ?_; clear hK K)
        with_reducible refine wpQuiet_skips 6 (by kernel_rfl) ?_
        simp only [List.drop_succ_cons, List.drop_zero]
        iterate 2 ((with_reducible refine wpQuiet_step (fun K hK => ?_)); go_simp; refine hK _ ?_; clear hK K)
        with_reducible refine wpQuiet_skips 15 (by kernel_rfl) ?_
        simp only [List.drop_succ_cons, List.drop_zero]
        iterate 1 ((with_reducible refine wpQuiet_step (fun K hK => ?_)); go_simp; refine hK _ ?_; clear hK K)
        with_reducible refine wpQuiet_nil ?_
        rintro _ ⟨nq, rfl⟩
        go_wp2
        go_ret
        exact ⟨ret_int (by rw [HV.out, if_neg (by rw [Gr.isF_iff]; omega)]), S2.out.drewN _⟩
    · have b2 : decide ((G.W : Int) ≤ x) = true := by simpa using r2
      iterate 8 ((with_reducible refine wpQuiet_step (fun K hK => ?_)); go_simp; refine hK _ ?_; clear hK K)
      with_reducible refine wpQuiet_skips 2 (by kernel_rfl) ?_
      simp only [List.drop_succ_cons, List.drop_zero]
      iterate 2 ((with_reducible refine wpQuiet_step (fun K hK => ?_)); go_simp; refine hK _ ?_; clear hK K)
      with_reducible refine wpQuiet_skips 6 (by kernel_rfl) ?_
      simp only [List.drop_succ_cons, List.drop_zero]
      iterate 2 ((with_reducible refine wpQuiet_step (fun K hK => ?_)); go_simp; refine hK _ ?_; clear hK K)
      with_reducible refine wpQuiet_skips 15 (by kernel_rfl) ?_
      simp only [List.drop_succ_cons, List.drop_zero]
      iterate 1 ((with_reducible refine wpQuiet_step (fun K hK => ?_)); go_simp; refine hK _ ?_; clear hK K)
      with_reducible refine wpQuiet_nil ?_
      rintro _ ⟨nq, rfl⟩
      go_wp2
      go_ret
      exact ⟨ret_int (by rw [HV.out, if_neg (by rw [Gr.isF_iff]; omega)]), S2.out.drewN _⟩
  · have b1 : decide (x < 0) = true := by simpa using r1
    iterate 3 ((with_reducible refine wpQuiet_step (fun K hK => ?_)); go_simp; refine hK _ ?_; clear hK K)
    with_reducible refine wpQuiet_skips 6 (by kernel_rfl) ?_
    simp only [List.drop_succ_cons, List.drop_zero]
    iterate 2 ((with_reducible refine wpQuiet_step (fun K hK => ?_)); go_simp; refine hK _ ?_; clear hK K)
    with_reducible refine wpQuiet_skips 2 (by kernel_rfl) ?_
    simp only [List.drop_succ_cons, List.drop_zero]
    iterate 2 ((with_reducible refine wpQuiet_step (fun K hK => ?_)); go_simp; refine hK _ ?_; clear hK K)
    with_reducible refine wpQuiet_skips 6 (by kernel_rfl) ?_
    simp only [List.drop_succ_cons, List.drop_zero]
    iterate 2 ((with_reducible refine wpQuiet_step (fun K hK => ?_)); go_simp; refine hK _ ?_; clear hK K)
    with_reducible refine wpQuiet_skips 15 (by kernel_rfl) ?_
    simp only [List.drop_succ_cons, List.drop_zero]
    iterate 1 ((with_reducible refine wpQuiet_step (fun K hK => ?_)); go_simp; refine hK _ ?_; clear hK K)
    with_reducible refine wpQuiet_nil ?_
    rintro _ ⟨nq, rfl⟩
    go_wp2
    go_ret
    exact ⟨ret_int (by rw [HV.out, if_neg (by rw [Gr.isF_iff]; omega)]), S2.out.drewN _⟩
end
end Go.Proofs.YtilobedihjkpjaaDoor.Steps
