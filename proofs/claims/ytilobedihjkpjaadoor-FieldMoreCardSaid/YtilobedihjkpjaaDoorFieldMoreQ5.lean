/-
  FieldMore: the texts Steps, StepTo, StepGo, Flat, StepAround, Heap, joined.
-/
import Derived.Test.YtilobedihjkpjaaDoorFieldMoreQ4
import Derived.Test.YtilobedihjkpjaaDoorFieldMoreQ2
import Derived.Test.YtilobedihjkpjaaDoorProg
import Derived.Test.YtilobedihjkpjaaDoorFieldMoreQ1

/-
  The methods of a ground that read it: Len, has, Free, to, Go; each by its contract.
-/
namespace Go.Proofs.YtilobedihjkpjaaDoor.Steps
open Go Go.RowKit

section
variable {w : World} {p g c : Nat} {G : Gr}

set_option maxRecDepth 100000 in
theorem len_any (h : Gnd 92 w p g c G) : Calls Tryd.prog 17 #[.pointer (some ⟨p, 0, none⟩)] w fun r w' => r = .returned (.int .i64 G.fs.length) ∧ w = w' := by
  have c2 := h.c2
  clear h
  go_enter Tryd.func17, Tryd.ntmps17
  go_wp2
  go_ret
  exact ⟨rfl, rfl⟩

set_option maxRecDepth 100000 in
theorem has_any (h : Gnd 92 w p g c G) (t : Int) : Calls Tryd.prog 50 #[.pointer (some ⟨p, 0, none⟩), .int .i64 t] w fun r w' => r = .returned (.bool (G.has t)) ∧ w = w' := by
  have c2 := h.c2
  clear h
  go_enter Tryd.func50, Tryd.ntmps50
  by_cases h0 : 0 ≤ t
  · by_cases h1 : t < G.fs.length
    · go_wp2
      go_ret
      exact ⟨by rw [show G.has t = true from decide_eq_true (by omega)]; rfl, rfl⟩
    · go_wp2
      go_ret
      exact ⟨by rw [show G.has t = false from decide_eq_false (by omega)]; rfl, rfl⟩
  · go_wp2
    go_ret
    exact ⟨by rw [show G.has t = false from decide_eq_false (by omega)]; rfl, rfl⟩

set_option maxRecDepth 100000 in
theorem free_any (h : Gnd 92 w p g c G) (t : Int) : Calls Tryd.prog 14 #[.pointer (some ⟨p, 0, none⟩), .int .i64 t] w fun r w' => r = .returned (.bool (G.freeI t)) ∧ w = w' := by
  have c2 := h.c2
  have H := hid h
  go_enter Tryd.func14, Tryd.ntmps14
  by_cases h0 : G.has t = true
  · have h1 : 0 ≤ t ∧ t < G.fs.length := of_decide_eq_true h0
    obtain ⟨t, rfl⟩ := Int.eq_ofNat_of_zero_le h1.1
    have h2 : t < G.fs.length := by omega
    have hg := h.get t h2
    have e : G.freeI (t : Int) = G.free t := by unfold Gr.freeI; rw [h0]; rfl
    rw [e]
    clear h e h1
    go_wp2_with fail
    refine (has_any H.out _).mono ?_
    rintro r w' ⟨rfl, rfl⟩
    rw [h0]
    go_wp2
    go_ret
    exact ⟨rfl, rfl⟩
  · have h1 : G.has t = false := by simpa using h0
    have e : G.freeI t = false := by unfold Gr.freeI; rw [h1]; rfl
    rw [e]
    clear h e h0
    go_wp2_with fail
    refine (has_any H.out _).mono ?_
    rintro r w' ⟨rfl, rfl⟩
    rw [h1]
    go_wp2
    go_ret
    exact ⟨rfl, rfl⟩

set_option maxRecDepth 100000 in
theorem shift_any (w : World) (d : Nat) (hd : d < 8) : Calls Tryd.prog 75 #[.int .i64 d] w fun r w' => r = .returned (.tuple #[.int .i64 (dxOf d), .int .i64 (dyOf d)]) ∧ Same w w' := by
  have hd' : d = 0 ∨ d = 1 ∨ d = 2 ∨ d = 3 ∨ d = 4 ∨ d = 5 ∨ d = 6 ∨ d = 7 := by omega
  rcases hd' with rfl | rfl | rfl | rfl | rfl | rfl | rfl | rfl
  all_goals
    clear hd
    go_enter Tryd.func75, Tryd.ntmps75
    go_wp2
    go_quiet (fail)
    go_wp2
    go_ret2
    exact ⟨rfl, ((Chg.refl _).alloc _).drewN _⟩

end
end Go.Proofs.YtilobedihjkpjaaDoor.Steps

/-
  The tile in a direction.
-/
namespace Go.Proofs.YtilobedihjkpjaaDoor.Steps
open Go Go.RowKit

section
variable {w : World} {p g c : Nat} {G : Gr}

set_option maxRecDepth 100000 in
set_option maxHeartbeats 8000000 in
theorem to_any (h : Gnd 92 w p g c G) (t d : Nat) (ht : t < G.fs.length) (hd : d < 8) : Calls Tryd.prog 51 #[.pointer (some ⟨p, 0, none⟩), .int .i64 t, .int .i64 d] w fun r w' => r = .returned (.int .i64 (G.to t d)) ∧ Same w w' := by
  have H := hid h
  have hto : G.to t d = (if G.isF (G.X t + dxOf d) (G.Y t + dyOf d) then G.at' (G.X t + dxOf d) (G.Y t + dyOf d) else -1) := rfl
  obtain ⟨v, hv⟩ : ∃ v, v = G.to t d := ⟨_, rfl⟩
  rw [hto] at hv
  rw [show G.to t d = v by rw [hv, hto]]
  have HV := hid hv
  clear hto hv
  go_enter Tryd.func51, Tryd.ntmps51
  go_wp2_with fail
  refine (shift_any w d hd).mono ?_
  rintro r w1 ⟨rfl, hs⟩
  have h1 := H.out.same hs
  have c0 := h1.c0
  have c1 := h1.c1
  have c2 := h1.c2
  have S1 := hid hs
  have H1 := hid h1
  have hw1 := h.ok.w1
  have hw2 := h.ok.w2
  have hh1 := h.ok.h1
  have hh2 := h.ok.h2
  have hl := h.ok.max
  obtain ⟨d1, d2, -, -⟩ := dir_abs hd
  have hX : (t : Int).tmod (G.W : Int) = G.X t := (Int.ofNat_tmod t G.W).symm
  have hY : (t : Int).tdiv (G.W : Int) = G.Y t := (Int.ofNat_tdiv t G.W).symm
  obtain ⟨x1, x2, x3, -⟩ := Gr.XY h.ok t
  have x4 := Gr.Yin h.ok ht
  generalize dxOf d = dx at *
  generalize dyOf d = dy at *
  generalize G.X t = tx at *
  generalize G.Y t = ty at *
  clear hs h1 h H
  go_wp2
  go_quiet (fail)
  have S2 := hid (S1.out.drewN nq)
  have H2 := H1.out.same ((Chg.refl _).drewN nq)
  have e0 := H2.c0
  have e1 := H2.c1
  have e2 := H2.c2
  have HH := hid H2
  clear c0 c1 c2 S1 H1 H2 hX hY
  generalize w1.drewN nq = w2 at *
  have hx1 : -1 ≤ tx + dx ∧ tx + dx ≤ 32 := by omega
  have hy1 : -1 ≤ ty + dy ∧ ty + dy ≤ 32 := by omega
  clear d1 d2 x1 x2 x3 x4
  generalize tx + dx = x at *
  generalize ty + dy = y at *
  go_wp2
  refine wp_region_quiet_lit (by kernel_rfl) (by kernel_rfl) ?_
  by_cases r1 : 0 ≤ x
  · have b1 : decide (x < 0) = false := by simpa using r1
    iterate 3 ((with_reducible refine wpQuiet_step (fun K hK => ?_)); go_simp; refine hK _ ?_; clear hK K)
    by_cases r2 : x < G.W
    · have b2 : decide ((G.W : Int) ≤ x) = false := by simpa using r2
      iterate 8 ((with_reducible refine wpQuiet_step (fun K hK => ?_)); go_simp; refine hK _ ?_; clear hK K)
      by_cases r3 : 0 ≤ y
      · have b3 : decide (y < 0) = false := by simpa using r3
        iterate 4 ((with_reducible refine wpQuiet_step (fun K hK => ?_)); go_simp; refine hK _ ?_; clear hK K)
        by_cases r4 : y < G.H
        · have b4 : decide ((G.H : Int) ≤ y) = false := by simpa using r4
          iterate 8 ((with_reducible refine wpQuiet_step (fun K hK => ?_)); go_simp; refine hK _ ?_; clear hK K)
          have hat := Gr.at_lt HH.out.ok r1 r2 r3 r4
          obtain ⟨k, hk⟩ := Int.eq_ofNat_of_zero_le hat.1
          have hF : G.isF x y = G.free k := by
            unfold Gr.isF Gr.free
            rw [decide_eq_true (by exact ⟨r1, r2, r3, r4⟩), Bool.true_and]
            unfold Gr.at' at hk
            rw [hk, Int.toNat_natCast]
          have hkl : k < G.fs.length := by omega
          have hg := HH.out.get k hkl
          have HF := hid hF
          have HK := hid hk
          have hk' : y * (G.W : Int) + x = (k : Int) := hk
          have hm1 : 0 ≤ y * (G.W : Int) := Int.mul_nonneg r3 (by omega)
          have hm2 : y * (G.W : Int) ≤ 1024 := by omega
          have hw3 : IntKind.i64.wrap (y * (G.W : Int)) = y * (G.W : Int) := IntWalk.i64_in _ (by omega)
          have hw4 : IntKind.i64.wrap (k : Int) = (k : Int) := IntWalk.i64_in _ (by omega)
          have hk2 : 0 ≤ (k : Int) ∧ (k : Int) < (G.fs.length : Int) := by omega
          clear hF hk hat
          generalize hf : G.free k = b at hg
          have HB := hid hf
          clear hf
          iterate 16 ((with_reducible refine wpQuiet_step (fun K hK => ?_)); go_simp; refine hK _ ?_; clear hK K)
          with_reducible refine wpQuiet_nil ?_
          rintro _ ⟨nq, rfl⟩
          cases b with
          | true =>
            go_wp2
            go_ret
            exact ⟨ret_int (by rw [HV.out, if_pos (by rw [HF.out, HB.out]), HK.out]), S2.out.drewN _⟩
          | false =>
            go_wp2
            go_ret
            exact ⟨ret_int (by rw [HV.out, if_neg (by rw [HF.out, HB.out]; simp)]), S2.out.drewN _⟩
        · have b4 : decide ((G.H : Int) ≤ y) = true := by simpa using r4
          iterate 8 ((with_reducible refine wpQuiet_step (fun K hK => ?_)); go_simp; refine hK _ ?_; clear hK K)
          with_reducible refine wpQuiet_skips 15 (by kernel_rfl) ?_
          simp only [List.drop_succ_cons, List.drop_zero]
          iterate 1 ((with_reducible refine wpQuiet_step (fun K hK => ?_)); go_simp; refine hK _ ?_; clear hK K)
          with_reducible refine wpQuiet_nil ?_
          rintro _ ⟨nq, rfl⟩
          go_wp2
          go_ret
          exact ⟨ret_int (by rw [HV.out, if_neg (by rw [Gr.isF_iff]; omega)]), S2.out.drewN _⟩
      · have b3 : decide (y < 0) = true := by simpa using r3
        iterate 4 ((with_reducible refine wpQuiet_step (fun K hK => ?_)); go_simp; refine hK _ ?_; clear hK K)
        with_reducible refine wpQuiet_skips 6 (by kernel_rfl) ?_
        simp only [List.drop_succ_cons, List.drop_zero]
        iterate 2 ((with_reducible refine wpQuiet_step (fun K hK => ?_)); go_simp; refine hK _ ?_; clear hK K)
        with_reducible refine wpQuiet_skips 15 (by kernel_rfl) ?_
        simp only [List.drop_succ_cons, List.drop_zero]
        iterate 1 ((with_reducible refine wpQuiet_step (fun K hK => ?_)); go_simp; refine hK _ ?_; clear hK K)
        with_reducible refine wpQuiet_nil ?_
        rintro _ ⟨nq, rfl⟩
        go_wp2
        go_ret
        exact ⟨ret_int (by rw [HV.out, if_neg (by rw [Gr.isF_iff]; omega)]), S2.out.drewN _⟩
    · have b2 : decide ((G.W : Int) ≤ x) = true := by simpa using r2
      iterate 8 ((with_reducible refine wpQuiet_step (fun K hK => ?_)); go_simp; refine hK _ ?_; clear hK K)
      with_reducible refine wpQuiet_skips 2 (by kernel_rfl) ?_
      simp only [List.drop_succ_cons, List.drop_zero]
      iterate 2 ((with_reducible refine wpQuiet_step (fun K hK => ?_)); go_simp; refine hK _ ?_; clear hK K)
      with_reducible refine wpQuiet_skips 6 (by kernel_rfl) ?_
      simp only [List.drop_succ_cons, List.drop_zero]
      iterate 2 ((with_reducible refine wpQuiet_step (fun K hK => ?_)); go_simp; refine hK _ ?_; clear hK K)
      with_reducible refine wpQuiet_skips 15 (by kernel_rfl) ?_
      simp only [List.drop_succ_cons, List.drop_zero]
      iterate 1 ((with_reducible refine wpQuiet_step (fun K hK => ?_)); go_simp; refine hK _ ?_; clear hK K)
      with_reducible refine wpQuiet_nil ?_
      rintro _ ⟨nq, rfl⟩
      go_wp2
      go_ret
      exact ⟨ret_int (by rw [HV.out, if_neg (by rw [Gr.isF_iff]; omega)]), S2.out.drewN _⟩
  · have b1 : decide (x < 0) = true := by simpa using r1
    iterate 3 ((with_reducible refine wpQuiet_step (fun K hK => ?_)); go_simp; refine hK _ ?_; clear hK K)
    with_reducible refine wpQuiet_skips 6 (by kernel_rfl) ?_
    simp only [List.drop_succ_cons, List.drop_zero]
    iterate 2 ((with_reducible refine wpQuiet_step (fun K hK => ?_)); go_simp; refine hK _ ?_; clear hK K)
    with_reducible refine wpQuiet_skips 2 (by kernel_rfl) ?_
    simp only [List.drop_succ_cons, List.drop_zero]
    iterate 2 ((with_reducible refine wpQuiet_step (fun K hK => ?_)); go_simp; refine hK _ ?_; clear hK K)
    with_reducible refine wpQuiet_skips 6 (by kernel_rfl) ?_
    simp only [List.drop_succ_cons, List.drop_zero]
    iterate 2 ((with_reducible refine wpQuiet_step (fun K hK => ?_)); go_simp; refine hK _ ?_; clear hK K)
    with_reducible refine wpQuiet_skips 15 (by kernel_rfl) ?_
    simp only [List.drop_succ_cons, List.drop_zero]
    iterate 1 ((with_reducible refine wpQuiet_step (fun K hK => ?_)); go_simp; refine hK _ ?_; clear hK K)
    with_reducible refine wpQuiet_nil ?_
    rintro _ ⟨nq, rfl⟩
    go_wp2
    go_ret
    exact ⟨ret_int (by rw [HV.out, if_neg (by rw [Gr.isF_iff]; omega)]), S2.out.drewN _⟩
end
end Go.Proofs.YtilobedihjkpjaaDoor.Steps

/-
  A step in a direction.
-/
namespace Go.Proofs.YtilobedihjkpjaaDoor.Steps
open Go Go.RowKit

/-- A step's answer. -/
def goV (d : Int) : Option (Nat × Int) → Value
  | some (u, c) => .tuple #[.agg #[.int .i64 d, .int .i64 u, .int .i64 c], .bool true]
  | none => .tuple #[.agg #[.int .i64 0, .int .i64 0, .int .i64 0], .bool false]
theorem stepSize (a b c : Value) : (Tryd.prog.info? 47).map (·.size) = some (#[a, b, c] : Array Value).size := by kernel_rfl
section
variable {w : World} {p g c : Nat} {G : Gr}

set_option maxRecDepth 100000 in
set_option maxHeartbeats 4000000 in
theorem go_any (h : Gnd 92 w p g c G) (t d : Int) : Calls Tryd.prog 16 #[.pointer (some ⟨p, 0, none⟩), .int .i64 t, .int .i64 d] w fun r w' => r = .returned (goV d (G.goI t d)) ∧ Same w w' := by
  have H := hid h
  have Z := hid ((Star.new w).alloc #[.int .i64 0, .int .i64 0, .int .i64 0] 47)
  obtain ⟨x, hx⟩ : ∃ x, x = G.goI t d := ⟨_, rfl⟩
  rw [← hx]
  have HX := hid hx
  clear hx h
  go_enter Tryd.func16, Tryd.ntmps16
  go_wp2_with fail
  refine (free_any (H.out.same Z.out.same) t).mono ?_
  rintro r w' ⟨rfl, rfl⟩
  have hb := Z.out.blk 0 rfl
  generalize w.alloc _ = w1 at *
  generalize w.heap.size = q at *
  cases hf : G.freeI t with
  | false =>
    have HF := hid (Gr.goI_free (d := d) hf)
    clear hb
    have hb := (Z.out.blk 0 rfl).1
    have q0 := cell_of hb 0
    have q1 := cell_of hb 1
    have q2 := cell_of hb 2
    have f0 := free_of hb 0
    have f1 := free_of hb 1
    have f2 := free_of hb 2
    simp only [List.getElem?_toArray, List.getElem?_cons_zero, List.getElem?_cons_succ] at q0 q1 q2
    go_wp2
    have X9 := hid (((Z.out.put 0 rfl 0 (.int .i64 0)).put 0 rfl 1 (.int .i64 0)).put 0 rfl 2 (.int .i64 0))
    refine bodyPost_ret (v := .tuple #[.agg #[.int .i64 0, .int .i64 0, .int .i64 0], .bool false]) (results_cell_tmp Tryd.results16 _ _ q _ _ _ _ rfl (X9.out.blk 0 rfl).1 Tryd.underlying47 rfl (stepSize _ _ _) _ rfl) rfl ⟨by rw [HX.out, HF.out]; rfl, X9.out.same⟩
  | true =>
    clear hb
    by_cases d0 : 0 ≤ d
    · by_cases d8 : d < 8
      · have ht0 : 0 ≤ t := by
          by_cases h0 : 0 ≤ t
          · exact h0
          · unfold Gr.freeI Gr.has at hf
            rw [decide_eq_false (by omega), Bool.false_and] at hf
            cases hf
        obtain ⟨t, rfl⟩ := Int.eq_ofNat_of_zero_le ht0
        obtain ⟨d, rfl⟩ := Int.eq_ofNat_of_zero_le d0
        have hd : d < 8 := by omega
        rw [Gr.freeI_nat] at hf
        have hgo := Gr.go_to H.out.ok t d hf hd
        have ht := Gr.free_in hf
        rw [Gr.goI_nat, hgo] at HX
        have HT := hid ht
        have hnat := Gr.to_nat H.out.ok t d
        have HN := hid hnat
        clear hf hgo ht0 hnat ht
        go_wp2_with fail
        refine (to_any (H.out.same Z.out.same) t d HT.out hd).mono ?_
        rintro r w2 ⟨rfl, hs2⟩
        have Z2 := hid (Z.out.go hs2)
        clear hs2
        by_cases hv : G.to t d = -1
        · rw [if_pos hv] at HX
          have hv2 : (G.to t d == -1) = true := by rw [hv]; rfl
          have hb := (Z2.out.blk 0 rfl).1
          have q0 := cell_of hb 0
          have q1 := cell_of hb 1
          have q2 := cell_of hb 2
          have f0 := free_of hb 0
          have f1 := free_of hb 1
          have f2 := free_of hb 2
          simp only [List.getElem?_toArray, List.getElem?_cons_zero, List.getElem?_cons_succ] at q0 q1 q2
          go_wp2
          have X9 := hid (((Z2.out.put 0 rfl 0 (.int .i64 0)).put 0 rfl 1 (.int .i64 0)).put 0 rfl 2 (.int .i64 0))
          refine bodyPost_ret (v := .tuple #[.agg #[.int .i64 0, .int .i64 0, .int .i64 0], .bool false]) (results_cell_tmp Tryd.results16 _ _ q _ _ _ _ rfl (X9.out.blk 0 rfl).1 Tryd.underlying47 rfl (stepSize _ _ _) _ rfl) rfl ⟨by rw [HX.out]; rfl, X9.out.same⟩
        · rw [if_neg hv] at HX
          obtain ⟨n1, -, -⟩ := HN.out hv
          have hv2 : (G.to t d == -1) = false := by simpa using hv
          generalize hu : (G.to t d).toNat = u at *
          generalize G.to t d = v at *
          subst n1
          clear hv hu HN
          by_cases de : d % 2 = 0
          · rw [if_pos de] at HX
            have hm : (d : Int).tmod 2 = 0 := by rw [show (2 : Int) = ((2 : Nat) : Int) from rfl, ← Int.ofNat_tmod]; omega
            clear de
            have hb := (Z2.out.blk 0 rfl).1
            have q0 := cell_of hb 0
            have q1 := cell_of hb 1
            have q2 := cell_of hb 2
            have f0 := free_of hb 0
            have f1 := free_of hb 1
            have f2 := free_of hb 2
            simp only [List.getElem?_toArray, List.getElem?_cons_zero, List.getElem?_cons_succ] at q0 q1 q2
            go_wp2
            have X9 := hid (((Z2.out.put 0 rfl 0 (.int .i64 d)).put 0 rfl 1 (.int .i64 u)).put 0 rfl 2 (.int .i64 10))
            refine bodyPost_ret (v := .tuple #[.agg #[.int .i64 d, .int .i64 u, .int .i64 10], .bool true]) (results_cell_tmp Tryd.results16 _ _ q _ _ _ _ rfl (X9.out.blk 0 rfl).1 Tryd.underlying47 rfl (stepSize _ _ _) _ rfl) rfl ⟨by rw [HX.out]; rfl, X9.out.same⟩
          · rw [if_neg de] at HX
            have hm : (d : Int).tmod 2 = 1 := by rw [show (2 : Int) = ((2 : Nat) : Int) from rfl, ← Int.ofNat_tmod]; omega
            have hd1 : (d : Int) - 1 = ((d - 1 : Nat) : Int) := by omega
            have hd2 : IntKind.i64.wrap ((d : Int) + 1) = (d : Int) + 1 := IntWalk.i64_in _ (by omega)
            have hd3 : ((d : Int) + 1).tmod 8 = (((d + 1) % 8 : Nat) : Int) := by rw [show (8 : Int) = ((8 : Nat) : Int) from rfl, show ((d : Int) + 1) = ((d + 1 : Nat) : Int) from rfl, ← Int.ofNat_tmod]
            have hd4 : d - 1 < 8 ∧ (d + 1) % 8 < 8 := by omega
            clear de
            go_wp2_with fail
            refine (to_any (H.out.same Z2.out.same) t (d - 1) HT.out hd4.1).mono ?_
            rintro r w3 ⟨rfl, hs3⟩
            have Z3 := hid (Z2.out.go hs3)
            clear hs3 Z Z2
            by_cases ha : G.to t (d - 1) = -1
            · rw [if_pos (.inl ha)] at HX
              have ha2 : (G.to t (d - 1) == -1) = true := by rw [ha]; rfl
              have hb := (Z3.out.blk 0 rfl).1
              have q0 := cell_of hb 0
              have q1 := cell_of hb 1
              have q2 := cell_of hb 2
              have f0 := free_of hb 0
              have f1 := free_of hb 1
              have f2 := free_of hb 2
              simp only [List.getElem?_toArray, List.getElem?_cons_zero, List.getElem?_cons_succ] at q0 q1 q2
              clear hb
              go_wp2
              have X9 := hid (((Z3.out.put 0 rfl 0 (.int .i64 0)).put 0 rfl 1 (.int .i64 0)).put 0 rfl 2 (.int .i64 0))
              refine bodyPost_ret (v := .tuple #[.agg #[.int .i64 0, .int .i64 0, .int .i64 0], .bool false]) (results_cell_tmp Tryd.results16 _ _ q _ _ _ _ rfl (X9.out.blk 0 rfl).1 Tryd.underlying47 rfl (stepSize _ _ _) _ rfl) rfl ⟨by rw [HX.out]; rfl, X9.out.same⟩
            · have ha2 : (G.to t (d - 1) == -1) = false := by simpa using ha
              go_wp2_with fail
              refine (to_any (H.out.same Z3.out.same) t ((d + 1) % 8) HT.out hd4.2).mono ?_
              rintro r w4 ⟨rfl, hs4⟩
              have Z4 := hid (Z3.out.go hs4)
              clear hs4 Z3
              by_cases hc : G.to t ((d + 1) % 8) = -1
              · rw [if_pos (.inr hc)] at HX
                have hc2 : (G.to t ((d + 1) % 8) == -1) = true := by rw [hc]; rfl
                have hb := (Z4.out.blk 0 rfl).1
                have q0 := cell_of hb 0
                have q1 := cell_of hb 1
                have q2 := cell_of hb 2
                have f0 := free_of hb 0
                have f1 := free_of hb 1
                have f2 := free_of hb 2
                simp only [List.getElem?_toArray, List.getElem?_cons_zero, List.getElem?_cons_succ] at q0 q1 q2
                clear hb
                go_wp2
                have X9 := hid (((Z4.out.put 0 rfl 0 (.int .i64 0)).put 0 rfl 1 (.int .i64 0)).put 0 rfl 2 (.int .i64 0))
                refine bodyPost_ret (v := .tuple #[.agg #[.int .i64 0, .int .i64 0, .int .i64 0], .bool false]) (results_cell_tmp Tryd.results16 _ _ q _ _ _ _ rfl (X9.out.blk 0 rfl).1 Tryd.underlying47 rfl (stepSize _ _ _) _ rfl) rfl ⟨by rw [HX.out]; rfl, X9.out.same⟩
              · rw [if_neg (by rintro (h | h); exact ha h; exact hc h)] at HX
                have hc2 : (G.to t ((d + 1) % 8) == -1) = false := by simpa using hc
                have hb := (Z4.out.blk 0 rfl).1
                have q0 := cell_of hb 0
                have q1 := cell_of hb 1
                have q2 := cell_of hb 2
                have f0 := free_of hb 0
                have f1 := free_of hb 1
                have f2 := free_of hb 2
                simp only [List.getElem?_toArray, List.getElem?_cons_zero, List.getElem?_cons_succ] at q0 q1 q2
                clear hb
                go_wp2
                have X9 := hid (((Z4.out.put 0 rfl 0 (.int .i64 d)).put 0 rfl 1 (.int .i64 u)).put 0 rfl 2 (.int .i64 14))
                refine bodyPost_ret (v := .tuple #[.agg #[.int .i64 d, .int .i64 u, .int .i64 14], .bool true]) (results_cell_tmp Tryd.results16 _ _ q _ _ _ _ rfl (X9.out.blk 0 rfl).1 Tryd.underlying47 rfl (stepSize _ _ _) _ rfl) rfl ⟨by rw [HX.out]; rfl, X9.out.same⟩
      · have HF := hid (Gr.goI_dir (G := G) (t := t) (d := d) (by omega))
        have hb := (Z.out.blk 0 rfl).1
        have q0 := cell_of hb 0
        have q1 := cell_of hb 1
        have q2 := cell_of hb 2
        have f0 := free_of hb 0
        have f1 := free_of hb 1
        have f2 := free_of hb 2
        simp only [List.getElem?_toArray, List.getElem?_cons_zero, List.getElem?_cons_succ] at q0 q1 q2
        go_wp2
        have X9 := hid (((Z.out.put 0 rfl 0 (.int .i64 0)).put 0 rfl 1 (.int .i64 0)).put 0 rfl 2 (.int .i64 0))
        refine bodyPost_ret (v := .tuple #[.agg #[.int .i64 0, .int .i64 0, .int .i64 0], .bool false]) (results_cell_tmp Tryd.results16 _ _ q _ _ _ _ rfl (X9.out.blk 0 rfl).1 Tryd.underlying47 rfl (stepSize _ _ _) _ rfl) rfl ⟨by rw [HX.out, HF.out]; rfl, X9.out.same⟩
    · have HF := hid (Gr.goI_dir (G := G) (t := t) (d := d) (by omega))
      have hb := (Z.out.blk 0 rfl).1
      have q0 := cell_of hb 0
      have q1 := cell_of hb 1
      have q2 := cell_of hb 2
      have f0 := free_of hb 0
      have f1 := free_of hb 1
      have f2 := free_of hb 2
      simp only [List.getElem?_toArray, List.getElem?_cons_zero, List.getElem?_cons_succ] at q0 q1 q2
      go_wp2
      have X9 := hid (((Z.out.put 0 rfl 0 (.int .i64 0)).put 0 rfl 1 (.int .i64 0)).put 0 rfl 2 (.int .i64 0))
      refine bodyPost_ret (v := .tuple #[.agg #[.int .i64 0, .int .i64 0, .int .i64 0], .bool false]) (results_cell_tmp Tryd.results16 _ _ q _ _ _ _ rfl (X9.out.blk 0 rfl).1 Tryd.underlying47 rfl (stepSize _ _ _) _ rfl) rfl ⟨by rw [HX.out, HF.out]; rfl, X9.out.same⟩
end
end Go.Proofs.YtilobedihjkpjaaDoor.Steps

/-
  Rows of structs as cells.
-/
namespace Go.Proofs.YtilobedihjkpjaaDoor
open Go Go.RowKit

section
variable {α : Type} {k : Nat} (h : α → List Value) (hk : ∀ x, (h x).length = k)
include hk
theorem rows_len (xs : List α) : (xs.flatMap h).length = xs.length * k := by
  induction xs with
  | nil => simp
  | cons x xs ih => rw [List.flatMap_cons, List.length_append, hk, ih, List.length_cons, Nat.succ_mul]; omega
theorem rows_get (xs : List α) (i j : Nat) (x : α) (hx : xs[i]? = some x) (hj : j < k) : (xs.flatMap h)[i * k + j]? = (h x)[j]? := by
  induction xs generalizing i with
  | nil => simp at hx
  | cons y xs ih =>
    rw [List.flatMap_cons]
    cases i with
    | zero => simp at hx; subst hx; rw [Nat.zero_mul, Nat.zero_add, List.getElem?_append_left (by rw [hk]; exact hj)]
    | succ i =>
      rw [List.getElem?_append_right (by rw [hk, Nat.succ_mul]; omega), hk, show (i + 1) * k + j - k = i * k + j by rw [Nat.succ_mul]; omega]
      exact ih i (by simpa using hx)
theorem rows_take (xs : List α) (i : Nat) : (xs.flatMap h).take (i * k) = (xs.take i).flatMap h := by
  induction xs generalizing i with
  | nil => simp
  | cons y xs ih =>
    cases i with
    | zero => simp
    | succ i =>
      rw [List.flatMap_cons, List.take_succ_cons, List.flatMap_cons, List.take_append, hk, show (i + 1) * k - k = i * k by rw [Nat.succ_mul]; omega, ih, List.take_of_length_le (by rw [hk, Nat.succ_mul]; omega)]
theorem rows_drop (xs : List α) (i : Nat) : (xs.flatMap h).drop (i * k) = (xs.drop i).flatMap h := by
  induction xs generalizing i with
  | nil => simp
  | cons y xs ih =>
    cases i with
    | zero => simp
    | succ i =>
      rw [List.flatMap_cons, List.drop_succ_cons, List.drop_append, hk, show (i + 1) * k - k = i * k by rw [Nat.succ_mul]; omega, ih, List.drop_of_length_le (by rw [hk, Nat.succ_mul]; omega), List.nil_append]
/-- One cell of a row is stored. -/
theorem rows_set1 (xs : List α) (i j : Nat) (x y : α) (u : Value) (hx : xs[i]? = some x) (hj : j < k) (hy : (h x).set j u = h y) : (xs.flatMap h).set (i * k + j) u = (xs.set i y).flatMap h := by
  induction xs generalizing i with
  | nil => simp at hx
  | cons z xs ih =>
    cases i with
    | zero =>
      simp at hx; subst hx
      rw [List.set_cons_zero, List.flatMap_cons, List.flatMap_cons, Nat.zero_mul, Nat.zero_add, List.set_append_left _ _ (by rw [hk]; exact hj), hy]
    | succ i =>
      rw [List.set_cons_succ, List.flatMap_cons, List.flatMap_cons, List.set_append_right _ _ (by rw [hk, Nat.succ_mul]; omega), hk, show (i + 1) * k + j - k = i * k + j by rw [Nat.succ_mul]; omega, ih i (by simpa using hx)]
end
theorem rows_one {α : Type} (h : α → List Value) (h1 : ∀ x, ∀ u ∈ h x, u.oneCell' = true) (xs : List α) : ∀ u ∈ xs.flatMap h, u.oneCell' = true := by
  intro u hu
  obtain ⟨x, _, hx⟩ := List.mem_flatMap.1 hu
  exact h1 x u hx

end Go.Proofs.YtilobedihjkpjaaDoor

/-
  All steps from a tile.
-/
namespace Go.Proofs.YtilobedihjkpjaaDoor.Steps
open Go Go.RowKit

/-- A step's cells. -/
def stC (s : Gr.St) : List Value := [.int .i64 s.d, .int .i64 s.to, .int .i64 s.c]
theorem stC_len (s : Gr.St) : (stC s).length = 3 := rfl
theorem stC_one (s : Gr.St) : ∀ u ∈ stC s, u.oneCell' = true := by intro u hu; simp [stC] at hu; rcases hu with rfl | rfl | rfl <;> rfl
def stCs (l : List Gr.St) : List Value := l.flatMap stC
theorem stCs_snoc (l : List Gr.St) (s : Gr.St) : stCs (l ++ [s]) = stCs l ++ stC s := by simp [stCs]
theorem infoS : (Tryd.prog.info? 47).map (fun i => (i.zero, i.size, i.bytes)) = some (some (.agg #[.int .i64 0, .int .i64 0, .int .i64 0]), 3, 24) := by kernel_rfl
section
variable {w : World} {p g c : Nat} {G : Gr}

set_option maxRecDepth 100000 in
set_option maxHeartbeats 4000000 in
theorem around_any (h : Gnd 92 w p g c G) (t : Int) : Calls Tryd.prog 15 #[.pointer (some ⟨p, 0, none⟩), .int .i64 t] w fun r w' => ∃ v, r = .returned v ∧ Star w w' [Row 47 3 v (G.aroundI t).length (stCs (G.aroundI t))] := by
  obtain ⟨i0, hi, hz0, hz1, hz2⟩ := info_parts infoS
  have H := hid h
  have X0 := hid ((Star.new w).nilRow 47 3)
  clear h
  go_enter Tryd.func15, Tryd.ntmps15
  go_wp2_with fail
  go_loopw [5, 9] (fun ov iv wr => ∃ k : Nat, k ≤ 8 ∧ iv = .int .i64 k ∧ Star w wr [Row 47 3 ov (G.aroundTo t k).length (stCs (G.aroundTo t k))]) (fun _ iv _ => 8 - (intOf iv).toNat)
  case atStart => exact ⟨0, by omega, rfl, X0.out⟩
  case round =>
    obtain ⟨k, hk, rfl, hX⟩ := hrel
    have X := hid hX
    clear hX X0
    have hl8 := G.aroundTo_len t k
    by_cases hk8 : k < 8
    · go_wp2_with fail
      refine (go_any (H.out.same X.out.same) t k).mono ?_
      rintro r w1 ⟨rfl, hs⟩
      have X1 := hid (X.out.go hs)
      clear hs X
      cases hgo : G.goI t k with
      | none =>
        have HG := hid (Gr.aroundTo_none hgo)
        clear hgo
        unfold goV
        go_wp2
        go_roundw
        case rel => exact ⟨k + 1, by omega, by go_num, by rw [HG.out]; exact (X1.out.alloc _ _).drop⟩
        case measure => simp [intOf]; omega
      | some p1 =>
        obtain ⟨u, cc⟩ := p1
        have HG := hid (Gr.aroundTo_some hgo)
        clear hgo
        unfold goV
        obtain ⟨av, cv, rfl, -⟩ := own_slice (X1.out.row 0 rfl).1
        have X2 := hid ((X1.out.alloc #[.int .i64 k, .int .i64 u, .int .i64 cc] 47).alloc #[.int .i64 k, .int .i64 u, .int .i64 cc] 47)
        rw [World.size_alloc] at X2
        clear X1
        go_wp2_with (at_builtin; refine wpList_app rfl (.tmp 20) (.tmp 22) 44 rfl 47 i0 (.agg #[.int .i64 0, .int .i64 0, .int .i64 0]) 3 24 Tryd.underlying44 hi hz0 hz1 hz2 rfl (by decide) _ (G.aroundTo t k).length (stCs (G.aroundTo t k)) rfl (X2.out.row 2 rfl).1 (some ⟨w1.heap.size + 1, 0, none⟩) 1 1 (stC ⟨k, u, cc⟩) rfl (reads_blk (X2.out.blk 0 rfl).1 1 1 3 rfl) (stC_one _) (by omega) (by omega) ?_; intro a3 c3 w3 ho3 hg3 hn3; have X3 := hid (X2.out.grown 2 rfl ho3 hg3 hn3).drop.drop; clear ho3 hg3 hn3)
        go_roundw
        case rel => exact ⟨k + 1, by omega, by go_num, by rw [HG.out, stCs_snoc, List.length_append]; exact X3.out⟩
        case measure => simp [intOf]; omega
    · obtain rfl : k = 8 := by omega
      go_wp2
      go_ret
      exact ⟨_, rfl, X.out⟩
end
end Go.Proofs.YtilobedihjkpjaaDoor.Steps

/-
  Package heap: entries as cells; a heap as it lies in memory.
-/
namespace Go.Proofs.YtilobedihjkpjaaDoor.Hp
open Go Go.RowKit

/-- An entry's cells. -/
def fl (e : Int × Int) : List Value := [.int .i64 e.1, .int .i64 e.2]
def flat (es : List (Int × Int)) : List Value := es.flatMap fl
/-- Does an entry come ahead of another one? -/
def ah (a b : Int × Int) : Bool := decide (a.1 < b.1) || (decide (a.1 = b.1) && decide (a.2 < b.2))

theorem flat_length (es : List (Int × Int)) : (flat es).length = es.length * 2 := by
  induction es with
  | nil => rfl
  | cons e es ih => simp [flat, fl] at ih ⊢; omega
theorem flat_0 (es : List (Int × Int)) (i : Nat) (e : Int × Int) (h : es[i]? = some e) : (flat es)[i * 2]? = some (.int .i64 e.1) := by
  induction es generalizing i with
  | nil => simp at h
  | cons x es ih =>
    cases i with
    | zero => simp at h; subst h; rfl
    | succ i => simp at h; have := ih i h; simp only [flat, List.flatMap_cons, fl] at this ⊢; rw [show (i + 1) * 2 = i * 2 + 2 by omega]; simpa using this
theorem flat_1 (es : List (Int × Int)) (i : Nat) (e : Int × Int) (h : es[i]? = some e) : (flat es)[i * 2 + 1]? = some (.int .i64 e.2) := by
  induction es generalizing i with
  | nil => simp at h
  | cons x es ih =>
    cases i with
    | zero => simp at h; subst h; rfl
    | succ i => simp at h; have := ih i h; simp only [flat, List.flatMap_cons, fl] at this ⊢; rw [show (i + 1) * 2 + 1 = i * 2 + 1 + 2 by omega]; simpa using this
theorem flat_set (es : List (Int × Int)) (i : Nat) (e : Int × Int) : flat (es.set i e) = ((flat es).set (i * 2) (.int .i64 e.1)).set (i * 2 + 1) (.int .i64 e.2) := by
  induction es generalizing i with
  | nil => simp [flat]
  | cons x es ih =>
    cases i with
    | zero => rfl
    | succ i =>
      have := ih i
      simp only [flat, List.set_cons_succ, List.flatMap_cons, fl] at this ⊢
      rw [show (i + 1) * 2 = i * 2 + 2 by omega, show i * 2 + 2 + 1 = i * 2 + 1 + 2 by omega, this]
      simp
theorem flat_append (a b : List (Int × Int)) : flat (a ++ b) = flat a ++ flat b := by simp [flat]
theorem flat_take (es : List (Int × Int)) (k : Nat) : (flat es).take (k * 2) = flat (es.take k) := by
  induction es generalizing k with
  | nil => simp [flat]
  | cons x es ih =>
    cases k with
    | zero => simp [flat]
    | succ k => have := ih k; simp only [flat, List.take_succ_cons, List.flatMap_cons, fl] at this ⊢; rw [show (k + 1) * 2 = k * 2 + 2 by omega]; simpa using this
theorem flat_one (es : List (Int × Int)) : ∀ u ∈ flat es, u.oneCell' = true := by
  intro u hu
  simp only [flat, List.mem_flatMap, fl] at hu
  obtain ⟨e, _, h⟩ := hu
  simp at h
  rcases h with rfl | rfl <;> rfl

/-- A heap: its block holds the slice v; v owns the entries es. -/
structure Hp (w : World) (p : Nat) (v : Value) (es : List (Int × Int)) : Prop where
  blk : w.heap[p]? = some (.cells #[v] 169 (0, 0))
  own : w.ownsRow 0 172 2 v es.length (flat es)
  ne : v.ownBlock ≠ some p

abbrev HpS (p : Nat) (v : Value) (k : Nat) : Prop := k = p ∨ some k = v.ownBlock
theorem HpS.new {w : World} {p : Nat} {v : Value} (hp : w.heap.size ≤ p) (hv : After w v) : ∀ i, HpS p v i → w.heap.size ≤ i := by
  rintro i (rfl | h)
  · exact hp
  · exact hv i h.symm

theorem HpS.back {w : World} {p : Nat} {v v' : Value} (h : NewOr w v v') (k : Nat) (hk : k < w.heap.size) (hs : HpS p v' k) : HpS p v k := by
  rcases hs with rfl | hs
  · exact .inl rfl
  · rcases h with h | h
    · exact .inr (hs.trans h)
    · have := h k hs.symm; omega

section
variable {w : World} {p : Nat} {v : Value} {es : List (Int × Int)}
theorem Hp.c0 (h : Hp w p v es) : w.cell? ⟨p, 0, none⟩ = some v := by simp [World.cell?, h.blk]
theorem Hp.f (h : Hp w p v es) (j : Nat) : w.frozen? ⟨p, j, none⟩ = false := by simp [World.frozen?, h.blk]
theorem Hp.lt (h : Hp w p v es) : p < w.heap.size := (Array.getElem?_eq_some_iff.1 h.blk).1
theorem Hp.shape (h : Hp w p v es) : ∃ a c, v = .slice a es.length c := by obtain ⟨a, c, h, _⟩ := own_slice h.own; exact ⟨a, c, h⟩
theorem Hp.max (h : Hp w p v es) : es.length ≤ 9223372036854775807 := own_max h.own
theorem Hp.chg {S : Nat → Prop} {w' : World} (h : Hp w p v es) (hc : Chg S w w') (hn : ∀ k, HpS p v k → ¬ S k) : Hp w' p v es :=
  ⟨hc.heap h.blk (hn p (.inl rfl)), own_chg h.own hc (fun k e => hn k (.inr e.symm)), h.ne⟩
/-- Behind a change elsewhere, and a store of the new slice. -/
theorem Hp.store {w1 : World} {v' : Value} {es' : List (Int × Int)} (h : Hp w p v es) (hc : Chg (fun k => some k = v.ownBlock) w w1) (ho : w1.ownsRow 0 172 2 v' es'.length (flat es'))
    (hv : NewOr w v v') : Hp (w1.setCell ⟨p, 0, none⟩ v') p v' es' ∧ Chg (HpS p v) w (w1.setCell ⟨p, 0, none⟩ v') := by
  have hne : v'.ownBlock ≠ some p := by
    rcases hv with hv | hv
    · rw [hv]; exact h.ne
    · intro e; have := hv p e; have := h.lt; omega
  have hb := hc.heap h.blk (fun e => h.ne e.symm)
  refine ⟨⟨?_, ?_, hne⟩, (hc.mono (fun k _ h => .inr h)).setCell _ _ (fun _ => .inl rfl)⟩
  · rw [set_same hb]; simp
  · exact own_chg (S := fun k => k = p) ho ((Chg.refl _).setCell _ _ (fun _ => rfl)) (fun k e f => hne (by rw [e, f]))
/-- An entry is stored. -/
theorem Hp.set {g c n : Nat} (h : Hp w p (.slice (some ⟨g, 0, none⟩) n c) es) (i : Nat) (e : Int × Int) : Hp ((w.setCell ⟨g, i * 2, none⟩ (.int .i64 e.1)).setCell ⟨g, i * 2 + 1, none⟩ (.int .i64 e.2)) p (.slice (some ⟨g, 0, none⟩) n c) (es.set i e) := by
  obtain ⟨_, _, hv, _⟩ := own_slice h.own
  cases hv
  refine ⟨?_, ?_, h.ne⟩
  · rw [set_other, set_other]
    · exact h.blk
    · intro e; exact h.ne (by simp [Value.ownBlock, e])
    · intro e; exact h.ne (by simp [Value.ownBlock, e])
  · have := ((h.own.stored (i * 2) (.int .i64 e.1)).1.stored (i * 2 + 1) (.int .i64 e.2)).1
    rw [flat_set]
    simpa using this
/-- An entry's cells in memory. -/
theorem Hp.entry {g c n : Nat} (h : Hp w p (.slice (some ⟨g, 0, none⟩) n c) es) (i : Nat) (e : Int × Int) (hi : es[i]? = some e) : w.cell? ⟨g, i * 2, none⟩ = some (.int .i64 e.1) ∧ w.cell? ⟨g, i * 2 + 1, none⟩ = some (.int .i64 e.2) ∧ w.frozen? ⟨g, i * 2, none⟩ = false ∧ w.frozen? ⟨g, i * 2 + 1, none⟩ = false := by
  have hl := (List.getElem?_eq_some_iff.1 hi).1
  obtain ⟨_, _, hv, _⟩ := own_slice h.own
  cases hv
  exact ⟨(h.own.cellAt _ (by omega)).trans (flat_0 es i e hi), (h.own.cellAt _ (by omega)).trans (flat_1 es i e hi), h.own.frozenAt _, h.own.frozenAt _⟩
end

end Go.Proofs.YtilobedihjkpjaaDoor.Hp
