/-
  A step in a direction.
-/
import Derived.Test.YtilobedihjkpjaaDoorStepTo
namespace Go.Proofs.YtilobedihjkpjaaDoor.Steps
open Go Go.RowKit

/-- A step's answer. -/
def goV (d : Int) : Option (Nat × Int) → Value
  | some (u, c) => .tuple #[.agg #[.int .i64 d, .int .i64 u, .int .i64 c], .bool true]
  | none => .tuple #[.agg #[.int .i64 0, .int .i64 0, .int .i64 0], .bool false]
theorem stepSize (a b c : Value) : (Tryd.prog.info? 47).map (·.size) = some (#[a, b, c] : Array Value).size := by kernel_rfl
section
variable {w : World} {p g c : Nat} {G : Gr}

set_option maxRecDepth 100000 in
set_option maxHeartbeats 4000000 in
theorem go_any (h : Gnd 92 w p g c G) (t d : Int) : Calls Tryd.prog 16 #[.pointer (some ⟨p, 0, none⟩), .int .i64 t, .int .i64 d] w fun r w' => r = .returned (goV d (G.goI t d)) ∧ Same w w' := by
  have H := hid h
  have Z := hid ((Star.new w).alloc #[.int .i64 0, .int .i64 0, .int .i64 0] 47)
  obtain ⟨x, hx⟩ : ∃ x, x = G.goI t d := ⟨_, rfl⟩
  rw [← hx]
  have HX := hid hx
  clear hx h
  go_enter Tryd.func16, Tryd.ntmps16
  go_wp2_with fail
  refine (free_any (H.out.same Z.out.same) t).mono ?_
  rintro r w' ⟨rfl, rfl⟩
  have hb := Z.out.blk 0 rfl
  generalize w.alloc _ = w1 at *
  generalize w.heap.size = q at *
  cases hf : G.freeI t with
  | false =>
    have HF := hid (Gr.goI_free (d := d) hf)
    clear hb
    have hb := (Z.out.blk 0 rfl).1
    have q0 := cell_of hb 0
    have q1 := cell_of hb 1
    have q2 := cell_of hb 2
    have f0 := free_of hb 0
    have f1 := free_of hb 1
    have f2 := free_of hb 2
    simp only [List.getElem?_toArray, List.getElem?_cons_zero, List.getElem?_cons_succ] at q0 q1 q2
    go_wp2
    have X9 := hid (((Z.out.put 0 rfl 0 (.int .i64 0)).put 0 rfl 1 (.int .i64 0)).put 0 rfl 2 (.int .i64 0))
    refine bodyPost_ret (v := .tuple #[.agg #[.int .i64 0, .int .i64 0, .int .i64 0], .bool false]) (results_cell_tmp Tryd.results16 _ _ q _ _ _ _ rfl (X9.out.blk 0 rfl).1 Tryd.underlying47 rfl (stepSize _ _ _) _ rfl) rfl ⟨by rw [HX.out, HF.out]; rfl, X9.out.same⟩
  | true =>
    clear hb
    by_cases d0 : 0 ≤ d
    · by_cases d8 : d < 8
      · have ht0 : 0 ≤ t := by
          by_cases h0 : 0 ≤ t
          · exact h0
          · unfold Gr.freeI Gr.has at hf
            rw [decide_eq_false (by omega), Bool.false_and] at hf
            cases hf
        obtain ⟨t, rfl⟩ := Int.eq_ofNat_of_zero_le ht0
        obtain ⟨d, rfl⟩ := Int.eq_ofNat_of_zero_le d0
        have hd : d < 8 := by omega
        rw [Gr.freeI_nat] at hf
        have hgo := Gr.go_to H.out.ok t d hf hd
        have ht := Gr.free_in hf
        rw [Gr.goI_nat, hgo] at HX
        have HT := hid ht
        have hnat := Gr.to_nat H.out.ok t d
        have HN := hid hnat
        clear hf hgo ht0 hnat ht
        go_wp2_with fail
        refine (to_any (H.out.same Z.out.same) t d HT.out hd).mono ?_
        rintro r w2 ⟨rfl, hs2⟩
        have Z2 := hid (Z.out.go hs2)
        clear hs2
        by_cases hv : G.to t d = -1
        · rw [if_pos hv] at HX
          have hv2 : (G.to t d == -1) = true := by rw [hv]; rfl
          have hb := (Z2.out.blk 0 rfl).1
          have q0 := cell_of hb 0
          have q1 := cell_of hb 1
          have q2 := cell_of hb 2
          have f0 := free_of hb 0
          have f1 := free_of hb 1
          have f2 := free_of hb 2
          simp only [List.getElem?_toArray, List.getElem?_cons_zero, List.getElem?_cons_succ] at q0 q1 q2
          go_wp2
          have X9 := hid (((Z2.out.put 0 rfl 0 (.int .i64 0)).put 0 rfl 1 (.int .i64 0)).put 0 rfl 2 (.int .i64 0))
          refine bodyPost_ret (v := .tuple #[.agg #[.int .i64 0, .int .i64 0, .int .i64 0], .bool false]) (results_cell_tmp Tryd.results16 _ _ q _ _ _ _ rfl (X9.out.blk 0 rfl).1 Tryd.underlying47 rfl (stepSize _ _ _) _ rfl) rfl ⟨by rw [HX.out]; rfl, X9.out.same⟩
        · rw [if_neg hv] at HX
          obtain ⟨n1, -, -⟩ := HN.out hv
          have hv2 : (G.to t d == -1) = false := by simpa using hv
          generalize hu : (G.to t d).toNat = u at *
          generalize G.to t d = v at *
          subst n1
          clear hv hu HN
          by_cases de : d % 2 = 0
          · rw [if_pos de] at HX
            have hm : (d : Int).tmod 2 = 0 := by rw [show (2 : Int) = ((2 : Nat) : Int) from rfl, ← Int.ofNat_tmod]; omega
            clear de
            have hb := (Z2.out.blk 0 rfl).1
            have q0 := cell_of hb 0
            have q1 := cell_of hb 1
            have q2 := cell_of hb 2
            have f0 := free_of hb 0
            have f1 := free_of hb 1
            have f2 := free_of hb 2
            simp only [List.getElem?_toArray, List.getElem?_cons_zero, List.getElem?_cons_succ] at q0 q1 q2
            go_wp2
            have X9 := hid (((Z2.out.put 0 rfl 0 (.int .i64 d)).put 0 rfl 1 (.int .i64 u)).put 0 rfl 2 (.int .i64 10))
            refine bodyPost_ret (v := .tuple #[.agg #[.int .i64 d, .int .i64 u, .int .i64 10], .bool true]) (results_cell_tmp Tryd.results16 _ _ q _ _ _ _ rfl (X9.out.blk 0 rfl).1 Tryd.underlying47 rfl (stepSize _ _ _) _ rfl) rfl ⟨by rw [HX.out]; rfl, X9.out.same⟩
          · rw [if_neg de] at HX
            have hm : (d : Int).tmod 2 = 1 := by rw [show (2 : Int) = ((2 : Nat) : Int) from rfl, ← Int.ofNat_tmod]; omega
            have hd1 : (d : Int) - 1 = ((d - 1 : Nat) : Int) := by omega
            have hd2 : IntKind.i64.wrap ((d : Int) + 1) = (d : Int) + 1 := IntWalk.i64_in _ (by omega)
            have hd3 : ((d : Int) + 1).tmod 8 = (((d + 1) % 8 : Nat) : Int) := by rw [show (8 : Int) = ((8 : Nat) : Int) from rfl, show ((d : Int) + 1) = ((d + 1 : Nat) : Int) from rfl, ← Int.ofNat_tmod]
            have hd4 : d - 1 < 8 ∧ (d + 1) % 8 < 8 := by omega
            clear de
            go_wp2_with fail
            refine (to_any (H.out.same Z2.out.same) t (d - 1) HT.out hd4.1).mono ?_
            rintro r w3 ⟨rfl, hs3⟩
            have Z3 := hid (Z2.out.go hs3)
            clear hs3 Z Z2
            by_cases ha : G.to t (d - 1) = -1
            · rw [if_pos (.inl ha)] at HX
              have ha2 : (G.to t (d - 1) == -1) = true := by rw [ha]; rfl
              have hb := (Z3.out.blk 0 rfl).1
              have q0 := cell_of hb 0
              have q1 := cell_of hb 1
              have q2 := cell_of hb 2
              have f0 := free_of hb 0
              have f1 := free_of hb 1
              have f2 := free_of hb 2
              simp only [List.getElem?_toArray, List.getElem?_cons_zero, List.getElem?_cons_succ] at q0 q1 q2
              clear hb
              go_wp2
              have X9 := hid (((Z3.out.put 0 rfl 0 (.int .i64 0)).put 0 rfl 1 (.int .i64 0)).put 0 rfl 2 (.int .i64 0))
              refine bodyPost_ret (v := .tuple #[.agg #[.int .i64 0, .int .i64 0, .int .i64 0], .bool false]) (results_cell_tmp Tryd.results16 _ _ q _ _ _ _ rfl (X9.out.blk 0 rfl).1 Tryd.underlying47 rfl (stepSize _ _ _) _ rfl) rfl ⟨by rw [HX.out]; rfl, X9.out.same⟩
            · have ha2 : (G.to t (d - 1) == -1) = false := by simpa using ha
              go_wp2_with fail
              refine (to_any (H.out.same Z3.out.same) t ((d + 1) % 8) HT.out hd4.2).mono ?_
              rintro r w4 ⟨rfl, hs4⟩
              have Z4 := hid (Z3.out.go hs4)
              clear hs4 Z3
              by_cases hc : G.to t ((d + 1) % 8) = -1
              · rw [if_pos (.inr hc)] at HX
                have hc2 : (G.to t ((d + 1) % 8) == -1) = true := by rw [hc]; rfl
                have hb := (Z4.out.blk 0 rfl).1
                have q0 := cell_of hb 0
                have q1 := cell_of hb 1
                have q2 := cell_of hb 2
                have f0 := free_of hb 0
                have f1 := free_of hb 1
                have f2 := free_of hb 2
                simp only [List.getElem?_toArray, List.getElem?_cons_zero, List.getElem?_cons_succ] at q0 q1 q2
                clear hb
                go_wp2
                have X9 := hid (((Z4.out.put 0 rfl 0 (.int .i64 0)).put 0 rfl 1 (.int .i64 0)).put 0 rfl 2 (.int .i64 0))
                refine bodyPost_ret (v := .tuple #[.agg #[.int .i64 0, .int .i64 0, .int .i64 0], .bool false]) (results_cell_tmp Tryd.results16 _ _ q _ _ _ _ rfl (X9.out.blk 0 rfl).1 Tryd.underlying47 rfl (stepSize _ _ _) _ rfl) rfl ⟨by rw [HX.out]; rfl, X9.out.same⟩
              · rw [if_neg (by rintro (h | h); exact ha h; exact hc h)] at HX
                have hc2 : (G.to t ((d + 1) % 8) == -1) = false := by simpa using hc
                have hb := (Z4.out.blk 0 rfl).1
                have q0 := cell_of hb 0
                have q1 := cell_of hb 1
                have q2 := cell_of hb 2
                have f0 := free_of hb 0
                have f1 := free_of hb 1
                have f2 := free_of hb 2
                simp only [List.getElem?_toArray, List.getElem?_cons_zero, List.getElem?_cons_succ] at q0 q1 q2
                clear hb
                go_wp2
                have X9 := hid (((Z4.out.put 0 rfl 0 (.int .i64 d)).put 0 rfl 1 (.int .i64 u)).put 0 rfl 2 (.int .i64 14))
                refine bodyPost_ret (v := .tuple #[.agg #[.int .i64 d, .int .i64 u, .int .i64 14], .bool true]) (results_cell_tmp Tryd.results16 _ _ q _ _ _ _ rfl (X9.out.blk 0 rfl).1 Tryd.underlying47 rfl (stepSize _ _ _) _ rfl) rfl ⟨by rw [HX.out]; rfl, X9.out.same⟩
      · have HF := hid (Gr.goI_dir (G := G) (t := t) (d := d) (by omega))
        have hb := (Z.out.blk 0 rfl).1
        have q0 := cell_of hb 0
        have q1 := cell_of hb 1
        have q2 := cell_of hb 2
        have f0 := free_of hb 0
        have f1 := free_of hb 1
        have f2 := free_of hb 2
        simp only [List.getElem?_toArray, List.getElem?_cons_zero, List.getElem?_cons_succ] at q0 q1 q2
        go_wp2
        have X9 := hid (((Z.out.put 0 rfl 0 (.int .i64 0)).put 0 rfl 1 (.int .i64 0)).put 0 rfl 2 (.int .i64 0))
        refine bodyPost_ret (v := .tuple #[.agg #[.int .i64 0, .int .i64 0, .int .i64 0], .bool false]) (results_cell_tmp Tryd.results16 _ _ q _ _ _ _ rfl (X9.out.blk 0 rfl).1 Tryd.underlying47 rfl (stepSize _ _ _) _ rfl) rfl ⟨by rw [HX.out, HF.out]; rfl, X9.out.same⟩
    · have HF := hid (Gr.goI_dir (G := G) (t := t) (d := d) (by omega))
      have hb := (Z.out.blk 0 rfl).1
      have q0 := cell_of hb 0
      have q1 := cell_of hb 1
      have q2 := cell_of hb 2
      have f0 := free_of hb 0
      have f1 := free_of hb 1
      have f2 := free_of hb 2
      simp only [List.getElem?_toArray, List.getElem?_cons_zero, List.getElem?_cons_succ] at q0 q1 q2
      go_wp2
      have X9 := hid (((Z.out.put 0 rfl 0 (.int .i64 0)).put 0 rfl 1 (.int .i64 0)).put 0 rfl 2 (.int .i64 0))
      refine bodyPost_ret (v := .tuple #[.agg #[.int .i64 0, .int .i64 0, .int .i64 0], .bool false]) (results_cell_tmp Tryd.results16 _ _ q _ _ _ _ rfl (X9.out.blk 0 rfl).1 Tryd.underlying47 rfl (stepSize _ _ _) _ rfl) rfl ⟨by rw [HX.out, HF.out]; rfl, X9.out.same⟩
end
end Go.Proofs.YtilobedihjkpjaaDoor.Steps
