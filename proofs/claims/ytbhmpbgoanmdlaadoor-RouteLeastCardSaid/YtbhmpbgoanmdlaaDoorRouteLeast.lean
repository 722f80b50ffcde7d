/-
  RouteLeast: the walk. 
-/
import Derived.Test.YtbhmpbgoanmdlaaDoorAlive17
import Derived.Test.YtbhmpbgoanmdlaaDoorMade17
import Derived.Test.YtbhmpbgoanmdlaaDoorInAsk
import Derived.Test.YtbhmpbgoanmdlaaDoorRouteRows
import Derived.Test.YtbhmpbgoanmdlaaDoorStepCost
import Derived.Test.YtbhmpbgoanmdlaaDoorStepGuess
namespace Go.Proofs.YtbhmpbgoanmdlaaDoor.RouteLeast
open Go Go.RowKit Go.Proofs.YtbhmpbgoanmdlaaDoor.Err Go.Proofs.YtbhmpbgoanmdlaaDoor.Steps Go.Proofs.YtbhmpbgoanmdlaaDoor.Route

set_option maxRecDepth 100000 in
set_option maxHeartbeats 8000000 in
theorem walk (g : Grd) (bv : Value) (bl : List Int) (s t : Int) (w : World) (hr : Ints w bv bl) (hb : bl.length ≤ 9223372036854775807) (ad : Nat → Addr) (hE : Errs5 w ad) :
    Calls Tryd.prog 8 #[askV g bv s t] w fun r w' => r = .returned (.bool true) ∧ Same w w' := by
  obtain ⟨a, cb, rfl⟩ := hr.slice
  have HE := hid hE
  have HR := hid hr
  obtain ⟨l, hl⟩ : ∃ l, l = bl.length := ⟨_, rfl⟩
  by_cases hc : g.right = true ∧ g.W * g.H ≤ 256 ∧ bl.length ≤ 300
  · have MY := hid (fun (w : World) hr hE => made_yes (w := w) g bl (.slice a bl.length cb) hr hc.2.2 hc.1 hc.2.1 ad hE)
    rw [← hl] at MY HR ⊢
    obtain ⟨W, H, S, X, Y⟩ := g
    unfold askV
    unfold Grd.v at MY
    simp only at MY ⊢
    have Z := hid ((Star.new w).alloc #[.int .i64 W, .int .i64 H, .int .i64 S, .int .i64 X, .int .i64 Y, .slice a l cb, .int .i64 s, .int .i64 t] 26)
    have HL := hid hl
    clear hc hr hE hl hb
    go_enter Tryd.func8, Tryd.ntmps8
    go_wp2_with fail
    generalize w.alloc _ = w1 at *
    generalize w.heap.size = q at *
    refine (alive_any ad (HE.out.same Z.out.same).three).mono ?_
    rintro r w2 ⟨rfl, hs⟩
    have Z2 := hid (Z.out.go hs)
    have hbk := (Z2.out.blk 0 rfl).1
    have hql := lt_of hbk
    have c0 := cell_of hbk 0
    have c1 := cell_of hbk 1
    have c2 := cell_of hbk 2
    have c3 := cell_of hbk 3
    have c4 := cell_of hbk 4
    have c5 := cell_of hbk 5
    have c6 := cell_of hbk 6
    have c7 := cell_of hbk 7
    simp only [List.getElem?_toArray, List.getElem?_cons_zero, List.getElem?_cons_succ] at c0 c1 c2 c3 c4 c5 c6 c7
    clear hbk hs Z
    go_wp2_with fail
    refine (MY.out _ (HR.out.same Z2.out.same) (HE.out.same Z2.out.same).three).mono ?_
    rintro r w3 ⟨p, m, G, hok, hmax, rfl, hX3⟩
    have X3 : Hid (Star w w3 [gndR 49 m G, gndR 72 p G, Blk q #[.int .i64 W, .int .i64 H, .int .i64 S, .int .i64 X, .int .i64 Y, .slice a l cb, .int .i64 s, .int .i64 t] 26]) := hid (Z2.out.lift hX3)
    have OK := hid hok
    clear c0 c1 c2 c3 c4 c5 c6 c7 hql hX3 Z2 MY hok
    have hbk := (X3.out.blk 2 rfl).1
    have hql := lt_of hbk
    have c6 := cell_of hbk 6
    have c7 := cell_of hbk 7
    simp only [List.getElem?_toArray, List.getElem?_cons_zero, List.getElem?_cons_succ] at c6 c7
    clear hbk
    obtain ⟨pg, pc, hG, -⟩ := gnd_at X3.out 1 rfl
    have HG := hid hG
    clear hG
    by_cases hin : (0 ≤ s ∧ s < G.fs.length) ∧ (0 ≤ t ∧ t < G.fs.length)
    · obtain ⟨⟨s0, s1⟩, t0, t1⟩ := hin
      obtain ⟨s, rfl⟩ := Int.eq_ofNat_of_zero_le s0
      obtain ⟨t, rfl⟩ := Int.eq_ofNat_of_zero_le t0
      have hs : s < G.fs.length := by omega
      have ht : t < G.fs.length := by omega
      obtain ⟨c, hc⟩ := Least.exists G [t]
      have LC := hid hc
      clear s0 s1 t0 t1 hc
      rcases LC.out.low s with h0 | h0
      · go_wp2_with fail
        refine (find_path HG.out s t hs ht LC.out h0 _ _ (HE.out.same X3.out.same).c8).mono ?_
        rintro r w4 ⟨rfl, hs4⟩
        have X4 := hid (X3.out.go hs4)
        clear c6 c7 hql hs4 HG
        go_wp2
        go_ret
        exact ⟨rfl, X4.out.same⟩
      · obtain ⟨V, hV⟩ := LC.out.fol OK.out h0
        obtain ⟨⟨l', hl'⟩, hfree, hcost, e, he1, he2⟩ := hV.walk OK.out (LC.out.real s h0).free.1 h0 V rfl
        have he3 := (LC.out.zero he2).1
        simp only [List.mem_singleton] at he3
        have HV := hid hV
        have hnod : V.length ≤ G.fs.length := Gr.Fol.len OK.out hV (LC.out.real s h0).free.1
        have HCO := hid (Gr.cost_ok (G := G) (l := V) (by rw [hl']; simp) hfree hcost)
        have hV0 : V[0]? = some s := by rw [hl']; rfl
        have hVn : V[l'.length]? = some t := by
          rw [List.getLast?_eq_getElem?, hl'] at he1
          rw [hl', ← he3]
          simpa using he1
        have hVl : V.length = l'.length + 1 := by rw [hl']; rfl
        have HV0 := hid hV0
        have HVN := hid hVn
        obtain ⟨n, hn⟩ : ∃ n, n = l'.length := ⟨_, rfl⟩
        rw [← hn] at HVN hVl
        have HVL := hid hVl
        have hn1 : n < 1024 := by have := OK.out.max; omega
        clear hl' hfree hcost he1 he2 he3 hV hnod hV0 hVn hVl hn
        go_wp2_with fail
        refine (find_ok HG.out s t hs ht LC.out h0 HV.out _ _ (HE.out.same X3.out.same).c8).mono ?_
        rintro r w4 ⟨v, rfl, hX4⟩
        have X4 := hid (X3.out.lift hX4)
        have H4 := hid (HG.out.same hX4.same)
        obtain ⟨va, vc, rfl, -⟩ := own_slice (hX4.row 0 rfl).1
        have hcap := own_cap (hX4.row 0 rfl).1
        have d6 := hX4.same.keep c6
        have d7 := hX4.same.keep c7
        have dl := Nat.lt_of_lt_of_le hql hX4.same.size
        clear c6 c7 hql hX4 X3 HG
        go_wp2_with fail
        refine (cost_any H4.out _ _ _ (V.map Int.ofNat) (rowInts (X4.out.row 0 rfl).1) hcap (by rw [List.length_map, HVL.out]; omega) ad (HE.out.same X4.out.same)).mono ?_
        rintro r w5 ⟨rfl, hs5⟩
        rw [HCO.out]
        unfold costV
        have X5 := hid (X4.out.go hs5)
        have H5 := hid (H4.out.same hs5)
        have k6 := hs5.keep d6
        have k7 := hs5.keep d7
        have kl := Nat.lt_of_lt_of_le dl hs5.size
        have hrow := (X5.out.row 0 rfl).1
        obtain ⟨L1, hL1⟩ : ∃ L1, L1 = V.length := ⟨_, rfl⟩
        have hLn : L1 = n + 1 := by rw [hL1, HVL.out]
        rw [← hL1] at X5 hrow hcap ⊢
        obtain ⟨gv, cv, ev⟩ := own_shape hrow (by omega)
        cases ev
        have v0 : w5.cell? ⟨gv, 0, none⟩ = some (.int .i64 s) := (hrow.cellAt 0 (by omega)).trans (by unfold gC; rw [List.getElem?_map, HV0.out]; rfl)
        have vn : w5.cell? ⟨gv, n, none⟩ = some (.int .i64 t) := (hrow.cellAt n (by omega)).trans (by unfold gC; rw [List.getElem?_map, HVN.out]; rfl)
        have vl := (hrow.lt gv rfl).2
        have e0 : errV ad (0 : Int).toNat = .nilIface := rfl
        simp only [e0]
        have z1 : IntKind.i64.wrap ((L1 : Int) - 1) = (n : Int) := by rw [IntWalk.i64_in _ (by omega)]; omega
        have z2 : decide ((L1 : Int) < 1) = false := decide_eq_false (by omega)
        have z3 : 1 ≤ L1 := by omega
        have z4 : n < L1 := by omega
        clear hs5 X4 H4 d6 d7 dl hrow hcap e0 hL1 hLn
        have hg := (LC.out.real s h0).guess OK.out
        obtain ⟨cs, hcs⟩ : ∃ x, x = cAt c s := ⟨_, rfl⟩
        have HCS := hid hcs
        rw [← hcs] at hg ⊢
        have hcs0 : 0 ≤ cs := by rw [hcs]; exact h0
        clear hcs h0
        go_wp2
        go_quiet (fail)
        have X6 := hid (X5.out.go ((Chg.refl _).drewN nq))
        have H6 := hid (H5.out.same ((Chg.refl _).drewN nq))
        clear X5 H5 k6 k7 kl v0 vn vl z1 z2 z3 z4
        generalize w5.drewN nq = w6 at *
        have hbk := (X6.out.blk 3 rfl).1
        have k6 := cell_of hbk 6
        have k7 := cell_of hbk 7
        have kl := lt_of hbk
        simp only [List.getElem?_toArray, List.getElem?_cons_zero, List.getElem?_cons_succ] at k6 k7
        clear hbk
        go_wp2_with fail
        refine (guess_in H6.out s t hs ht).mono ?_
        rintro r w7 ⟨rfl, hs7⟩
        have X7 := hid (X6.out.go hs7)
        have H7 := hid (H6.out.same hs7)
        have d6 := hs7.keep k6
        have d7 := hs7.keep k7
        have dl := Nat.lt_of_lt_of_le kl hs7.size
        clear k6 k7 kl X6 H6 hs7
        generalize G.guess s t = gu at *
        go_wp2_with fail
        refine (around_any H7.out s).mono ?_
        rintro r w8 ⟨v8, rfl, hY⟩
        rw [Gr.aroundI_nat] at hY
        have hl8 : (G.around s).length ≤ 8 := by rw [← Gr.aroundI_nat]; exact Gr.aroundTo_len _ _ _
        obtain ⟨l2, hl2⟩ : ∃ l, l = G.around s := ⟨_, rfl⟩
        have HL2 := hid hl2
        rw [← hl2] at hY hl8
        obtain ⟨va8, vc8, rfl, -⟩ := own_slice (hY.row 0 rfl).1
        have X8 := hid (X7.out.lift hY)
        have X9 : Hid (Star w w8 [Row 62 3 (.slice va8 l2.length vc8) l2.length (stCs l2), gndR 72 p G, Blk q #[.int .i64 W, .int .i64 H, .int .i64 S, .int .i64 X, .int .i64 Y, .slice a l cb, .int .i64 s, .int .i64 t] 26]) := hid ((X8.out.swap).drop.swap.drop)
        clear hY hl2 d6 d7 dl X7 X8 H7 hg
        go_wp2_with fail
        go_loopw [14, 107] (fun _ iv wr => ∃ j : Nat, j ≤ l2.length ∧ iv = .int .i64 j ∧ Star w wr [Row 62 3 (.slice va8 l2.length vc8) l2.length (stCs l2), gndR 72 p G, Blk q #[.int .i64 W, .int .i64 H, .int .i64 S, .int .i64 X, .int .i64 Y, .slice a l cb, .int .i64 s, .int .i64 t] 26]) (fun _ iv _ => l2.length - (intOf iv).toNat)
        case atStart => exact ⟨0, by omega, rfl, X9.out⟩
        case round =>
          obtain ⟨j, hj, rfl, hX⟩ := hrel
          have X := hid hX
          clear hX X9
          by_cases hjl : j < l2.length
          · obtain ⟨s1, hs1⟩ : ∃ s, l2[j]? = some s := ⟨_, List.getElem?_eq_getElem hjl⟩
            have hrow := (X.out.row 0 rfl).1
            obtain ⟨gs3, cs3, e3⟩ := own_shape hrow (by omega)
            cases e3
            have g0 : wr.cell? ⟨gs3, j * 3, none⟩ = some (.int .i64 s1.d) := (hrow.cellAt (j * 3) (by omega)).trans ((rows_get stC stC_len l2 j 0 s1 hs1 (by omega)).trans rfl)
            have g1 : wr.cell? ⟨gs3, j * 3 + 1, none⟩ = some (.int .i64 s1.to) := (hrow.cellAt (j * 3 + 1) (by omega)).trans ((rows_get stC stC_len l2 j 1 s1 hs1 (by omega)).trans rfl)
            have g2 : wr.cell? ⟨gs3, j * 3 + 2, none⟩ = some (.int .i64 s1.c) := (hrow.cellAt (j * 3 + 2) (by omega)).trans ((rows_get stC stC_len l2 j 2 s1 hs1 (by omega)).trans rfl)
            have gl := (hrow.lt gs3 rfl).2
            have hmem : s1 ∈ G.around s := by rw [← HL2.out]; exact List.mem_of_getElem? hs1
            have hgo := Gr.mem_around.1 hmem
            have hpos := Gr.go_pos hgo
            have hto := Gr.free_in (Gr.go_end OK.out hgo).1
            have hd1 := LC.out.min s1.to _ (.step (Gr.go_back OK.out hgo) (LC.out.real s (by rw [← HCS.out]; exact hcs0)))
            have hd2 := LC.out.min s _ (.step hgo (LC.out.real s1.to hd1.1))
            rw [← HCS.out] at hd1 hd2
            obtain ⟨sd, sto, sc⟩ := s1
            dsimp only at g0 g1 g2 hpos hto hd1 hd2
            obtain ⟨V2, hV2⟩ := LC.out.fol OK.out hd1.1
            have HV2 := hid hV2
            have hbk := (X.out.blk 2 rfl).1
            have d6 := cell_of hbk 6
            have d7 := cell_of hbk 7
            have dl := lt_of hbk
            simp only [List.getElem?_toArray, List.getElem?_cons_zero, List.getElem?_cons_succ] at d6 d7
            obtain ⟨pg2, pc2, hG2, -⟩ := gnd_at X.out 1 rfl
            have XA := hid (X.out.alloc #[.int .i64 sd, .int .i64 sto, .int .i64 sc] 62)
            have HA := hid (hG2.same ((Chg.refl _).alloc (.cells #[.int .i64 sd, .int .i64 sto, .int .i64 sc] 62)))
            clear hrow hs1 hmem hgo hV2 hbk hG2
            go_wp2_with fail
            refine (find_ok HA.out sto t hto ht LC.out hd1.1 HV2.out _ _ (HE.out.same XA.out.same).c8).mono ?_
            rintro r w9 ⟨v9, rfl, hX9⟩
            have XB := hid ((XA.out.lift hX9).drop)
            have hbq := (XB.out.blk 0 rfl).1
            have q2 := cell_of hbq 2
            have ql2 := lt_of hbq
            simp only [List.getElem?_toArray, List.getElem?_cons_zero, List.getElem?_cons_succ] at q2
            have h30 : cs ≤ 4611686018427387904 ∧ cAt c sto ≤ 4611686018427387904 := by
              have a1 := LC.out.bound OK.out s
              have a2 := LC.out.bound OK.out sto
              rw [← HCS.out] at a1
              have := OK.out.max
              omega
            clear hX9 XA X HA g0 g1 g2 gl d6 d7 dl hbq
            generalize cAt c sto = co at *
            go_wp2
            go_roundw
            case rel => exact ⟨j + 1, by omega, by go_num, XB.out.drop⟩
            case measure => simp [intOf]; omega
          · go_wp2
            go_ret
            exact ⟨rfl, X.out.same⟩
    · have h1 : ¬ (0 ≤ s ∧ s < G.fs.length) ∨ ¬ (0 ≤ t ∧ t < G.fs.length) := by omega
      have H1 := hid h1
      clear hin h1
      go_wp2_with fail
      refine (find_range HG.out s t H1.out _ _ (HE.out.same X3.out.same).c0).mono ?_
      rintro r w4 ⟨rfl, hs4⟩
      have X4 := hid (X3.out.go hs4)
      clear c6 c7 hql hs4 HG
      go_wp2
      go_ret
      exact ⟨rfl, X4.out.same⟩
  · have MN := hid (fun (w : World) hr => made_no (w := w) g bl (.slice a bl.length cb) hr hb hc)
    rw [← hl] at MN HR ⊢
    obtain ⟨W, H, S, X, Y⟩ := g
    unfold askV
    unfold Grd.v at MN
    simp only at MN ⊢
    have Z := hid ((Star.new w).alloc #[.int .i64 W, .int .i64 H, .int .i64 S, .int .i64 X, .int .i64 Y, .slice a l cb, .int .i64 s, .int .i64 t] 26)
    clear hc hr hE hl hb
    go_enter Tryd.func8, Tryd.ntmps8
    go_wp2_with fail
    generalize w.alloc _ = w1 at *
    generalize w.heap.size = q at *
    refine (alive_any ad (HE.out.same Z.out.same).three).mono ?_
    rintro r w2 ⟨rfl, hs⟩
    have Z2 := hid (Z.out.go hs)
    have hbk := (Z2.out.blk 0 rfl).1
    have hql := lt_of hbk
    have c0 := cell_of hbk 0
    have c1 := cell_of hbk 1
    have c2 := cell_of hbk 2
    have c3 := cell_of hbk 3
    have c4 := cell_of hbk 4
    have c5 := cell_of hbk 5
    have c6 := cell_of hbk 6
    have c7 := cell_of hbk 7
    simp only [List.getElem?_toArray, List.getElem?_cons_zero, List.getElem?_cons_succ] at c0 c1 c2 c3 c4 c5 c6 c7
    clear hbk hs Z
    go_wp2_with fail
    refine (MN.out _ (HR.out.same Z2.out.same)).mono ?_
    rintro r w3 ⟨rfl, hs⟩
    have Z3 := hid (Z2.out.go hs)
    clear hs Z2 MN
    go_wp2
    go_ret
    exact ⟨rfl, Z3.out.same⟩
end Go.Proofs.YtbhmpbgoanmdlaaDoor.RouteLeast
