/-
  FieldSteps: the walk. 
-/
import Derived.Test.YtilobedihjkpjaaDoorFieldNew
import Derived.Test.YtilobedihjkpjaaDoorFieldStepsP
import Derived.Deep.DeepCutAuto
namespace Go.Proofs.YtilobedihjkpjaaDoor.FieldSteps
open Go Go.RowKit Go.Proofs.YtilobedihjkpjaaDoor.Err Go.Proofs.YtilobedihjkpjaaDoor.Steps Go.Proofs.YtilobedihjkpjaaDoor.Ord Go.Proofs.YtilobedihjkpjaaDoor.Route Go.Proofs.YtilobedihjkpjaaDoor.Fld

set_option maxRecDepth 100000 in
set_option maxHeartbeats 8000000 in
theorem walk (g : Grd) (bv : Value) (bl : List Int) (gv : Value) (xs : List Int) (sv : Value) (t : Int) (w : World) (hr : Ints w bv bl) (hb : bl.length ≤ 9223372036854775807) (hrg : Ints w gv xs) (hbg : xs.length ≤ 9223372036854775807) (ad : Nat → Addr) (hE : ErrsF w ad) :
    Calls Tryd.prog 3 #[ask19V g bv gv sv t] w fun r w' => r = .returned (.bool true) ∧ Same w w' := by
  obtain ⟨i0, hi0, hz0, hz1, hz2⟩ := info_parts infoInt
  obtain ⟨a, cb, rfl⟩ := hr.slice
  obtain ⟨ga, gc, rfl⟩ := hrg.slice
  have HE := hid hE
  have HR := hid hr
  have HRG := hid hrg
  obtain ⟨l, hl⟩ : ∃ l, l = bl.length := ⟨_, rfl⟩
  obtain ⟨gn, hgn⟩ : ∃ gn, gn = xs.length := ⟨_, rfl⟩
  have HGN := hid hgn
  by_cases hc : g.right = true ∧ g.W * g.H ≤ 150 ∧ bl.length ≤ 200
  · have MY := hid (fun (w : World) hr hE => made_yes (w := w) g bl (.slice a bl.length cb) hr hc.2.2 hc.1 hc.2.1 ad hE)
    rw [← hl] at MY HR ⊢
    rw [← hgn] at HRG hbg ⊢
    obtain ⟨W, H, S, X, Y⟩ := g
    unfold ask19V
    unfold Grd.v at MY
    simp only at MY ⊢
    have Z := hid ((Star.new w).alloc #[.int .i64 W, .int .i64 H, .int .i64 S, .int .i64 X, .int .i64 Y, .slice a l cb, .slice ga gn gc, sv, .int .i64 t] 27)
    have HL := hid hl
    clear hc hr hE hl hb hrg hgn
    go_enter Tryd.func3, Tryd.ntmps3
    go_wp2_with fail
    generalize w.alloc _ = w1 at *
    generalize w.heap.size = q at *
    refine (alive_any ad (HE.out.same Z.out.same).two).mono ?_
    rintro r w2 ⟨rfl, hs⟩
    have Z2 := hid (Z.out.go hs)
    have hbk := (Z2.out.blk 0 rfl).1
    have hql := lt_of hbk
    have c0 := cell_of hbk 0
    have c1 := cell_of hbk 1
    have c2 := cell_of hbk 2
    have c3 := cell_of hbk 3
    have c4 := cell_of hbk 4
    have c5 := cell_of hbk 5
    have c6 := cell_of hbk 6
    have c7 := cell_of hbk 7
    have c8 := cell_of hbk 8
    simp only [List.getElem?_toArray, List.getElem?_cons_zero, List.getElem?_cons_succ] at c0 c1 c2 c3 c4 c5 c6 c7 c8
    clear hbk hs Z
    go_wp2_with fail
    refine (MY.out _ (HR.out.same Z2.out.same) (HE.out.same Z2.out.same).two).mono ?_
    rintro r w3 ⟨p, m, G, hok, hmax, rfl, hX3⟩
    have X3 : Hid (Star w w3 [gndR 76 m G, gndR 92 p G, Blk q #[.int .i64 W, .int .i64 H, .int .i64 S, .int .i64 X, .int .i64 Y, .slice a l cb, .slice ga gn gc, sv, .int .i64 t] 27]) := hid (Z2.out.lift hX3)
    have OK := hid hok
    clear c0 c1 c2 c3 c4 c5 c6 c7 c8 hql hX3 Z2 MY hok
    have hbk := (X3.out.blk 2 rfl).1
    have hql := lt_of hbk
    have c6 := cell_of hbk 6
    have c7 := cell_of hbk 7
    have c8 := cell_of hbk 8
    simp only [List.getElem?_toArray, List.getElem?_cons_zero, List.getElem?_cons_succ] at c6 c7 c8
    clear hbk
    obtain ⟨pg, pc, hG, -⟩ := gnd_at X3.out 1 rfl
    have HG := hid hG
    clear hG
    go_wp2_with fail
    refine (new_all HG.out xs _ (HRG.out.same X3.out.same) (by rw [← HGN.out]; exact hbg) ad (HE.out.same X3.out.same)).mono ?_
    rintro r w4 hcase
    rcases hcase with ⟨f, gl, c, ho, hF, hgo, rfl, hX4⟩ | ⟨k, -, -, rfl, hs4⟩
    · have X4 : Hid (Star w w4 [fldR f G gl c, gndR 76 m G, gndR 92 p G, Blk q #[.int .i64 W, .int .i64 H, .int .i64 S, .int .i64 X, .int .i64 Y, .slice a l cb, .slice ga gn gc, sv, .int .i64 t] 27]) := hid (X3.out.lift hX4)
      have HF := hid hF
      have HMEM := hid (mem_goals ho.mem (fun x hx => (hgo.2.2 x hx).1))
      obtain ⟨n, hn⟩ : ∃ n, n = G.fs.length := ⟨_, rfl⟩
      have HN := hid hn
      have hN := hF.ok.max
      have HB := hid (show ∀ t, -1 ≤ cAt c t ∧ cAt c t ≤ 20000 from fun t => hF.bound (hF.least.bound hF.ok) t)
      rw [← hn] at hN hmax
      clear hX4 hF ho hgo hn c6 c7 c8 hql X3 HG
      go_wp2_with fail
      refine (cells_any X4.out HF.out).mono ?_
      rintro r w5 ⟨v1, rfl, hX5⟩
      have hX6 : Star w w5 [Row 41 2 v1 n (ceCs (G.cells c n)), gndR 92 p G, Blk q #[.int .i64 W, .int .i64 H, .int .i64 S, .int .i64 X, .int .i64 Y, .slice a l cb, .slice ga gn gc, sv, .int .i64 t] 27] := by
        have h := (((hX5.pull 2 rfl).drop).pull 1 rfl).drop
        unfold cellR at h
        rw [Gr.cells_len, ← HN.out] at h
        exact h
      obtain ⟨b1, k1, rfl⟩ := own_shape (hX6.row 0 rfl).1 (by omega)
      have X6 := hid hX6
      clear hX5 hX6 X4
      go_wp2_with fail
      go_loopw [43] (fun iv wr => ∃ k : Nat, k ≤ n ∧ iv = .int .i64 k ∧ Star w wr [Row 41 2 (.slice (some ⟨b1, 0, none⟩) n k1) n (ceCs (G.cells c n)), gndR 92 p G, Blk q #[.int .i64 W, .int .i64 H, .int .i64 S, .int .i64 X, .int .i64 Y, .slice a l cb, .slice ga gn gc, sv, .int .i64 t] 27]) (fun iv _ => n - (intOf iv).toNat)
      case atStart => exact ⟨0, by omega, rfl, X6.out⟩
      case round =>
        obtain ⟨k, hk, rfl, hX⟩ := hrel
        have X := hid hX
        clear X6 hX
        by_cases hkn : k < n
        · have hr1 := (X.out.row 0 rfl).1
          have g0 : wr.cell? ⟨b1, k * 2, none⟩ = some (.int .i64 (cAt c k)) := (hr1.cellAt (k * 2) (by omega)).trans ((rows_get ceC ceC_len _ k 0 _ (Gr.cells_get G c hkn) (by omega)).trans rfl)
          have g1 : wr.cell? ⟨b1, k * 2 + 1, none⟩ = some (.int .i64 (G.dirOf c k)) := (hr1.cellAt (k * 2 + 1) (by omega)).trans ((rows_get ceC ceC_len _ k 1 _ (Gr.cells_get G c hkn) (by omega)).trans rfl)
          have l1 := (hr1.lt b1 rfl).2
          have hbk := (X.out.blk 2 rfl).1
          have hql := lt_of hbk
          have c6 := cell_of hbk 6
          simp only [List.getElem?_toArray, List.getElem?_cons_zero, List.getElem?_cons_succ] at c6
          have Z := hid (X.out.alloc #[.int .i64 (cAt c k), .int .i64 (G.dirOf c k)] 41)
          have hc6 : (wr.alloc (.cells #[.int .i64 (cAt c k), .int .i64 (G.dirOf c k)] 41)).cell? ⟨q, 6, none⟩ = some (.slice ga gn gc) := ((Chg.refl wr).alloc _ : Same _ _).keep c6
          have hql2 := Nat.lt_trans hql (show wr.heap.size < (wr.alloc (.cells #[.int .i64 (cAt c k), .int .i64 (G.dirOf c k)] 41)).heap.size by rw [World.size_alloc]; omega)
          obtain ⟨pg, pc, hG, -⟩ := gnd_at Z.out 2 rfl
          have HG := hid hG
          have ZR := hid (Z.out.same)
          clear hr1 hbk hG c6
          have HT := hid (HF.out.least.tile k)
          go_upto_region 13 with fail
          clear g0 g1 l1 hql X
          go_cut [11] (fun s11 wx => s11 = .bool (decide ((k : Int) ∈ xs) && G.free k) ∧ wx = (wr.alloc (.cells #[.int .i64 (cAt c k), .int .i64 (G.dirOf c k)] 41)))
          case first =>
            generalize wr.alloc _ = w6 at *
            generalize wr.heap.size = e at *
            go_wp2_with fail
            refine (in_any _ xs k (HRG.out.same ZR.out) (by rw [← HGN.out]; exact hbg)).mono ?_
            rintro r w' ⟨rfl, rfl⟩
            by_cases hm : (k : Int) ∈ xs
            · rw [decide_eq_true hm]
              go_wp2_with fail
              refine (free_any HG.out _).mono ?_
              rintro r w' ⟨rfl, rfl⟩
              rw [Gr.freeI_nat]
              go_wp2_with fail
              go_meet
              exact ⟨by rw [decide_eq_true hm]; rfl, rfl⟩
            · rw [decide_eq_false hm]
              go_wp2_with fail
              go_meet
              exact ⟨by rw [decide_eq_false hm]; rfl, rfl⟩
          case rest =>
            obtain ⟨rfl, rfl⟩ := hcut
            clear hc6 hql2 ZR
            generalize wr.alloc _ = w6 at *
            generalize wr.heap.size = e at *
            have hbe := (Z.out.blk 0 rfl).1
            have q0 := cell_of hbe 0
            have q1 := cell_of hbe 1
            have ql := lt_of hbe
            simp only [List.getElem?_toArray, List.getElem?_cons_zero, List.getElem?_cons_succ] at q0 q1
            clear hbe
            have HTT := hid (show (G.free k = true ∧ decide ((k : Int) ∈ xs) = true ∧ cAt c k = 0 ∧ G.dirOf c k = -1) ∨ (G.free k = true ∧ decide ((k : Int) ∈ xs) = false ∧ cAt c k ≠ 0) ∨ (G.free k = false ∧ cAt c k = -1 ∧ G.dirOf c k = -1) by
              rcases HT.out with ⟨h1, h2, h3, h4⟩ | ⟨h1, h2, h3⟩ | ⟨h1, h3, h4⟩
              · exact .inl ⟨h1, decide_eq_true ((HMEM.out k).1 h2), h3, h4⟩
              · exact .inr (.inl ⟨h1, decide_eq_false (fun h => h2 ((HMEM.out k).2 h)), h3⟩)
              · exact .inr (.inr ⟨h1, h3, h4⟩))
            go_upto_region 14 with fail
            go_cut [80] (fun s80 wx => s80 = .bool false ∧ wx = w6)
            case first =>
              have HFR := hid (free_any HG.out (k : Int))
              rw [Gr.freeI_nat] at HFR
              generalize hC : cAt c k = C at *
              generalize hD : G.dirOf c k = D at *
              generalize decide ((k : Int) ∈ xs) = bm at *
              generalize G.free k = bf at *
              clear hC hD
              rcases HTT.out with ⟨rfl, rfl, rfl, rfl⟩ | ⟨rfl, rfl, h3⟩ | ⟨rfl, rfl, rfl⟩
              · go_wp2_with fail
                refine HFR.out.mono ?_
                rintro r w' ⟨rfl, rfl⟩
                go_wp2_with fail
                go_meet
                exact ⟨rfl, rfl⟩
              · have h4 : (C == 0) = false := by simpa using h3
                clear h3
                go_wp2_with fail
                refine HFR.out.mono ?_
                rintro r w' ⟨rfl, rfl⟩
                go_wp2_with fail
                go_meet
                exact ⟨rfl, rfl⟩
              · cases bm
                all_goals
                  go_wp2_with fail
                  refine HFR.out.mono ?_
                  rintro r w' ⟨rfl, rfl⟩
                  go_wp2_with fail
                  go_meet
                  exact ⟨rfl, rfl⟩
            case rest =>
              obtain ⟨rfl, rfl⟩ := hcut
              clear HTT HT
              go_wp2_with fail
              refine (around_any HG.out (k : Int)).mono ?_
              rintro r w7 ⟨va, rfl, hY⟩
              rw [Gr.aroundI_nat] at hY
              have hl8 : (G.around k).length ≤ 8 := by rw [← Gr.aroundI_nat]; exact Gr.aroundTo_len _ _ _
              obtain ⟨ll, hll⟩ : ∃ ll, ll = G.around k := ⟨_, rfl⟩
              have HLL := hid hll
              rw [← hll] at hY hl8
              obtain ⟨va, vc, rfl, -⟩ := own_slice (hY.row 0 rfl).1
              have X2 : Hid (Star w w7 (Row 47 3 (.slice va ll.length vc) ll.length (stCs ll) :: Blk e #[.int .i64 (cAt c k), .int .i64 (G.dirOf c k)] 41 :: [Row 41 2 (.slice (some ⟨b1, 0, none⟩) n k1) n (ceCs (G.cells c n)), gndR 92 p G, Blk q #[.int .i64 W, .int .i64 H, .int .i64 S, .int .i64 X, .int .i64 Y, .slice a l cb, .slice ga gn gc, sv, .int .i64 t] 27])) := hid (Z.out.lift hY)
              clear hY hll Z HG q0 q1 ql
              go_wp2_with fail
              go_loopw [85] (fun iv wr => ∃ j : Nat, j ≤ ll.length ∧ iv = .int .i64 j ∧ Star w wr (Row 47 3 (.slice va ll.length vc) ll.length (stCs ll) :: Blk e #[.int .i64 (cAt c k), .int .i64 (G.dirOf c k)] 41 :: [Row 41 2 (.slice (some ⟨b1, 0, none⟩) n k1) n (ceCs (G.cells c n)), gndR 92 p G, Blk q #[.int .i64 W, .int .i64 H, .int .i64 S, .int .i64 X, .int .i64 Y, .slice a l cb, .slice ga gn gc, sv, .int .i64 t] 27])) (fun iv _ => ll.length - (intOf iv).toNat)
              case atStart => exact ⟨0, by omega, rfl, X2.out⟩
              case round =>
                obtain ⟨j, hj, rfl, hX⟩ := hrel
                have X := hid hX
                clear hX X2
                by_cases hjl : j < ll.length
                · obtain ⟨s1, hs1⟩ : ∃ s, ll[j]? = some s := ⟨_, List.getElem?_eq_getElem hjl⟩
                  have hrow := (X.out.row 0 rfl).1
                  obtain ⟨gs3, cs3, e3⟩ := own_shape hrow (by omega)
                  cases e3
                  have g0 : wr.cell? ⟨gs3, j * 3, none⟩ = some (.int .i64 s1.d) := (hrow.cellAt (j * 3) (by omega)).trans ((rows_get stC stC_len ll j 0 s1 hs1 (by omega)).trans rfl)
                  have g1 : wr.cell? ⟨gs3, j * 3 + 1, none⟩ = some (.int .i64 s1.to) := (hrow.cellAt (j * 3 + 1) (by omega)).trans ((rows_get stC stC_len ll j 1 s1 hs1 (by omega)).trans rfl)
                  have g2 : wr.cell? ⟨gs3, j * 3 + 2, none⟩ = some (.int .i64 s1.c) := (hrow.cellAt (j * 3 + 2) (by omega)).trans ((rows_get stC stC_len ll j 2 s1 hs1 (by omega)).trans rfl)
                  have gsl := (hrow.lt gs3 rfl).2
                  have hmem : s1 ∈ G.around k := by rw [← HLL.out]; exact List.mem_of_getElem? hs1
                  have hpos := Gr.go_pos (Gr.mem_around.1 hmem)
                  have hto : s1.to < n := by
                    have := Gr.free_in (Gr.go_end HF.out.ok (Gr.mem_around.1 hmem)).1
                    rwa [← HN.out] at this
                  have HEACH := hid (HF.out.least.each HF.out.ok hmem)
                  obtain ⟨sd, sto, sc⟩ := s1
                  dsimp only at g0 g1 g2 hpos hto HEACH
                  have hr1 := (X.out.row 2 rfl).1
                  have h0 : wr.cell? ⟨b1, sto * 2, none⟩ = some (.int .i64 (cAt c sto)) := (hr1.cellAt (sto * 2) (by omega)).trans ((rows_get ceC ceC_len _ sto 0 _ (Gr.cells_get G c hto) (by omega)).trans rfl)
                  have hbl := (hr1.lt b1 rfl).2
                  have hbe := (X.out.blk 1 rfl).1
                  have q0 := cell_of hbe 0
                  have q1 := cell_of hbe 1
                  have ql := lt_of hbe
                  simp only [List.getElem?_toArray, List.getElem?_cons_zero, List.getElem?_cons_succ] at q0 q1
                  have hbd := HB.out sto
                  have Z := hid (X.out.alloc #[.int .i64 sd, .int .i64 sto, .int .i64 sc] 47)
                  clear hrow hs1 hmem hr1 hbe
                  generalize hC : cAt c k = C at *
                  generalize hD : G.dirOf c k = D at *
                  generalize hNN : cAt c sto = N at *
                  clear hC hD hNN
                  go_upto_region 20 with fail
                  clear g0 g1 g2 gsl h0 hbl q0 q1 ql X
                  go_cut [149] (fun s149 wx => s149 = .bool false ∧ wx = wr.alloc (.cells #[.int .i64 sd, .int .i64 sto, .int .i64 sc] 47))
                  case first =>
                    generalize wr.alloc _ = w8 at *
                    generalize wr.heap.size = e8 at *
                    have hb8 := (Z.out.blk 0 rfl).1
                    have p0 := cell_of hb8 0
                    have p2 := cell_of hb8 2
                    have pl := lt_of hb8
                    have hbe := (Z.out.blk 2 rfl).1
                    have q0 := cell_of hbe 0
                    have q1 := cell_of hbe 1
                    have ql := lt_of hbe
                    simp only [List.getElem?_toArray, List.getElem?_cons_zero, List.getElem?_cons_succ] at p0 p2 q0 q1
                    clear hb8 hbe Z
                    rcases HEACH.out with ⟨rfl, rfl, rfl⟩ | ⟨c0, n0, rfl, rfl⟩ | ⟨c0, n0, hlt, rfl⟩ | ⟨c0, n0, hne, hlt⟩
                    · have hn1 : ((sd : Int) == -1) = false := by rw [beq_eq_false_iff_ne]; omega
                      go_wp2_with fail
                      go_meet
                      exact ⟨rfl, rfl⟩
                    · have hw : IntKind.i64.wrap (N + sc) = N + sc := IntWalk.i64_in _ (by omega)
                      have hn1 : ¬ N < 0 := by omega
                      have hn2 : ¬ N + sc < 0 := by omega
                      go_wp2_with fail
                      go_meet
                      exact ⟨rfl, rfl⟩
                    · have hw : IntKind.i64.wrap (N + sc) = N + sc := IntWalk.i64_in _ (by omega)
                      have hn1 : ¬ N < 0 := by omega
                      have hn2 : ¬ N + sc < 0 := by omega
                      have hn3 : ((sd : Int) == D) = false := by rw [beq_eq_false_iff_ne]; omega
                      have hn4 : ¬ (sd : Int) < D := by omega
                      go_wp2_with fail
                      go_meet
                      exact ⟨rfl, rfl⟩
                    · have hw : IntKind.i64.wrap (N + sc) = N + sc := IntWalk.i64_in _ (by omega)
                      have hn1 : ¬ N < 0 := by omega
                      have hn2 : ¬ C < 0 := by omega
                      have hn3 : ((sd : Int) == D) = false := by rw [beq_eq_false_iff_ne]; exact fun h => hne h.symm
                      have hn4 : (C == N + sc) = false := by rw [beq_eq_false_iff_ne]; omega
                      have hn5 : ¬ N + sc < C := by omega
                      clear hne
                      go_wp2_with fail
                      go_meet
                      exact ⟨rfl, rfl⟩
                  case rest =>
                    obtain ⟨rfl, rfl⟩ := hcut
                    go_wp2
                    go_roundw
                    case rel => exact ⟨j + 1, by omega, by go_num, Z.out.drop⟩
                    case measure => simp [intOf]; omega
                · have hr1 := (X.out.row 2 rfl).1
                  have hbe := (X.out.blk 1 rfl).1
                  have q0 := cell_of hbe 0
                  have q1 := cell_of hbe 1
                  have ql := lt_of hbe
                  simp only [List.getElem?_toArray, List.getElem?_cons_zero, List.getElem?_cons_succ] at q0 q1
                  obtain ⟨pg, pc, hG, -⟩ := gnd_at X.out 3 rfl
                  have HG := hid hG
                  have XX := hid ((X.out.drop).drop)
                  clear hr1 hbe hG X
                  by_cases hp : 0 < cAt c k
                  · obtain ⟨x1, hx, hd⟩ := HF.out.least.dir HF.out.ok hp
                    have hgo := Gr.mem_around.1 (Gr.nxt_some hx).1
                    rw [hd] at q1
                    have HGO := hid (show goV x1.d (G.goI k x1.d) = .tuple #[.agg #[.int .i64 x1.d, .int .i64 x1.to, .int .i64 x1.c], .bool true] by rw [Gr.goI_nat, hgo]; rfl)
                    clear hx hd hgo
                    generalize cAt c k = C at *
                    go_wp2_with fail
                    refine (go_any HG.out k x1.d).mono ?_
                    rintro r w9 ⟨rfl, hs9⟩
                    rw [HGO.out]
                    have X9 := hid ((XX.out.go hs9).alloc #[.int .i64 x1.d, .int .i64 x1.to, .int .i64 x1.c] 47)
                    clear hs9
                    go_wp2
                    go_roundw
                    case rel => exact ⟨k + 1, by omega, by go_num, X9.out.drop⟩
                    case measure => simp [intOf]; omega
                  · generalize cAt c k = C at *
                    go_wp2
                    go_roundw
                    case rel => exact ⟨k + 1, by omega, by go_num, XX.out⟩
                    case measure => simp [intOf]; omega
        · go_wp2
          go_ret
          exact ⟨rfl, X.out.same⟩
    · have S4 := hid (X3.out.go hs4)
      go_wp2
      go_ret
      exact ⟨rfl, S4.out.same⟩
  · have MN := hid (fun (w : World) hr => made_no (w := w) g bl (.slice a bl.length cb) hr hb hc)
    rw [← hl] at MN HR ⊢
    rw [← hgn] at HRG hbg ⊢
    obtain ⟨W, H, S, X, Y⟩ := g
    unfold ask19V
    unfold Grd.v at MN
    simp only at MN ⊢
    have Z := hid ((Star.new w).alloc #[.int .i64 W, .int .i64 H, .int .i64 S, .int .i64 X, .int .i64 Y, .slice a l cb, .slice ga gn gc, sv, .int .i64 t] 27)
    clear hc hr hE hl hb hrg hgn
    go_enter Tryd.func3, Tryd.ntmps3
    go_wp2_with fail
    generalize w.alloc _ = w1 at *
    generalize w.heap.size = q at *
    refine (alive_any ad (HE.out.same Z.out.same).two).mono ?_
    rintro r w2 ⟨rfl, hs⟩
    have Z2 := hid (Z.out.go hs)
    have hbk := (Z2.out.blk 0 rfl).1
    have hql := lt_of hbk
    have c0 := cell_of hbk 0
    have c1 := cell_of hbk 1
    have c2 := cell_of hbk 2
    have c3 := cell_of hbk 3
    have c4 := cell_of hbk 4
    have c5 := cell_of hbk 5
    have c6 := cell_of hbk 6
    have c7 := cell_of hbk 7
    have c8 := cell_of hbk 8
    simp only [List.getElem?_toArray, List.getElem?_cons_zero, List.getElem?_cons_succ] at c0 c1 c2 c3 c4 c5 c6 c7 c8
    clear hbk hs Z
    go_wp2_with fail
    refine (MN.out _ (HR.out.same Z2.out.same)).mono ?_
    rintro r w3 ⟨rfl, hs⟩
    have Z3 := hid (Z2.out.go hs)
    clear hs Z2 MN
    go_wp2
    go_ret
    exact ⟨rfl, Z3.out.same⟩
end Go.Proofs.YtilobedihjkpjaaDoor.FieldSteps
