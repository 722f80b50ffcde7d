/-
  FieldRoutes: the walk. 
-/
import Derived.Test.YtilobedihjkpjaaDoorFieldNew
import Derived.Test.YtilobedihjkpjaaDoorFieldBest
import Derived.Deep.DeepCutAuto
import Derived.Test.YtilobedihjkpjaaDoorRouteRows
import Derived.Test.YtilobedihjkpjaaDoorFieldStepsP
import Derived.Test.YtilobedihjkpjaaDoorStepCost
namespace Go.Proofs.YtilobedihjkpjaaDoor.FieldRoutes
open Go Go.RowKit Go.Proofs.YtilobedihjkpjaaDoor.Err Go.Proofs.YtilobedihjkpjaaDoor.Steps Go.Proofs.YtilobedihjkpjaaDoor.Ord Go.Proofs.YtilobedihjkpjaaDoor.Route Go.Proofs.YtilobedihjkpjaaDoor.Fld
/-- The errors that routes and fields need. -/
structure ErrsR (w : World) (ad : Nat → Addr) : Prop where
  five : Errs5 w ad
  c9 : w.cell? ⟨0, 0, none⟩ = some (.iface 205 (.pointer (some (ad 9))))
theorem ErrsR.same {w w' : World} {ad : Nat → Addr} (h : ErrsR w ad) (hs : Same w w') : ErrsR w' ad := ⟨h.five.same hs, hs.keep h.c9⟩
theorem ErrsR.two {w : World} {ad : Nat → Addr} (h : ErrsR w ad) : Errs2 w ad := ⟨h.five.c0, h.five.c6⟩
theorem ErrsR.fld {w : World} {ad : Nat → Addr} (h : ErrsR w ad) : ErrsF w ad := ⟨h.five.c0, h.five.c6, h.c9⟩
theorem errsR_of {w : World} {a0 a2 a6 a7 a8 a9 : Addr} (h0 : w.cell? ⟨1, 0, none⟩ = some (.iface 205 (.pointer (some a0)))) (h2 : w.cell? ⟨3, 0, none⟩ = some (.iface 205 (.pointer (some a2)))) (h6 : w.cell? ⟨7, 0, none⟩ = some (.iface 205 (.pointer (some a6)))) (h7 : w.cell? ⟨8, 0, none⟩ = some (.iface 205 (.pointer (some a7)))) (h8 : w.cell? ⟨9, 0, none⟩ = some (.iface 205 (.pointer (some a8)))) (h9 : w.cell? ⟨0, 0, none⟩ = some (.iface 205 (.pointer (some a9)))) : ∃ ad, ErrsR w ad :=
  ⟨fun k => match k with | 0 => a0 | 2 => a2 | 6 => a6 | 7 => a7 | 8 => a8 | _ => a9, ⟨h0, h2, h6, h7, h8⟩, h9⟩

set_option maxRecDepth 100000 in
set_option maxHeartbeats 8000000 in
theorem walk (g : Grd) (bv : Value) (bl : List Int) (gv : Value) (xs : List Int) (sv : Value) (t : Int) (w : World) (hr : Ints w bv bl) (hb : bl.length ≤ 9223372036854775807) (hrg : Ints w gv xs) (hbg : xs.length ≤ 9223372036854775807) (ad : Nat → Addr) (hE : ErrsR w ad) :
    Calls Tryd.prog 7 #[ask19V g bv gv sv t] w fun r w' => r = .returned (.bool true) ∧ Same w w' := by
  obtain ⟨i0, hi0, hz0, hz1, hz2⟩ := info_parts infoInt
  obtain ⟨a, cb, rfl⟩ := hr.slice
  obtain ⟨ga, gc, rfl⟩ := hrg.slice
  have HE := hid hE
  have HR := hid hr
  have HRG := hid hrg
  obtain ⟨l, hl⟩ : ∃ l, l = bl.length := ⟨_, rfl⟩
  obtain ⟨gn, hgn⟩ : ∃ gn, gn = xs.length := ⟨_, rfl⟩
  have HGN := hid hgn
  by_cases hc : g.right = true ∧ g.W * g.H ≤ 150 ∧ bl.length ≤ 200
  · have MY := hid (fun (w : World) hr hE => made_yes (w := w) g bl (.slice a bl.length cb) hr hc.2.2 hc.1 hc.2.1 ad hE)
    rw [← hl] at MY HR ⊢
    rw [← hgn] at HRG hbg ⊢
    obtain ⟨W, H, S, X, Y⟩ := g
    unfold ask19V
    unfold Grd.v at MY
    simp only at MY ⊢
    have Z := hid ((Star.new w).alloc #[.int .i64 W, .int .i64 H, .int .i64 S, .int .i64 X, .int .i64 Y, .slice a l cb, .slice ga gn gc, sv, .int .i64 t] 27)
    have HL := hid hl
    clear hc hr hE hl hb hrg hgn
    go_enter Tryd.func7, Tryd.ntmps7
    go_wp2_with fail
    generalize w.alloc _ = w1 at *
    generalize w.heap.size = q at *
    refine (alive_any ad (HE.out.same Z.out.same).two).mono ?_
    rintro r w2 ⟨rfl, hs⟩
    have Z2 := hid (Z.out.go hs)
    have hbk := (Z2.out.blk 0 rfl).1
    have hql := lt_of hbk
    have c0 := cell_of hbk 0
    have c1 := cell_of hbk 1
    have c2 := cell_of hbk 2
    have c3 := cell_of hbk 3
    have c4 := cell_of hbk 4
    have c5 := cell_of hbk 5
    have c6 := cell_of hbk 6
    have c7 := cell_of hbk 7
    have c8 := cell_of hbk 8
    simp only [List.getElem?_toArray, List.getElem?_cons_zero, List.getElem?_cons_succ] at c0 c1 c2 c3 c4 c5 c6 c7 c8
    clear hbk hs Z
    go_wp2_with fail
    refine (MY.out _ (HR.out.same Z2.out.same) (HE.out.same Z2.out.same).two).mono ?_
    rintro r w3 ⟨p, m, G, hok, hmax, rfl, hX3⟩
    have X3 : Hid (Star w w3 [gndR 76 m G, gndR 92 p G, Blk q #[.int .i64 W, .int .i64 H, .int .i64 S, .int .i64 X, .int .i64 Y, .slice a l cb, .slice ga gn gc, sv, .int .i64 t] 27]) := hid (Z2.out.lift hX3)
    have OK := hid hok
    clear c0 c1 c2 c3 c4 c5 c6 c7 c8 hql hX3 Z2 MY hok
    have hbk := (X3.out.blk 2 rfl).1
    have hql := lt_of hbk
    have c6 := cell_of hbk 6
    have c7 := cell_of hbk 7
    have c8 := cell_of hbk 8
    simp only [List.getElem?_toArray, List.getElem?_cons_zero, List.getElem?_cons_succ] at c6 c7 c8
    clear hbk
    obtain ⟨pg, pc, hG, -⟩ := gnd_at X3.out 1 rfl
    have HG := hid hG
    clear hG
    by_cases h60 : G.fs.length ≤ 60
    · go_wp2_with fail
      refine (len_any HG.out).mono ?_
      rintro r w' ⟨rfl, rfl⟩
      go_wp2_with fail
      refine (new_all HG.out xs _ (HRG.out.same X3.out.same) (by rw [← HGN.out]; exact hbg) ad (HE.out.same X3.out.same).fld).mono ?_
      rintro r w4 hcase
      rcases hcase with ⟨f, gl, c, ho, hF, hgo, rfl, hX4⟩ | ⟨k, -, -, rfl, hs4⟩
      · have X4 : Hid (Star w w4 [fldR f G gl c, gndR 76 m G, gndR 92 p G, Blk q #[.int .i64 W, .int .i64 H, .int .i64 S, .int .i64 X, .int .i64 Y, .slice a l cb, .slice ga gn gc, sv, .int .i64 t] 27]) := hid (X3.out.lift hX4)
        have HF := hid hF
        have HMEM := hid (mem_goals ho.mem (fun x hx => (hgo.2.2 x hx).1))
        obtain ⟨n, hn⟩ : ∃ n, n = G.fs.length := ⟨_, rfl⟩
        have HN := hid hn
        obtain ⟨ng, hng⟩ : ∃ ng, ng = gl.length := ⟨_, rfl⟩
        have HNG := hid hng
        have hng8 : 1 ≤ ng ∧ ng ≤ 8 := by rw [hng]; exact ⟨hF.pos, hF.le⟩
        have hN := hF.ok.max
        have HB := hid (show ∀ t, -1 ≤ cAt c t ∧ cAt c t ≤ 20000 from fun t => hF.bound (hF.least.bound hF.ok) t)
        rw [← hn] at hN hmax
        clear hX4 hF ho hgo hn c6 c7 c8 hql X3 HG h60 hng
        go_wp2_with fail
        refine (cells_any X4.out HF.out).mono ?_
        rintro r w5 ⟨v1, rfl, hX5⟩
        have hX6 : Star w w5 (Row 41 2 v1 n (ceCs (G.cells c n)) :: fldR f G gl c :: gndR 92 p G :: Blk q #[.int .i64 W, .int .i64 H, .int .i64 S, .int .i64 X, .int .i64 Y, .slice a l cb, .slice ga gn gc, sv, .int .i64 t] 27 :: []) := by
          have h := ((((hX5.pull 2 rfl).drop)))
          unfold cellR at h
          rw [Gr.cells_len, ← HN.out] at h
          exact h
        obtain ⟨b1, k1, rfl⟩ := own_shape (hX6.row 0 rfl).1 (by omega)
        have X6 := hid hX6
        clear hX5 hX6 X4
        go_wp2_with fail
        go_loopw [51] (fun iv wr => ∃ k : Nat, k ≤ n ∧ iv = .int .i64 k ∧ Star w wr (Row 41 2 (.slice (some ⟨b1, 0, none⟩) n k1) n (ceCs (G.cells c n)) :: fldR f G gl c :: gndR 92 p G :: Blk q #[.int .i64 W, .int .i64 H, .int .i64 S, .int .i64 X, .int .i64 Y, .slice a l cb, .slice ga gn gc, sv, .int .i64 t] 27 :: [])) (fun iv _ => n - (intOf iv).toNat)
        case atStart => exact ⟨0, by omega, rfl, X6.out⟩
        case round =>
          obtain ⟨k, hk, rfl, hX⟩ := hrel
          have X := hid hX
          clear X6 hX
          by_cases hkn : k < n
          · have hr1 := (X.out.row 0 rfl).1
            have g0 : wr.cell? ⟨b1, k * 2, none⟩ = some (.int .i64 (cAt c k)) := (hr1.cellAt (k * 2) (by omega)).trans ((rows_get ceC ceC_len _ k 0 _ (Gr.cells_get G c hkn) (by omega)).trans rfl)
            have g1 : wr.cell? ⟨b1, k * 2 + 1, none⟩ = some (.int .i64 (G.dirOf c k)) := (hr1.cellAt (k * 2 + 1) (by omega)).trans ((rows_get ceC ceC_len _ k 1 _ (Gr.cells_get G c hkn) (by omega)).trans rfl)
            have l1 := (hr1.lt b1 rfl).2
            have Z := hid (X.out.alloc #[.int .i64 (cAt c k), .int .i64 (G.dirOf c k)] 41)
            have hkl : k < G.fs.length := by rw [← HN.out]; exact hkn
            have HKL := hid hkl
            clear hr1 X hkl
            go_wp2_with fail
            clear g0 g1 l1
            generalize wr.alloc _ = w6 at *
            generalize wr.heap.size = e at *
            refine (goals_any (Z.out.pull 2 rfl) HF.out).mono ?_
            rintro r w7 ⟨va, rfl, hX7⟩
            rw [← HNG.out] at hX7
            obtain ⟨ba, ka, rfl⟩ := own_shape (hX7.row 0 rfl).1 (by omega)
            have X7 : Hid (Star w w7 (Row 3 1 (.slice (some ⟨ba, 0, none⟩) ng ka) ng (gl.map (Value.int .i64)) :: Blk e #[.int .i64 (cAt c k), .int .i64 (G.dirOf c k)] 41 :: Row 41 2 (.slice (some ⟨b1, 0, none⟩) n k1) n (ceCs (G.cells c n)) :: fldR f G gl c :: gndR 92 p G :: Blk q #[.int .i64 W, .int .i64 H, .int .i64 S, .int .i64 X, .int .i64 Y, .slice a l cb, .slice ga gn gc, sv, .int .i64 t] 27 :: [])) := hid (((hX7.pull 3 rfl).pull 3 rfl).pull 2 rfl)
            clear hX7 Z
            go_wp2_with fail
            go_loopw [10, 59] (fun bv iv wr => ∃ (j : Nat) (b : Int), j ≤ ng ∧ iv = .int .i64 j ∧ bv = .int .i64 b ∧ BestI G ((goalsOf gl).take j) k b ∧ Star w wr (Row 3 1 (.slice (some ⟨ba, 0, none⟩) ng ka) ng (gl.map (Value.int .i64)) :: Blk e #[.int .i64 (cAt c k), .int .i64 (G.dirOf c k)] 41 :: Row 41 2 (.slice (some ⟨b1, 0, none⟩) n k1) n (ceCs (G.cells c n)) :: fldR f G gl c :: gndR 92 p G :: Blk q #[.int .i64 W, .int .i64 H, .int .i64 S, .int .i64 X, .int .i64 Y, .slice a l cb, .slice ga gn gc, sv, .int .i64 t] 27 :: [])) (fun _ iv _ => ng - (intOf iv).toNat)
            case atStart => exact ⟨0, -1, by omega, rfl, rfl, by simpa using BestI.start, X7.out⟩
            case round =>
              obtain ⟨j, b, hj, rfl, rfl, hI, hX⟩ := hrel
              have X := hid hX
              have HI := hid hI
              clear hX hI X7
              by_cases hjn : j < ng
              · obtain ⟨x, hx⟩ : ∃ x, gl[j]? = some x := ⟨_, List.getElem?_eq_getElem (by have := HNG.out; omega)⟩
                have hxin := HF.out.ins x (List.mem_of_getElem? hx)
                obtain ⟨t1, rfl⟩ := Int.eq_ofNat_of_zero_le hxin.1
                have ht1 : t1 < G.fs.length := by omega
                have hrg := (X.out.row 0 rfl).1
                have g0 : wr.cell? ⟨ba, j, none⟩ = some (.int .i64 t1) := (hrg.cellAt j (by omega)).trans (by rw [List.getElem?_map, hx]; rfl)
                have gl1 := (hrg.lt ba rfl).2
                have HTK := hid (show (goalsOf gl).take (j + 1) = (goalsOf gl).take j ++ [t1] by
                  have h1 : (goalsOf gl)[j]? = some t1 := by unfold goalsOf; rw [List.getElem?_map, hx]; rfl
                  obtain ⟨h2, h3⟩ := List.getElem?_eq_some_iff.1 h1
                  rw [List.take_succ_eq_append_getElem h2, h3])
                obtain ⟨pg, pc, hG, -⟩ := gnd_at X.out 4 rfl
                have HG := hid hG
                obtain ⟨d, hd⟩ := Least.exists G [t1]
                have LD := hid hd
                have H8 := hid (HE.out.same X.out.same).five.c8
                clear hrg hx hxin hG hd
                rcases LD.out.low k with h0 | h0
                · have HI2 := hid (HI.out.no LD.out h0)
                  go_wp2_with fail
                  refine (cost_path HG.out k t1 HKL.out ht1 LD.out h0 _ _ H8.out).mono ?_
                  rintro r w8 ⟨rfl, hs8⟩
                  have X8 := hid (X.out.go hs8)
                  clear hs8 X g0 gl1 h0 ht1
                  go_wp2
                  go_roundw
                  case rel => exact ⟨j + 1, b, by omega, by go_num, rfl, by rw [HTK.out]; exact HI2.out, X8.out⟩
                  case measure => simp [intOf]; omega
                · go_wp2_with fail
                  refine (cost_ok HG.out k t1 HKL.out ht1 LD.out h0 _ _ H8.out).mono ?_
                  rintro r w8 ⟨rfl, hs8⟩
                  have X8 := hid (X.out.go hs8)
                  clear hs8 X g0 gl1 ht1
                  by_cases hb : b < 0
                  · have HI2 := hid (HI.out.take LD.out h0 (.inl hb))
                    generalize cAt d k = y at *
                    go_wp2
                    go_roundw
                    case rel => exact ⟨j + 1, y, by omega, by go_num, rfl, by rw [HTK.out]; exact HI2.out, X8.out⟩
                    case measure => simp [intOf]; omega
                  · by_cases hy : cAt d k < b
                    · have HI2 := hid (HI.out.take LD.out h0 (.inr hy))
                      generalize cAt d k = y at *
                      go_wp2
                      go_roundw
                      case rel => exact ⟨j + 1, y, by omega, by go_num, rfl, by rw [HTK.out]; exact HI2.out, X8.out⟩
                      case measure => simp [intOf]; omega
                    · have HI2 := hid (HI.out.keep LD.out (by omega) (by omega))
                      generalize cAt d k = y at *
                      go_wp2
                      go_roundw
                      case rel => exact ⟨j + 1, b, by omega, by go_num, rfl, by rw [HTK.out]; exact HI2.out, X8.out⟩
                      case measure => simp [intOf]; omega
              · have hbest : b = cAt c k := by
                  have h := HI.out
                  rw [List.take_of_length_le (by unfold goalsOf; rw [List.length_map]; have := HNG.out; omega)] at h
                  exact h.done HF.out.least
                subst hbest
                clear HI
                have hbe := (X.out.blk 1 rfl).1
                have q0 := cell_of hbe 0
                have ql := lt_of hbe
                simp only [List.getElem?_toArray, List.getElem?_cons_zero, List.getElem?_cons_succ] at q0
                clear hbe
                by_cases h0 : 0 ≤ cAt c k
                · obtain ⟨V, hV⟩ := HF.out.least.fol HF.out.ok h0
                  have hfk := (HF.out.least.real k h0).free.1
                  obtain ⟨⟨l', hl'⟩, hfree, hcost, z, he1, he2⟩ := hV.walk HF.out.ok hfk h0 V rfl
                  have hlen : V.length ≤ G.fs.length := Gr.Fol.len HF.out.ok hV hfk
                  have HCO := hid (Gr.cost_ok (G := G) (l := V) (by rw [hl']; simp) hfree hcost)
                  have HZ := hid (decide_eq_true ((HMEM.out z).1 (HF.out.least.zero he2).1))
                  have HV := hid hV
                  have HFK := hid hfk
                  have HLAST := hid he1
                  obtain ⟨m, hm⟩ : ∃ m, m + 1 = V.length := ⟨l'.length, by rw [hl']; rfl⟩
                  have hmn : m < 1024 := by have := HF.out.ok.max; omega
                  have HM := hid hm
                  have XP := hid (X.out.pull 3 rfl)
                  clear hl' hfree hcost he1 he2 hV hlen hfk X hm
                  go_wp2_with fail
                  clear q0 ql
                  refine (walk_ok XP.out HF.out k HFK.out h0 V HV.out).mono ?_
                  rintro r w8 ⟨v8, rfl, hX8⟩
                  obtain ⟨bw, cw, rfl⟩ := own_shape (hX8.row 0 rfl).1 (by have := HM.out; omega)
                  have hcap := own_cap (hX8.row 0 rfl).1
                  have X8 := hid hX8
                  obtain ⟨pg, pc, hG, -⟩ := gnd_at X8.out 5 rfl
                  have HG := hid hG
                  clear hX8 XP hG
                  go_wp2_with fail
                  refine (cost_any HG.out _ _ _ (V.map Int.ofNat) (rowInts (X8.out.row 0 rfl).1) hcap (by rw [List.length_map, ← HM.out]; omega) ad (HE.out.same X8.out.same).five).mono ?_
                  rintro r w9 ⟨rfl, hs9⟩
                  rw [HCO.out]
                  rw [show costV ad (cAt c k, 0) = .tuple #[.int .i64 (cAt c k), .nilIface] from rfl]
                  have X9 := hid ((X8.out.go hs9).pull 1 rfl)
                  clear hs9 X8 HG hcap
                  go_wp2_with fail
                  refine (nearest_ok X9.out HF.out k HFK.out h0 V HV.out z HLAST.out (by rw [← HM.out]; omega)).mono ?_
                  rintro r w10 ⟨rfl, hX10⟩
                  have X10 := hid (hX10.pull 1 rfl)
                  have hrow := (X10.out.row 0 rfl).1
                  have he2 : (gC V)[m]? = some (.int .i64 (z : Int)) := by
                    have h := HLAST.out
                    rw [List.getLast?_eq_getElem?, ← HM.out, Nat.add_sub_cancel] at h
                    unfold gC
                    rw [List.getElem?_map, h]; rfl
                  have g1 : w10.cell? ⟨bw, m, none⟩ = some (.int .i64 (z : Int)) := (hrow.cellAt m (by rw [← HM.out]; omega)).trans he2
                  have gl1 := (hrow.lt bw rfl).2
                  rw [← HM.out]
                  have hw : IntKind.i64.wrap (((m + 1 : Nat) : Int) - 1) = (m : Int) := by rw [show (((m + 1 : Nat) : Int) - 1) = (m : Int) by omega]; exact IntWalk.i64_in _ (by omega)
                  have hw2 : IntKind.i64.wrap ((m : Int) + 1 - 1) = (m : Int) := by rw [show ((m : Int) + 1 - 1) = (m : Int) by omega]; exact IntWalk.i64_in _ (by omega)
                  have hbq := (X10.out.blk 6 rfl).1
                  have c6 := cell_of hbq 6
                  have cl := lt_of hbq
                  simp only [List.getElem?_toArray, List.getElem?_cons_zero, List.getElem?_cons_succ] at c6
                  have SX := hid (X10.out.same)
                  have XZ := hid ((((X10.out.drop).pull 1 rfl).drop.pull 1 rfl).drop.pull 1 rfl)
                  clear hX10 X9 X10 hrow he2 hbq
                  generalize cAt c k = C at *
                  go_wp2_with fail
                  refine (in_any _ xs z (HRG.out.same SX.out) (by rw [← HGN.out]; exact hbg)).mono ?_
                  rintro r w' ⟨rfl, rfl⟩
                  rw [HZ.out]
                  go_wp2
                  go_roundw
                  case rel => exact ⟨k + 1, by omega, by go_num, XZ.out⟩
                  case measure => simp [intOf]; omega
                · generalize hC : cAt c k = C at *
                  clear hC
                  have X8 := hid (X.out.drop.drop)
                  clear X
                  go_wp2
                  go_roundw
                  case rel => exact ⟨k + 1, by omega, by go_num, X8.out⟩
                  case measure => simp [intOf]; omega
          · go_wp2
            go_ret
            exact ⟨rfl, X.out.same⟩
      · have S4 := hid (X3.out.go hs4)
        go_wp2
        go_ret
        exact ⟨rfl, S4.out.same⟩
    · go_wp2_with fail
      refine (len_any HG.out).mono ?_
      rintro r w' ⟨rfl, rfl⟩
      go_wp2
      go_ret
      exact ⟨rfl, X3.out.same⟩
  · have MN := hid (fun (w : World) hr => made_no (w := w) g bl (.slice a bl.length cb) hr hb hc)
    rw [← hl] at MN HR ⊢
    rw [← hgn] at HRG hbg ⊢
    obtain ⟨W, H, S, X, Y⟩ := g
    unfold ask19V
    unfold Grd.v at MN
    simp only at MN ⊢
    have Z := hid ((Star.new w).alloc #[.int .i64 W, .int .i64 H, .int .i64 S, .int .i64 X, .int .i64 Y, .slice a l cb, .slice ga gn gc, sv, .int .i64 t] 27)
    clear hc hr hE hl hb hrg hgn
    go_enter Tryd.func7, Tryd.ntmps7
    go_wp2_with fail
    generalize w.alloc _ = w1 at *
    generalize w.heap.size = q at *
    refine (alive_any ad (HE.out.same Z.out.same).two).mono ?_
    rintro r w2 ⟨rfl, hs⟩
    have Z2 := hid (Z.out.go hs)
    have hbk := (Z2.out.blk 0 rfl).1
    have hql := lt_of hbk
    have c0 := cell_of hbk 0
    have c1 := cell_of hbk 1
    have c2 := cell_of hbk 2
    have c3 := cell_of hbk 3
    have c4 := cell_of hbk 4
    have c5 := cell_of hbk 5
    have c6 := cell_of hbk 6
    have c7 := cell_of hbk 7
    have c8 := cell_of hbk 8
    simp only [List.getElem?_toArray, List.getElem?_cons_zero, List.getElem?_cons_succ] at c0 c1 c2 c3 c4 c5 c6 c7 c8
    clear hbk hs Z
    go_wp2_with fail
    refine (MN.out _ (HR.out.same Z2.out.same)).mono ?_
    rintro r w3 ⟨rfl, hs⟩
    have Z3 := hid (Z2.out.go hs)
    clear hs Z2 MN
    go_wp2
    go_ret
    exact ⟨rfl, Z3.out.same⟩
end Go.Proofs.YtilobedihjkpjaaDoor.FieldRoutes
