/-
  RouteParts: the walk. 
-/
import Derived.Test.YtbhmpbgoanmdlaaDoorAlive17
import Derived.Test.YtbhmpbgoanmdlaaDoorMade17
import Derived.Test.YtbhmpbgoanmdlaaDoorInAsk
import Derived.Test.YtbhmpbgoanmdlaaDoorRouteRows
import Derived.Test.YtbhmpbgoanmdlaaDoorStepCost
namespace Go.Proofs.YtbhmpbgoanmdlaaDoor.RouteParts
open Go Go.RowKit Go.Proofs.YtbhmpbgoanmdlaaDoor.Err Go.Proofs.YtbhmpbgoanmdlaaDoor.Steps Go.Proofs.YtbhmpbgoanmdlaaDoor.Route

set_option maxRecDepth 100000 in
set_option maxHeartbeats 8000000 in
theorem walk (g : Grd) (bv : Value) (bl : List Int) (s t : Int) (w : World) (hr : Ints w bv bl) (hb : bl.length ≤ 9223372036854775807) (ad : Nat → Addr) (hE : Errs5 w ad) :
    Calls Tryd.prog 5 #[askV g bv s t] w fun r w' => r = .returned (.bool true) ∧ Same w w' := by
  obtain ⟨a, cb, rfl⟩ := hr.slice
  have HE := hid hE
  have HR := hid hr
  obtain ⟨l, hl⟩ : ∃ l, l = bl.length := ⟨_, rfl⟩
  by_cases hc : g.right = true ∧ g.W * g.H ≤ 256 ∧ bl.length ≤ 300
  · have MY := hid (fun (w : World) hr hE => made_yes (w := w) g bl (.slice a bl.length cb) hr hc.2.2 hc.1 hc.2.1 ad hE)
    rw [← hl] at MY HR ⊢
    obtain ⟨W, H, S, X, Y⟩ := g
    unfold askV
    unfold Grd.v at MY
    simp only at MY ⊢
    have Z := hid ((Star.new w).alloc #[.int .i64 W, .int .i64 H, .int .i64 S, .int .i64 X, .int .i64 Y, .slice a l cb, .int .i64 s, .int .i64 t] 26)
    have HL := hid hl
    clear hc hr hE hl hb
    go_enter Tryd.func5, Tryd.ntmps5
    go_wp2_with fail
    generalize w.alloc _ = w1 at *
    generalize w.heap.size = q at *
    refine (alive_any ad (HE.out.same Z.out.same).three).mono ?_
    rintro r w2 ⟨rfl, hs⟩
    have Z2 := hid (Z.out.go hs)
    have hbk := (Z2.out.blk 0 rfl).1
    have hql := lt_of hbk
    have c0 := cell_of hbk 0
    have c1 := cell_of hbk 1
    have c2 := cell_of hbk 2
    have c3 := cell_of hbk 3
    have c4 := cell_of hbk 4
    have c5 := cell_of hbk 5
    have c6 := cell_of hbk 6
    have c7 := cell_of hbk 7
    simp only [List.getElem?_toArray, List.getElem?_cons_zero, List.getElem?_cons_succ] at c0 c1 c2 c3 c4 c5 c6 c7
    clear hbk hs Z
    go_wp2_with fail
    refine (MY.out _ (HR.out.same Z2.out.same) (HE.out.same Z2.out.same).three).mono ?_
    rintro r w3 ⟨p, m, G, hok, hmax, rfl, hX3⟩
    have X3 : Hid (Star w w3 [gndR 49 m G, gndR 72 p G, Blk q #[.int .i64 W, .int .i64 H, .int .i64 S, .int .i64 X, .int .i64 Y, .slice a l cb, .int .i64 s, .int .i64 t] 26]) := hid (Z2.out.lift hX3)
    have OK := hid hok
    clear c0 c1 c2 c3 c4 c5 c6 c7 hql hX3 Z2 MY hok
    have hbk := (X3.out.blk 2 rfl).1
    have hql := lt_of hbk
    have c6 := cell_of hbk 6
    have c7 := cell_of hbk 7
    simp only [List.getElem?_toArray, List.getElem?_cons_zero, List.getElem?_cons_succ] at c6 c7
    clear hbk
    obtain ⟨pg, pc, hG, -⟩ := gnd_at X3.out 1 rfl
    have HG := hid hG
    clear hG
    by_cases hin : (0 ≤ s ∧ s < G.fs.length) ∧ (0 ≤ t ∧ t < G.fs.length)
    · obtain ⟨⟨s0, s1⟩, t0, t1⟩ := hin
      obtain ⟨s, rfl⟩ := Int.eq_ofNat_of_zero_le s0
      obtain ⟨t, rfl⟩ := Int.eq_ofNat_of_zero_le t0
      have hs : s < G.fs.length := by omega
      have ht : t < G.fs.length := by omega
      obtain ⟨c, hc⟩ := Least.exists G [t]
      have LC := hid hc
      clear s0 s1 t0 t1 hc
      rcases LC.out.low s with h0 | h0
      · go_wp2_with fail
        refine (find_path HG.out s t hs ht LC.out h0 _ _ (HE.out.same X3.out.same).c8).mono ?_
        rintro r w4 ⟨rfl, hs4⟩
        have X4 := hid (X3.out.go hs4)
        clear c6 c7 hql hs4 HG
        go_wp2
        go_ret
        exact ⟨rfl, X4.out.same⟩
      · obtain ⟨V, hV⟩ := LC.out.fol OK.out h0
        have hsf := (LC.out.real s h0).free.1
        have HP := hid (fun i u (hi : V[i]? = some u) => hV.parts OK.out hsf h0 V rfl i u hi)
        have hnod : V.length ≤ G.fs.length := Gr.Fol.len OK.out hV hsf
        have HV := hid hV
        have hmax2 := OK.out.max
        clear hV hsf
        go_wp2_with fail
        refine (find_ok HG.out s t hs ht LC.out h0 HV.out _ _ (HE.out.same X3.out.same).c8).mono ?_
        rintro r w4 ⟨v, rfl, hX4⟩
        obtain ⟨L1, hL1⟩ : ∃ L1, L1 = V.length := ⟨_, rfl⟩
        have HL1 := hid hL1
        rw [← hL1] at hX4 hnod
        obtain ⟨va, vc, rfl, -⟩ := own_slice (hX4.row 0 rfl).1
        have hcap := own_cap (hX4.row 0 rfl).1
        have X4 : Hid (Star w w4 [Row 3 1 (.slice va L1 vc) L1 (gC V), gndR 72 p G, Blk q #[.int .i64 W, .int .i64 H, .int .i64 S, .int .i64 X, .int .i64 Y, .slice a l cb, .int .i64 s, .int .i64 t] 26]) := hid ((X3.out.lift hX4).swap.drop)
        have hb := LC.out.bound OK.out
        obtain ⟨cs, hcs⟩ : ∃ x, x = cAt c s := ⟨_, rfl⟩
        have hcs2 : 0 ≤ cs ∧ cs ≤ 14336 := by rw [hcs]; have := hb s; omega
        have HCS := hid hcs
        have HB := hid hb
        rw [← hcs]
        clear c6 c7 hql hX4 X3 HG hL1 hcs hb h0
        go_wp2_with fail
        go_loopw [9, 10, 44] (fun _ _ iv wr => ∃ i : Nat, i ≤ L1 ∧ iv = .int .i64 i ∧ Star w wr [Row 3 1 (.slice va L1 vc) L1 (gC V), gndR 72 p G, Blk q #[.int .i64 W, .int .i64 H, .int .i64 S, .int .i64 X, .int .i64 Y, .slice a l cb, .int .i64 s, .int .i64 t] 26]) (fun _ _ iv _ => L1 - (intOf iv).toNat)
        case atStart => exact ⟨0, by omega, rfl, X4.out⟩
        case round =>
          obtain ⟨i, hi, rfl, hX⟩ := hrel
          have X := hid hX
          clear hX X4
          by_cases hil : i < L1
          · obtain ⟨u, hu⟩ : ∃ u, V[i]? = some u := ⟨_, List.getElem?_eq_getElem (by have := HL1.out; omega)⟩
            obtain ⟨hf1, hf2, hf3, hf4⟩ := HP.out i u hu
            have HF1 := hid hf1
            have HF3 := hid hf3
            have HF4 := hid hf4
            have hul : u < G.fs.length := Gr.free_in (hf4 u (by
              have h1 := (List.getElem?_eq_some_iff.1 hu)
              obtain ⟨h1, h2⟩ := h1
              rw [List.take_succ_eq_append_getElem h1, h2]; simp))
            have hrow := (X.out.row 0 rfl).1
            obtain ⟨gv, cv, ev⟩ := own_shape hrow (by omega)
            cases ev
            have hvl := (hrow.lt gv rfl).2
            have hci : wr.cell? ⟨gv, i, none⟩ = some (.int .i64 u) := (hrow.cellAt i (by omega)).trans (by unfold gC; rw [List.getElem?_map, hu]; rfl)
            have hbk := (X.out.blk 2 rfl).1
            have d7 := cell_of hbk 7
            have dl := lt_of hbk
            simp only [List.getElem?_toArray, List.getElem?_cons_zero, List.getElem?_cons_succ] at d7
            obtain ⟨pg, pc, hG, -⟩ := gnd_at X.out 1 rfl
            have H5 := hid hG
            have hd1 := HB.out u
            obtain ⟨ci, hce⟩ : ∃ x, x = cAt c u := ⟨_, rfl⟩
            have HCE := hid hce
            have hci0 := hf2
            rw [← hce] at hci0 hd1
            obtain ⟨L2, hL2⟩ : ∃ L2, L2 = (V.drop i).length := ⟨_, rfl⟩
            have hL2' : L2 + i = L1 := by rw [hL2, List.length_drop, ← HL1.out]; omega
            have HL2 := hid hL2
            clear hu hf1 hf3 hf4 hbk hG hce hL2 hrow hf2
            go_wp2_with fail
            refine (find_ok H5.out u t hul ht LC.out (by rw [← HCE.out]; exact hci0) HF1.out _ _ (HE.out.same X.out.same).c8).mono ?_
            rintro r w5 ⟨v5, rfl, hX5⟩
            rw [← HL2.out] at hX5
            rw [← HCE.out]
            have X5 := hid (X.out.lift hX5)
            have H6 := hid (H5.out.same hX5.same)
            obtain ⟨vb, vd, rfl, -⟩ := own_slice (hX5.row 0 rfl).1
            clear hci dl d7 hX5 X H5 hvl
            have hrow := (X5.out.row 1 rfl).1
            have hvl := (hrow.lt gv rfl).2
            have htk : Ints w5 (.slice (some ⟨gv, 0, none⟩) (i + 1) vc) ((V.take (i + 1)).map Int.ofNat) := by
              have h1 := own_take hrow (i + 1) (by omega)
              have e1 : (gC V).take ((i + 1) * 1) = gC (V.take (i + 1)) := by unfold gC; rw [Nat.mul_one, List.map_take]
              rw [e1] at h1
              have e2 : i + 1 = (V.take (i + 1)).length := by rw [List.length_take, ← HL1.out]; omega
              have h2 := rowInts (w := w5) (v := .slice (some ⟨gv, 0, none⟩) (i + 1) vc) (l := V.take (i + 1)) (by rw [← e2]; exact h1)
              exact h2
            have HTK := hid htk
            have HCO := hid (Gr.cost_ok (G := G) (l := V.take (i + 1)) (by
              have h1 : (V.take (i + 1)).length = i + 1 := by rw [List.length_take, ← HL1.out]; omega
              intro h2; rw [h2] at h1; simp at h1) HF4.out HF3.out)
            have hw1 : IntKind.i64.wrap ((i : Int) + 1) = (i : Int) + 1 := IntWalk.i64_in _ (by omega)
            have hw2 : (0 : Int) ≤ (i : Int) + 1 := by omega
            have hw3 : ((i : Int) + 1).toNat = i + 1 := by omega
            clear htk hrow
            go_wp2_with fail
            refine (cost_any H6.out _ _ _ _ HTK.out (by omega) (by rw [List.length_map, List.length_take]; omega) ad (HE.out.same X5.out.same)).mono ?_
            rintro r w6 ⟨rfl, hs6⟩
            rw [HCO.out]
            unfold costV
            have e0 : errV ad (0 : Int).toNat = .nilIface := rfl
            simp only [e0]
            have X6 := hid (X5.out.go hs6)
            rw [← HCS.out, ← HCE.out]
            obtain ⟨ai, hai⟩ : ∃ x, x = cs - ci := ⟨_, rfl⟩
            rw [← hai]
            have hai2 : ai + ci = cs := by omega
            have hai3 : -20000 ≤ ai ∧ ai ≤ 20000 := by omega
            have hw4 : IntKind.i64.wrap ((L1 : Int) - (i : Int)) = (L2 : Int) := by rw [IntWalk.i64_in _ (by omega)]; omega
            have hw5 : (L1 : Int) - (i : Int) = (L2 : Int) := by omega
            clear hs6 X5 H6 HTK hw1 hw2 hw3 hai e0 hvl
            go_wp2_with fail
            go_loopw [16, 91] (fun _ kv wr => ∃ k : Nat, k ≤ L2 ∧ kv = .int .i64 k ∧ Star w wr [Row 3 1 (.slice vb L2 vd) L2 (gC (V.drop i)), Row 3 1 (.slice (some ⟨gv, 0, none⟩) L1 vc) L1 (gC V), gndR 72 p G, Blk q #[.int .i64 W, .int .i64 H, .int .i64 S, .int .i64 X, .int .i64 Y, .slice a l cb, .int .i64 s, .int .i64 t] 26]) (fun _ kv _ => L2 - (intOf kv).toNat)
            case atStart => exact ⟨0, by omega, rfl, X6.out⟩
            case round =>
              obtain ⟨k, hk, rfl, hX⟩ := hrel
              have X := hid hX
              clear hX X6
              by_cases hkl : k < L2
              · have hr1 := (X.out.row 0 rfl).1
                have hr2 := (X.out.row 1 rfl).1
                obtain ⟨gb, cb2, eb⟩ := own_shape hr1 (by omega)
                cases eb
                obtain ⟨z, hz⟩ : ∃ z, V[i + k]? = some z := ⟨_, List.getElem?_eq_getElem (by rw [← HL1.out]; omega)⟩
                have k1 : wr.cell? ⟨gb, k, none⟩ = some (.int .i64 z) := (hr1.cellAt k (by omega)).trans (by unfold gC; rw [List.getElem?_map, List.getElem?_drop, hz]; rfl)
                have k2 : wr.cell? ⟨gv, i + k, none⟩ = some (.int .i64 z) := (hr2.cellAt (i + k) (by omega)).trans (by unfold gC; rw [List.getElem?_map, hz]; rfl)
                have k3 := (hr1.lt gb rfl).2
                have k4 := (hr2.lt gv rfl).2
                have hw1 : IntKind.i64.wrap ((i : Int) + (k : Int)) = (i : Int) + (k : Int) := IntWalk.i64_in _ (by omega)
                have hw2 : (0 : Int) ≤ (i : Int) + (k : Int) := by omega
                have hw3 : ((i : Int) + (k : Int)).toNat = i + k := by omega
                have hw6 : i + k < L1 := by omega
                clear hr1 hr2 hz
                go_wp2
                go_quiet (fail)
                go_wp2
                go_roundw
                case rel => exact ⟨k + 1, by omega, by go_num, X.out.go ((Chg.refl _).drewN _)⟩
                case measure => simp [intOf]; omega
              · go_wp2
                go_roundw
                case rel => exact ⟨i + 1, by omega, by go_num, X.out.drop⟩
                case measure => simp [intOf]; omega
          · go_wp2
            go_ret
            exact ⟨rfl, X.out.same⟩
    · have h1 : ¬ (0 ≤ s ∧ s < G.fs.length) ∨ ¬ (0 ≤ t ∧ t < G.fs.length) := by omega
      have H1 := hid h1
      clear hin h1
      go_wp2_with fail
      refine (find_range HG.out s t H1.out _ _ (HE.out.same X3.out.same).c0).mono ?_
      rintro r w4 ⟨rfl, hs4⟩
      have X4 := hid (X3.out.go hs4)
      clear c6 c7 hql hs4 HG
      go_wp2
      go_ret
      exact ⟨rfl, X4.out.same⟩
  · have MN := hid (fun (w : World) hr => made_no (w := w) g bl (.slice a bl.length cb) hr hb hc)
    rw [← hl] at MN HR ⊢
    obtain ⟨W, H, S, X, Y⟩ := g
    unfold askV
    unfold Grd.v at MN
    simp only at MN ⊢
    have Z := hid ((Star.new w).alloc #[.int .i64 W, .int .i64 H, .int .i64 S, .int .i64 X, .int .i64 Y, .slice a l cb, .int .i64 s, .int .i64 t] 26)
    clear hc hr hE hl hb
    go_enter Tryd.func5, Tryd.ntmps5
    go_wp2_with fail
    generalize w.alloc _ = w1 at *
    generalize w.heap.size = q at *
    refine (alive_any ad (HE.out.same Z.out.same).three).mono ?_
    rintro r w2 ⟨rfl, hs⟩
    have Z2 := hid (Z.out.go hs)
    have hbk := (Z2.out.blk 0 rfl).1
    have hql := lt_of hbk
    have c0 := cell_of hbk 0
    have c1 := cell_of hbk 1
    have c2 := cell_of hbk 2
    have c3 := cell_of hbk 3
    have c4 := cell_of hbk 4
    have c5 := cell_of hbk 5
    have c6 := cell_of hbk 6
    have c7 := cell_of hbk 7
    simp only [List.getElem?_toArray, List.getElem?_cons_zero, List.getElem?_cons_succ] at c0 c1 c2 c3 c4 c5 c6 c7
    clear hbk hs Z
    go_wp2_with fail
    refine (MN.out _ (HR.out.same Z2.out.same)).mono ?_
    rintro r w3 ⟨rfl, hs⟩
    have Z3 := hid (Z2.out.go hs)
    clear hs Z2 MN
    go_wp2
    go_ret
    exact ⟨rfl, Z3.out.same⟩
end Go.Proofs.YtbhmpbgoanmdlaaDoor.RouteParts
