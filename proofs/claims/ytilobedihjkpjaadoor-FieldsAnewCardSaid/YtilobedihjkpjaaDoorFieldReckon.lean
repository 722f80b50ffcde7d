/-
  A field's cells are reckoned.
-/
import Derived.Test.YtilobedihjkpjaaDoorField
namespace Go.Proofs.YtilobedihjkpjaaDoor
/-- The cells, of which the first k are reckoned. -/
def Gr.cellsTo (G : Gr) (c : List Int) (n k : Nat) : List (Int × Int) := (List.range n).map fun i => if i < k then (cAt c i, G.dirOf c i) else (0, 0)
section
variable {G : Gr} {c : List Int} {n k : Nat}
theorem Gr.cellsTo_len : (G.cellsTo c n k).length = n := by simp [Gr.cellsTo]
theorem Gr.cellsTo_get (h : k < n) : (G.cellsTo c n k)[k]? = some (0, 0) := by simp [Gr.cellsTo, h]
theorem Gr.cellsTo_set : (G.cellsTo c n k).set k (cAt c k, G.dirOf c k) = G.cellsTo c n (k + 1) := by
  unfold Gr.cellsTo
  apply List.ext_getElem
  · simp
  · intro i h1 h2
    simp only [List.getElem_set, List.getElem_map, List.getElem_range]
    by_cases e : k = i
    · subst e; simp
    · rw [if_neg e]
      by_cases h : i < k
      · rw [if_pos h, if_pos (by omega)]
      · rw [if_neg h, if_neg (by omega)]
theorem Gr.cellsTo_all : G.cellsTo c n n = G.cells c n := by
  unfold Gr.cellsTo Gr.cells
  apply List.map_congr_left
  intro i hi
  rw [if_pos (List.mem_range.1 hi)]
theorem dirOf_none {t : Nat} (h : ∀ s ∈ G.around t, Gr.dirB c t s = false) : G.dirOf c t = -1 := by
  unfold Gr.dirOf
  rw [List.find?_eq_none.2 (fun s hs => by rw [h s hs]; simp)]
theorem dirOf_at {t j : Nat} {x : Gr.St} (hj : (G.around t)[j]? = some x) (h : ∀ y ∈ (G.around t).take j, Gr.dirB c t y = false) (hx : Gr.dirB c t x = true) : G.dirOf c t = x.d := by
  obtain ⟨hl, e⟩ := List.getElem?_eq_some_iff.1 hj
  unfold Gr.dirOf
  have h0 : (G.around t).take j ++ x :: (G.around t).drop (j + 1) = G.around t := by
    rw [← e, ← List.drop_eq_getElem_cons hl, List.take_append_drop]
  rw [← h0, List.find?_append]
  have h1 : ((G.around t).take j).find? (Gr.dirB c t) = none := by
    rw [List.find?_eq_none]
    intro y hy
    rw [h y hy]; simp
  rw [h1, Option.none_or, List.find?_cons, hx]
end
end Go.Proofs.YtilobedihjkpjaaDoor
namespace Go.Proofs.YtilobedihjkpjaaDoor.Fld
open Go Go.RowKit Go.Proofs.YtilobedihjkpjaaDoor.Steps Go.Proofs.YtilobedihjkpjaaDoor.Ord Go.Proofs.YtilobedihjkpjaaDoor.Route
theorem infoC : (Tryd.prog.info? 41).map (fun i => (i.zero, i.size, i.bytes)) = some (some (.agg #[.int .i64 0, .int .i64 0]), 2, 16) := by kernel_rfl
theorem made_cells (n : Nat) (G : Gr) (c : List Int) : (madeCells (Value.agg #[.int .i64 0, .int .i64 0]).cells (n * 2)).toList = ceCs (G.cellsTo c n 0) := by
  have e : G.cellsTo c n 0 = List.replicate n (0, 0) := by
    apply List.ext_getElem
    · simp [Gr.cellsTo]
    · intro i h1 h2; simp [Gr.cellsTo]
  rw [e]
  have hl : (ceCs (List.replicate n ((0 : Int), (0 : Int)))).length = n * 2 := by
    have := rows_len ceC ceC_len (List.replicate n ((0 : Int), (0 : Int)))
    simpa [ceCs] using this
  apply List.ext_getElem?
  intro j
  by_cases hj : j < n * 2
  · have h1 : (ceCs (List.replicate n ((0 : Int), (0 : Int))))[j / 2 * 2 + j % 2]? = (ceC (0, 0))[j % 2]? := rows_get ceC ceC_len _ (j / 2) (j % 2) (0, 0) (by rw [List.getElem?_replicate, if_pos (by omega)]) (Nat.mod_lt _ (by omega))
    rw [show j / 2 * 2 + j % 2 = j by omega] at h1
    rw [h1]
    have h2 : j % 2 = 0 ∨ j % 2 = 1 := by omega
    simp only [madeCells, Array.toList_map, Array.toList_range, List.getElem?_map, List.getElem?_range hj, Option.map_some]
    rcases h2 with h2 | h2 <;> simp [Value.cells, h2, ceC]
  · rw [List.getElem?_eq_none (by simp [madeCells]; omega), List.getElem?_eq_none (by omega)]
theorem goals_ints {gl : List Int} (h : ∀ x ∈ gl, 0 ≤ x) : gC (goalsOf gl) = gl.map (Value.int .i64) := by
  unfold gC goalsOf
  rw [List.map_map]
  apply List.map_congr_left
  intro x hx
  have := h x hx
  simp only [Function.comp]
  congr 1
  omega
/-- What a field must be. -/
structure FOk (G : Gr) (gl c : List Int) : Prop where
  ok : G.Ok
  least : Least G (goalsOf gl) c
  pos : 1 ≤ gl.length
  le : gl.length ≤ 8
  ins : ∀ x ∈ gl, 0 ≤ x ∧ x < G.fs.length
theorem FOk.bound {G : Gr} {gl c : List Int} (h : FOk G gl c) (hb : ∀ t, cAt c t ≤ 14 * G.fs.length) (t : Nat) : -1 ≤ cAt c t ∧ cAt c t ≤ 20000 := by
  have h1 := h.least.low t
  have h2 := hb t
  have h3 := h.ok.max
  omega
abbrev openL (f : Nat) (x : Shape) (G : Gr) (gl : List Int) (l : List (Int × Int)) (L : List Res) : List Res :=
  Blk f (fldC x.p x.g gl.length x.gc x.cv) 89 :: gndR 92 x.p G :: numR x.g gl.length x.gc gl :: cellR x.cv l :: L
section
variable {w0 w : World} {L : List Res} {f : Nat} {G : Gr} {gl c : List Int}
set_option maxRecDepth 100000 in
set_option maxHeartbeats 8000000 in
theorem reckon_any (X : Star w0 w (fldR f G gl c :: L)) (hF : FOk G gl c) :
    Calls Tryd.prog 49 #[.pointer (some ⟨f, 0, none⟩)] w fun r w' => ∃ x : Shape, r = .returned x.cv ∧ Star w0 w' (openL f x G gl (G.cells c G.fs.length) L) := by
  obtain ⟨i0, hi0, hz0, hz1, hz2⟩ := info_parts infoC
  obtain ⟨x, hxb, hY⟩ := fldR.open X
  have HF := hid hF
  have hN := hF.ok.max
  have hb := (hY.blk 0 rfl).1
  have d0 := cell_of hb 0
  have d1 := cell_of hb 1
  have d2 := cell_of hb 2
  have dl := lt_of hb
  have df := free_of hb 2
  simp only [List.getElem?_toArray, List.getElem?_cons_zero, List.getElem?_cons_succ] at d0 d1 d2
  obtain ⟨n, hn⟩ : ∃ n, n = G.fs.length := ⟨_, rfl⟩
  have HN := hid hn
  rw [← hn] at hY hN ⊢
  obtain ⟨p, g, gc, cv, b⟩ := x
  dsimp only at hxb hY d0 d1 d2
  have Y := hid hY
  clear X hF hb hn
  cases b with
  | true =>
    have hrow := (Y.out.row 3 rfl).1
    simp only [if_true] at hrow
    obtain ⟨cg, cc, rfl⟩ := own_shape hrow (by rw [Gr.cells_len]; omega)
    have Z : Hid (Star w0 w (openL f ⟨p, g, gc, .slice (some ⟨cg, 0, none⟩) (G.cells c n).length cc, true⟩ G gl (G.cells c n) L)) := Y
    have hs1 := fun wx => Lib.run_eql_slice_nil (P := Tryd.prog) wx 38 41 (some ⟨cg, 0, none⟩) (G.cells c n).length cc 0 0 Tryd.underlying38
    clear hrow Y hY hxb
    go_enter Tryd.func49, Tryd.ntmps49
    go_wp2
    go_ret
    exact ⟨_, rfl, Z.out⟩
  | false =>
    have hcv : cv = .slice none 0 0 := by rcases hxb with h | h; cases h; exact h
    subst hcv
    have hs1 := fun wx => Lib.run_eql_slice_nil (P := Tryd.prog) wx 38 41 none 0 0 0 0 Tryd.underlying38
    have Z := hid (((Y.out.pull 3 rfl).drop))
    clear hxb Y hY
    go_enter Tryd.func49, Tryd.ntmps49
    go_wp2
    obtain ⟨pg, pc, hG, -⟩ := gnd_at Z.out 1 rfl
    have HG := hid hG
    have hgr := (Z.out.row 2 rfl).1
    have HGR := hid (show Reads w.drew (.slice (some ⟨g, 0, none⟩) gl.length gc) (goalsOf gl).length 1 (gC (goalsOf gl)) by
      rw [goals_ints (fun x hx => (HF.out.ins x hx).1)]
      unfold goalsOf
      rw [List.length_map]
      exact (Reads.of_own hgr).same ((Chg.refl _).drew))
    clear hG hgr
    go_region_held3 (fun w' => w'.cell? ⟨f, 0, none⟩ = some (.pointer (some ⟨p, 0, none⟩)) ∧ w'.cell? ⟨f, 1, none⟩ = some (.slice (some ⟨g, 0, none⟩) gl.length gc)) (go_keep) ((go_at_call 74; refine (costs_ok (HG.out.same ((Chg.refl _).drew)) (goalsOf gl) _ HGR.out (by unfold goalsOf; rw [List.length_map]; exact HF.out.pos) (by unfold goalsOf; rw [List.length_map]; exact HF.out.le) (by intro t ht; unfold goalsOf at ht; obtain ⟨x, hx, rfl⟩ := List.mem_map.1 ht; have := HF.out.ins x hx; omega)).mono ?_; rintro r w1 ⟨c', cg, cc, rfl, hL', hT', hX1⟩; obtain rfl := hL'.unique HF.out.least; have HT := hid hT'; have k0 := (hX1.same.after' ((Chg.refl w).drew)).keep d0; have k1 := (hX1.same.after' ((Chg.refl w).drew)).keep d1; have Z1 := hid (((Z.out.go ((Chg.refl _).drew)).lift hX1)); rw [← HN.out] at Z1 ⊢; clear hX1 hL' hT'))
    all_goals
      have Z2 : Hid (Star w0 w1 (costR cg n cc c' :: Blk f (fldC p g gl.length gc (.slice none 0 0)) 89 :: gndR 92 p G :: numR g gl.length gc gl :: L)) := Z1
      clear Z1 Z hs1 d0 d1 d2 df dl HG HGR
      have k2 := cell_of (Z2.out.blk 1 rfl).1 2
      have kl := lt_of (Z2.out.blk 1 rfl).1
      simp only [List.getElem?_toArray, List.getElem?_cons_zero, List.getElem?_cons_succ] at k2
      have hby : i0.bytes * n ≤ 281474976710656 := by rw [hz2]; omega
      go_wp2_with (at_make; refine wpList_make_full _ rfl _ _ 38 rfl 0 41 i0 (.agg #[.int .i64 0, .int .i64 0]) 2 Tryd.underlying38 hi0 hz0 hz1 _ _ _ _ n rfl rfl rfl rfl hby (by unfold maxLen; omega) (Nat.zero_le _) ?_; intro wc hoc hgc; have XC := hid (Z2.out.add (w' := wc) ((Chg.refl _).grown hgc (fun k e _ => by cases e)) (R := Row 41 2 (.slice (some ⟨w1.heap.size, 0, none⟩) n n) n (ceCs (G.cellsTo c' n 0))) ⟨by rw [made_cells n G c'] at hoc; exact hoc, rfl⟩ (fun k h => by have h' := Option.some.inj h; rw [← h']; exact Nat.le_refl _)); clear hoc hgc; have k0 := cell_of (XC.out.blk 2 rfl).1 0; have k1 := cell_of (XC.out.blk 2 rfl).1 1; have k2 := cell_of (XC.out.blk 2 rfl).1 2; have kf := free_of (XC.out.blk 2 rfl).1 2; have kl := lt_of (XC.out.blk 2 rfl).1; simp only [List.getElem?_toArray, List.getElem?_cons_zero, List.getElem?_cons_succ] at k0 k1 k2)
      have XD := hid ((((XC.out.put 2 rfl 2 (.slice (some ⟨w1.heap.size, 0, none⟩) n n)).pull 1 rfl).pull 1 rfl))
      have XM : Hid (Star w0 (wc.setCell ⟨f, 2, none⟩ (.slice (some ⟨w1.heap.size, 0, none⟩) n n)) (Row 41 2 (.slice (some ⟨w1.heap.size, 0, none⟩) n n) n (ceCs (G.cellsTo c' n 0)) :: Blk f (fldC p g gl.length gc (.slice (some ⟨w1.heap.size, 0, none⟩) n n)) 89 :: costR cg n cc c' :: gndR 92 p G :: numR g gl.length gc gl :: L)) := hid (((XC.out.put 2 rfl 2 (.slice (some ⟨w1.heap.size, 0, none⟩) n n)).pull 2 rfl).swap)
      clear XD XC Z2 k0 k1 k2 kf kl hby
      generalize wc.setCell _ _ = w2 at *
      generalize w1.heap.size = gv at *
      clear k0 k1 k2 kl
      go_loopw [6, 40] (fun _ iv wr => ∃ k : Nat, k ≤ n ∧ iv = .int .i64 k ∧ Star w0 wr (Row 41 2 (.slice (some ⟨gv, 0, none⟩) n n) n (ceCs (G.cellsTo c' n k)) :: Blk f (fldC p g gl.length gc (.slice (some ⟨gv, 0, none⟩) n n)) 89 :: costR cg n cc c' :: gndR 92 p G :: numR g gl.length gc gl :: L)) (fun _ iv _ => n - (intOf iv).toNat)
      case atStart => exact ⟨0, by omega, rfl, XM.out⟩
      case round =>
        obtain ⟨k, hk, rfl, hX⟩ := hrel
        have X := hid hX
        clear XM hX
        by_cases hkn : k < n
        · have hb := (X.out.blk 1 rfl).1
          have d0 := cell_of hb 0
          have d2 := cell_of hb 2
          have dl := lt_of hb
          simp only [List.getElem?_toArray, List.getElem?_cons_zero, List.getElem?_cons_succ] at d0 d2
          have hclen : c'.length = n := by rw [HN.out]; exact HF.out.least.len
          have hrc := (X.out.row 2 rfl).1
          have g0 : wr.cell? ⟨cg, k, none⟩ = some (.int .i64 (cAt c' k)) := (hrc.cellAt k (by omega)).trans (by rw [List.getElem?_map, cAt_get (by omega)]; rfl)
          have gcl := (hrc.lt cg rfl).2
          have hrv := (X.out.row 0 rfl).1
          have vl := (hrv.lt gv rfl).2
          have v0 := hrv.frozenAt (k * 2)
          have v1 := hrv.frozenAt (k * 2 + 1)
          have e0 : wr.cell? ⟨gv, k * 2, none⟩ = some (.int .i64 0) := (hrv.cellAt (k * 2) (by omega)).trans ((rows_get ceC ceC_len _ k 0 (0, 0) (Gr.cellsTo_get hkn) (by omega)).trans rfl)
          have e1 : wr.cell? ⟨gv, k * 2 + 1, none⟩ = some (.int .i64 0) := (hrv.cellAt (k * 2 + 1) (by omega)).trans ((rows_get ceC ceC_len _ k 1 (0, 0) (Gr.cellsTo_get hkn) (by omega)).trans rfl)
          obtain ⟨pg, pc, hG, -⟩ := gnd_at X.out 3 rfl
          obtain ⟨n1, n2⟩ := X.out.neRB 0 1 rfl rfl (by omega)
          clear hb hrc hrv hG hclen
          go_wp2_with fail
          have XA : Hid (Star w0 ((wr.setCell ⟨gv, k * 2, none⟩ (.int .i64 (cAt c' k))).setCell ⟨gv, k * 2 + 1, none⟩ (.int .i64 (-1))) (Row 41 2 (.slice (some ⟨gv, 0, none⟩) n n) n (ceCs ((G.cellsTo c' n k).set k (cAt c' k, -1))) :: Blk f (fldC p g gl.length gc (.slice (some ⟨gv, 0, none⟩) n n)) 89 :: costR cg n cc c' :: gndR 92 p G :: numR g gl.length gc gl :: L)) := hid (by
            have h := (X.out.store 0 rfl (k * 2) (.int .i64 (cAt c' k))).store 0 rfl (k * 2 + 1) (.int .i64 (-1))
            have e2 := rows_set1 ceC ceC_len (G.cellsTo c' n k) k 0 (0, 0) (cAt c' k, 0) (.int .i64 (cAt c' k)) (Gr.cellsTo_get hkn) (by omega) rfl
            rw [Nat.add_zero] at e2
            have e3 := rows_set1 ceC ceC_len ((G.cellsTo c' n k).set k (cAt c' k, 0)) k 1 (cAt c' k, 0) (cAt c' k, -1) (.int .i64 (-1)) (by rw [List.getElem?_set_self (by rw [Gr.cellsTo_len]; exact hkn)]) (by omega) rfl
            rw [List.set_set] at e3
            unfold ceCs at h ⊢
            rw [e2, e3] at h
            exact h)
          obtain ⟨pg, pc, hG, -⟩ := gnd_at XA.out 3 rfl
          refine (around_any hG _).mono ?_
          rintro r w5 ⟨v5, rfl, hY⟩
          rw [Gr.aroundI_nat] at hY
          have hl8 : (G.around k).length ≤ 8 := by rw [← Gr.aroundI_nat]; exact Gr.aroundTo_len _ _ _
          obtain ⟨l, hl⟩ : ∃ l, l = G.around k := ⟨_, rfl⟩
          have HL := hid hl
          rw [← hl] at hY hl8
          obtain ⟨va, vc, rfl, -⟩ := own_slice (hY.row 0 rfl).1
          have X2 : Hid (Star w0 w5 (Row 47 3 (.slice va l.length vc) l.length (stCs l) :: Row 41 2 (.slice (some ⟨gv, 0, none⟩) n n) n (ceCs ((G.cellsTo c' n k).set k (cAt c' k, -1))) :: Blk f (fldC p g gl.length gc (.slice (some ⟨gv, 0, none⟩) n n)) 89 :: costR cg n cc c' :: gndR 92 p G :: numR g gl.length gc gl :: L)) := hid (XA.out.lift hY)
          clear hY hl X hG XA d0 d2 dl g0 gcl vl v0 v1 e0 e1
          go_wp2_with fail
          go_loopw [8, 60] (fun _ iv wr => ∃ j : Nat, j ≤ l.length ∧ iv = .int .i64 j ∧ (∀ y ∈ l.take j, Gr.dirB c' k y = false) ∧ Star w0 wr (Row 47 3 (.slice va l.length vc) l.length (stCs l) :: Row 41 2 (.slice (some ⟨gv, 0, none⟩) n n) n (ceCs ((G.cellsTo c' n k).set k (cAt c' k, -1))) :: Blk f (fldC p g gl.length gc (.slice (some ⟨gv, 0, none⟩) n n)) 89 :: costR cg n cc c' :: gndR 92 p G :: numR g gl.length gc gl :: L)) (fun _ iv _ => l.length - (intOf iv).toNat)
          case atStart => exact ⟨0, by omega, rfl, by simp, X2.out⟩
          case round =>
            obtain ⟨j, hj, rfl, hno, hX⟩ := hrel
            have X := hid hX
            have HNO := hid hno
            clear hX hno X2
            by_cases hjl : j < l.length
            · obtain ⟨s1, hs1⟩ : ∃ s, l[j]? = some s := ⟨_, List.getElem?_eq_getElem hjl⟩
              have hrow := (X.out.row 0 rfl).1
              obtain ⟨gs3, cs3, e3⟩ := own_shape hrow (by omega)
              cases e3
              have g0 : wr.cell? ⟨gs3, j * 3, none⟩ = some (.int .i64 s1.d) := (hrow.cellAt (j * 3) (by omega)).trans ((rows_get stC stC_len l j 0 s1 hs1 (by omega)).trans rfl)
              have g1 : wr.cell? ⟨gs3, j * 3 + 1, none⟩ = some (.int .i64 s1.to) := (hrow.cellAt (j * 3 + 1) (by omega)).trans ((rows_get stC stC_len l j 1 s1 hs1 (by omega)).trans rfl)
              have g2 : wr.cell? ⟨gs3, j * 3 + 2, none⟩ = some (.int .i64 s1.c) := (hrow.cellAt (j * 3 + 2) (by omega)).trans ((rows_get stC stC_len l j 2 s1 hs1 (by omega)).trans rfl)
              have gsl := (hrow.lt gs3 rfl).2
              have hmem : s1 ∈ G.around k := by rw [← HL.out]; exact List.mem_of_getElem? hs1
              have hpos := Gr.go_pos (Gr.mem_around.1 hmem)
              have hto : s1.to < n := by
                have := Gr.free_in (Gr.go_end HF.out.ok (Gr.mem_around.1 hmem)).1
                rwa [← HN.out] at this
              have HSJ := hid (show (G.around k)[j]? = some s1 by rw [← HL.out]; exact hs1)
              have HTK := hid (show l.take (j + 1) = l.take j ++ [s1] by
                obtain ⟨h1, h2⟩ := List.getElem?_eq_some_iff.1 hs1
                rw [List.take_succ_eq_append_getElem h1, h2])
              obtain ⟨sd, sto, sc⟩ := s1
              dsimp only at g0 g1 g2 hpos hto
              have hclen : c'.length = n := by rw [HN.out]; exact HF.out.least.len
              have hrc := (X.out.row 3 rfl).1
              have h0 : wr.cell? ⟨cg, sto, none⟩ = some (.int .i64 (cAt c' sto)) := (hrc.cellAt sto (by omega)).trans (by rw [List.getElem?_map, cAt_get (by omega)]; rfl)
              have gcl := (hrc.lt cg rfl).2
              have hbd := HF.out.bound HT.out k
              have hw1 : IntKind.i64.wrap (cAt c' k - sc) = cAt c' k - sc := IntWalk.i64_in _ (by omega)
              have hnb : Gr.dirB c' k ⟨sd, sto, sc⟩ = (decide (0 < cAt c' k) && decide (cAt c' sto = cAt c' k - sc)) := rfl
              have HNB := hid hnb
              have hb := (X.out.blk 2 rfl).1
              have d2 := cell_of hb 2
              have dl := lt_of hb
              simp only [List.getElem?_toArray, List.getElem?_cons_zero, List.getElem?_cons_succ] at d2
              have hrv := (X.out.row 1 rfl).1
              have vl := (hrv.lt gv rfl).2
              have v1 := hrv.frozenAt (k * 2 + 1)
              have hk0 : ((G.cellsTo c' n k).set k (cAt c' k, (-1 : Int)))[k]? = some (cAt c' k, -1) := by rw [List.getElem?_set_self (by rw [Gr.cellsTo_len]; exact hkn)]
              have e1 : wr.cell? ⟨gv, k * 2 + 1, none⟩ = some (.int .i64 (-1)) := (hrv.cellAt (k * 2 + 1) (by omega)).trans ((rows_get ceC ceC_len _ k 1 _ hk0 (by omega)).trans rfl)
              obtain ⟨n1, n2⟩ := X.out.neRB 1 2 rfl rfl (by omega)
              have HK0 := hid hk0
              clear hrow hs1 hmem hnb hrc hb hrv hk0 hbd hclen
              by_cases h1 : 0 < cAt c' k
              · by_cases h2 : cAt c' sto = cAt c' k - sc
                · have h2' : (cAt c' sto == cAt c' k - sc) = true := by simpa using h2
                  have HD := hid (dirOf_at HSJ.out (by rw [← HL.out]; exact HNO.out) (by rw [HNB.out, decide_eq_true h1, decide_eq_true h2]; rfl))
                  have XP := hid (X.out.alloc #[.int .i64 sd, .int .i64 sto, .int .i64 sc] 47)
                  clear h2
                  go_wp2
                  go_quiet (fail)
                  have XB := hid (XP.out.go ((Chg.refl _).drewN nq))
                  clear XP X g0 g1 g2 gsl h0 gcl d2 dl vl v1 e1
                  generalize (wr.alloc _).drewN nq = w6 at *
                  generalize wr.heap.size = q at *
                  have hbq := (XB.out.blk 0 rfl).1
                  have q0 := cell_of hbq 0
                  have ql := lt_of hbq
                  have hb := (XB.out.blk 3 rfl).1
                  have d2 := cell_of hb 2
                  have dl := lt_of hb
                  simp only [List.getElem?_toArray, List.getElem?_cons_zero, List.getElem?_cons_succ] at q0 d2
                  have hrv := (XB.out.row 2 rfl).1
                  have vl := (hrv.lt gv rfl).2
                  have v1 := hrv.frozenAt (k * 2 + 1)
                  have e1 : w6.cell? ⟨gv, k * 2 + 1, none⟩ = some (.int .i64 (-1)) := (hrv.cellAt (k * 2 + 1) (by omega)).trans ((rows_get ceC ceC_len _ k 1 _ HK0.out (by omega)).trans rfl)
                  clear hbq hb hrv
                  go_wp2_with fail
                  go_region
                  go_wp2
                  go_roundw
                  case rel =>
                    refine ⟨k + 1, by omega, by go_num, ?_⟩
                    have e3 := rows_set1 ceC ceC_len ((G.cellsTo c' n k).set k (cAt c' k, -1)) k 1 (cAt c' k, -1) (cAt c' k, G.dirOf c' k) (.int .i64 sd) HK0.out (by omega) (by rw [HD.out]; rfl)
                    rw [List.set_set, Gr.cellsTo_set] at e3
                    have h := ((XB.out.go ((Chg.refl _).drew)).store 2 rfl (k * 2 + 1) (.int .i64 sd)).drop.drop
                    unfold ceCs at h
                    rw [e3] at h
                    exact h
                  case measure => simp [intOf]; omega
                · have h2' : (cAt c' sto == cAt c' k - sc) = false := by simpa using h2
                  have HN1 := hid (show Gr.dirB c' k ⟨sd, sto, sc⟩ = false by rw [HNB.out, decide_eq_false h2, Bool.and_false])
                  clear h2
                  go_wp2
                  go_quiet (fail)
                  go_wp2
                  go_roundw
                  case rel =>
                    refine ⟨j + 1, by omega, by go_num, fun y hy => ?_, X.out.go (((Chg.refl _).alloc _).drewN _)⟩
                    rw [HTK.out, List.mem_append] at hy
                    rcases hy with hy | hy
                    · exact HNO.out y hy
                    · simp only [List.mem_singleton] at hy
                      subst hy
                      exact HN1.out
                  case measure => simp [intOf]; omega
              · have HN1 := hid (show Gr.dirB c' k ⟨sd, sto, sc⟩ = false by rw [HNB.out, decide_eq_false h1, Bool.false_and])
                have hd : decide (0 < cAt c' k) = false := decide_eq_false h1
                go_wp2
                go_quiet (fail)
                go_wp2
                go_roundw
                case rel =>
                  refine ⟨j + 1, by omega, by go_num, fun y hy => ?_, X.out.go (((Chg.refl _).alloc _).drewN _)⟩
                  rw [HTK.out, List.mem_append] at hy
                  rcases hy with hy | hy
                  · exact HNO.out y hy
                  · simp only [List.mem_singleton] at hy
                    subst hy
                    exact HN1.out
                case measure => simp [intOf]; omega
            · have HD := hid (dirOf_none (fun s hs => HNO.out s (by rw [List.take_of_length_le (by omega), HL.out]; exact hs)))
              go_wp2
              go_roundw
              case rel =>
                refine ⟨k + 1, by omega, by go_num, ?_⟩
                have h := X.out.drop
                rw [show ((cAt c' k, (-1 : Int))) = (cAt c' k, G.dirOf c' k) by rw [HD.out], Gr.cellsTo_set] at h
                exact h
              case measure => simp [intOf]; omega
        · obtain rfl : k = n := by omega
          have hb := (X.out.blk 1 rfl).1
          have d2 := cell_of hb 2
          have dl := lt_of hb
          simp only [List.getElem?_toArray, List.getElem?_cons_zero, List.getElem?_cons_succ] at d2
          clear hb
          go_wp2
          go_ret
          refine ⟨⟨p, g, gc, .slice (some ⟨gv, 0, none⟩) k k, true⟩, rfl, ?_⟩
          have h := ((((X.out.pull 2 rfl).drop).pull 3 rfl).pull 3 rfl).pull 3 rfl
          rw [Gr.cellsTo_all] at h
          have e := Gr.cells_len G c' k
          unfold openL cellR
          rw [e]
          exact h
end
end Go.Proofs.YtilobedihjkpjaaDoor.Fld
