/-
  A field's numbers in a row.
-/
import Derived.Test.YtilobedihjkpjaaDoorProg
import Derived.Test.YtilobedihjkpjaaDoorStar
import Derived.Test.YtilobedihjkpjaaDoorFieldReckon
import Derived.Test.YtilobedihjkpjaaDoorCloneI
namespace Go.Proofs.YtilobedihjkpjaaDoor.CloneC
open Go Go.RowKit

theorem info : (Tryd.prog.info? 41).map (fun i => (i.zero, i.size, i.bytes)) = some (some (.agg #[.int .i64 0, .int .i64 0]), 2, 16) := by kernel_rfl
set_option maxRecDepth 100000 in
theorem clone_any (v : Value) (n : Nat) (ys : List Value) (w : World) (hr : Reads w v n 2 ys) (h1y : ∀ u ∈ ys, u.oneCell' = true) (hn : n ≤ 8000000000000) :
    Calls Tryd.prog 48 #[v] w fun r w' => ∃ v', r = .returned v' ∧ Fresh w w' 41 2 v' n ys ∧ Same w w' := by
  obtain ⟨i0, hi, hz0, hz1, hz2⟩ := info_parts info
  obtain ⟨ad, c, rfl⟩ := hr.slice
  have hs1 := fun wx => Lib.run_eql_slice_nil (P := Tryd.prog) wx 38 41 ad n c 0 0 Tryd.underlying38
  have HR := hid hr
  clear hr
  cases ad with
  | none =>
    obtain ⟨_, _, he, hl, hnn, _⟩ := HR.out
    cases he
    obtain ⟨rfl, rfl⟩ := hnn rfl
    have hys : ys = [] := List.eq_nil_of_length_eq_zero (by simpa using hl)
    subst hys
    go_enter Tryd.func48, Tryd.ntmps48
    go_wp2
    go_ret
    exact ⟨_, rfl, ⟨World.ownsRow_nil _ _ _ _, by simp [Value.ownBlock]⟩, Chg.refl _⟩
  | some ad =>
    go_enter Tryd.func48, Tryd.ntmps48
    go_wp2_with (at_builtin; refine wpList_app rfl _ _ 38 rfl 41 i0 (.agg #[.int .i64 0, .int .i64 0]) 2 16 Tryd.underlying38 hi hz0 hz1 hz2 rfl (by decide) _ 0 [] rfl (World.ownsRow_lit w #[] 0 (Nat.zero_le _) (by unfold maxLen; omega) rfl) (some ad) n c ys rfl (HR.out.same ((Chg.refl _).alloc _)) h1y (by omega) (by omega) ?_)
    intro a' c' w1 hown hg hv
    have hch : Same w w1 := ((Chg.refl w).alloc (.cells #[] 41)).grown hg (fun k e hk => by simp [Value.ownBlock] at e; omega)
    have hnew : ∀ k, (Value.slice a' n c').ownBlock = some k → w.heap.size ≤ k := by
      intro k hk
      rcases hv with hv | hv
      · rw [hv] at hk; simp [Value.ownBlock] at hk; omega
      · have := hv k hk; simp at this; omega
    have H1 := hid hown
    have H2 := hid hch
    have H3 := hid hnew
    clear hown hch hnew hg hv
    go_wp2
    go_ret
    exact ⟨_, rfl, ⟨H1.out, H3.out⟩, H2.out⟩
end Go.Proofs.YtilobedihjkpjaaDoor.CloneC
namespace Go.Proofs.YtilobedihjkpjaaDoor.Fld
open Go Go.RowKit Go.Proofs.YtilobedihjkpjaaDoor.Steps Go.Proofs.YtilobedihjkpjaaDoor.Ord Go.Proofs.YtilobedihjkpjaaDoor.Route
theorem ceCs_one (l : List (Int × Int)) : ∀ u ∈ ceCs l, u.oneCell' = true := by
  intro u hu
  obtain ⟨p, _, hp⟩ := List.mem_flatMap.1 hu
  exact ceC_one p u hp
theorem nums_one (l : List Int) : ∀ u ∈ l.map (Value.int .i64), u.oneCell' = true := by
  intro u hu
  obtain ⟨p, _, rfl⟩ := List.mem_map.1 hu
  rfl
/-- Costs and directions, by turns. -/
def flatI (l : List (Int × Int)) : List Int := l.flatMap fun p => [p.1, p.2]
theorem cellSize (a b : Int) : (Tryd.prog.info? 41).map (·.size) = some (#[Value.int .i64 a, Value.int .i64 b] : Array Value).size := by kernel_rfl
section
variable {w0 w : World} {L : List Res} {f : Nat} {G : Gr} {gl c : List Int}
theorem openL.shut {x : Shape} (hb : G.fs.length ≥ 1) (X : Star w0 w (openL f x G gl (G.cells c G.fs.length) L)) : Star w0 w (fldR f G gl c :: L) := by
  obtain ⟨p, g, gc, cv, b⟩ := x
  exact fldR.close ⟨p, g, gc, cv, true⟩ (.inl rfl) X
set_option maxRecDepth 100000 in
set_option maxHeartbeats 4000000 in
theorem cells_any (X : Star w0 w (fldR f G gl c :: L)) (hF : FOk G gl c) :
    Calls Tryd.prog 12 #[.pointer (some ⟨f, 0, none⟩)] w fun r w' => ∃ v, r = .returned v ∧ Star w0 w' (cellR v (G.cells c G.fs.length) :: fldR f G gl c :: L) := by
  have X0 := hid X
  have HF := hid hF
  clear X hF
  go_enter Tryd.func12, Tryd.ntmps12
  go_wp2_with fail
  refine (reckon_any X0.out HF.out).mono ?_
  rintro r w1 ⟨x, rfl, hX⟩
  have X1 := hid hX
  clear hX X0
  go_wp2_with fail
  refine (CloneC.clone_any _ _ _ _ (Reads.of_own (X1.out.row 3 rfl).1) (ceCs_one _) (by have := HF.out.ok.max; rw [Gr.cells_len]; omega)).mono ?_
  rintro r w2 ⟨v, rfl, hf, hs⟩
  have X2 : Hid (Star w0 w2 (cellR v (G.cells c G.fs.length) :: fldR f G gl c :: L)) := hid (((openL.shut HF.out.ok.max.2 (X1.out)).fresh hf hs))
  clear hf hs X1
  go_wp2
  go_ret
  exact ⟨_, rfl, X2.out⟩
set_option maxRecDepth 100000 in
set_option maxHeartbeats 4000000 in
theorem goals_any (X : Star w0 w (fldR f G gl c :: L)) (hF : FOk G gl c) :
    Calls Tryd.prog 31 #[.pointer (some ⟨f, 0, none⟩)] w fun r w' => ∃ v, r = .returned v ∧ Star w0 w' (Row 3 1 v gl.length (gl.map (Value.int .i64)) :: fldR f G gl c :: L) := by
  obtain ⟨x, hxb, hY⟩ := fldR.open X
  have hb := (hY.blk 0 rfl).1
  have d0 := cell_of hb 0
  have d1 := cell_of hb 1
  have dl := lt_of hb
  simp only [List.getElem?_toArray, List.getElem?_cons_zero, List.getElem?_cons_succ] at d0 d1
  have X0 := hid X
  have Y0 := hid hY
  have HF := hid hF
  clear X hF hY hb
  go_enter Tryd.func31, Tryd.ntmps31
  go_wp2_with fail
  refine (CloneI.clone_any _ _ _ _ (Reads.of_own (Y0.out.row 2 rfl).1) (nums_one _) (by have := HF.out.le; omega)).mono ?_
  rintro r w2 ⟨v, rfl, hf, hs⟩
  have X2 := hid (X0.out.fresh hf hs)
  clear hf hs
  go_wp2
  go_ret
  exact ⟨_, rfl, X2.out⟩
theorem sw {R S : Res} (X : Star w0 w (R :: S :: L)) : Star w0 w (S :: R :: L) := X.swap
set_option maxRecDepth 100000 in
set_option maxHeartbeats 4000000 in
theorem cell_out (X : Star w0 w (fldR f G gl c :: L)) (hF : FOk G gl c) (t : Int) (ht : t < 0 ∨ (G.fs.length : Int) ≤ t) (e : Value) (he : w0.cell? ⟨1, 0, none⟩ = some e) :
    Calls Tryd.prog 54 #[.pointer (some ⟨f, 0, none⟩), .int .i64 t] w fun r w' => r = .returned (.tuple #[.agg #[.int .i64 0, .int .i64 0], e]) ∧ Star w0 w' (fldR f G gl c :: L) := by
  have HF := hid hF
  have HE := hid he
  have X0 := hid (X.alloc #[.int .i64 0, .int .i64 0] 41).swap
  clear X hF he
  go_enter Tryd.func54, Tryd.ntmps54
  go_wp2_with fail
  generalize w.heap.size = q at *
  refine (reckon_any X0.out HF.out).mono ?_
  rintro r w1 ⟨x, rfl, hX⟩
  obtain ⟨xp, xg, xgc, xcv, xb⟩ := x
  have hrow := (hX.row 3 rfl).1
  obtain ⟨va, vc, hv, -⟩ := own_slice hrow
  rw [Gr.cells_len] at hv
  dsimp only at hv
  subst hv
  have X1 : Hid (Star w0 w1 (Blk q #[.int .i64 0, .int .i64 0] 41 :: fldR f G gl c :: L)) := hid (openL.shut HF.out.ok.max.2 hX).swap
  have hE := X1.out.same.keep HE.out
  have hEl := World.block_lt_of_cell? _ _ hE
  have hb := (X1.out.blk 0 rfl).1
  have q0 := cell_of hb 0
  have q1 := cell_of hb 1
  have qf0 := free_of hb 0
  have qf1 := free_of hb 1
  have ql := lt_of hb
  simp only [List.getElem?_toArray, List.getElem?_cons_zero, List.getElem?_cons_succ] at q0 q1
  have hq2 := (X1.out.blk 0 rfl).2
  have hg0 : 1 < w0.heap.size := World.block_lt_of_cell? _ _ HE.out
  have ne1 : ¬ q = 1 := by intro e; omega
  have ne2 : ¬ 1 = q := by intro e; omega
  clear hX hrow hb
  have X8 := hid ((((X1.out.go ((Chg.refl _).drew)).put 0 rfl 0 (.int .i64 0)).put 0 rfl 1 (.int .i64 0)))
  by_cases h0 : t < 0
  · go_wp2_with fail
    go_region
    all_goals
      go_wp2
      refine bodyPost_ret (v := .tuple #[.agg #[.int .i64 0, .int .i64 0], e]) (results_cell_tmp Tryd.results54 _ _ q _ _ _ _ rfl (X8.out.blk 0 rfl).1 Tryd.underlying41 rfl (cellSize _ _) _ rfl) rfl ⟨rfl, X8.out.drop⟩
  · have h1 : (G.fs.length : Int) ≤ t := by omega
    go_wp2_with fail
    go_region
    all_goals
      go_wp2
      refine bodyPost_ret (v := .tuple #[.agg #[.int .i64 0, .int .i64 0], e]) (results_cell_tmp Tryd.results54 _ _ q _ _ _ _ rfl (X8.out.blk 0 rfl).1 Tryd.underlying41 rfl (cellSize _ _) _ rfl) rfl ⟨rfl, X8.out.drop⟩
set_option maxRecDepth 100000 in
set_option maxHeartbeats 4000000 in
theorem cell_in (X : Star w0 w (fldR f G gl c :: L)) (hF : FOk G gl c) (t : Nat) (ht : t < G.fs.length) :
    Calls Tryd.prog 54 #[.pointer (some ⟨f, 0, none⟩), .int .i64 t] w fun r w' => r = .returned (.tuple #[.agg #[.int .i64 (cAt c t), .int .i64 (G.dirOf c t)], .nilIface]) ∧ ∃ x : Shape, Star w0 w' (openL f x G gl (G.cells c G.fs.length) L) := by
  have HF := hid hF
  have X0 := hid (X.alloc #[.int .i64 0, .int .i64 0] 41).swap
  clear X hF
  go_enter Tryd.func54, Tryd.ntmps54
  go_wp2_with fail
  generalize w.heap.size = q at *
  refine (reckon_any X0.out HF.out).mono ?_
  rintro r w1 ⟨x, rfl, hX⟩
  obtain ⟨xp, xg, xgc, xcv, xb⟩ := x
  have hrow := (hX.row 3 rfl).1
  obtain ⟨va, vc, hv⟩ := own_shape hrow (by rw [Gr.cells_len]; omega)
  rw [Gr.cells_len] at hv
  dsimp only at hv
  subst hv
  have X1 : Hid (Star w0 w1 (openL f ⟨xp, xg, xgc, .slice (some ⟨va, 0, none⟩) G.fs.length vc, true⟩ G gl (G.cells c G.fs.length) (Blk q #[.int .i64 0, .int .i64 0] 41 :: L))) := hid hX
  have hb := (X1.out.blk 4 rfl).1
  have q0 := cell_of hb 0
  have q1 := cell_of hb 1
  have qf0 := free_of hb 0
  have qf1 := free_of hb 1
  have ql := lt_of hb
  simp only [List.getElem?_toArray, List.getElem?_cons_zero, List.getElem?_cons_succ] at q0 q1
  rw [Gr.cells_len] at hrow
  dsimp only at hrow
  have g0 : w1.cell? ⟨va, t * 2, none⟩ = some (.int .i64 (cAt c t)) := (hrow.cellAt (t * 2) (by omega)).trans ((rows_get ceC ceC_len _ t 0 _ (Gr.cells_get G c ht) (by omega)).trans rfl)
  have g1 : w1.cell? ⟨va, t * 2 + 1, none⟩ = some (.int .i64 (G.dirOf c t)) := (hrow.cellAt (t * 2 + 1) (by omega)).trans ((rows_get ceC ceC_len _ t 1 _ (Gr.cells_get G c ht) (by omega)).trans rfl)
  have gvl := (hrow.lt va rfl).2
  have ht1 : ¬ (G.fs.length : Int) ≤ (t : Int) := by omega
  clear hX hrow hb
  have X8 := hid (((X1.out.put 4 rfl 0 (.int .i64 (cAt c t))).put 4 rfl 1 (.int .i64 (G.dirOf c t))).pull 4 rfl)
  go_wp2
  refine bodyPost_ret (v := .tuple #[.agg #[.int .i64 (cAt c t), .int .i64 (G.dirOf c t)], .nilIface]) (results_cell_tmp Tryd.results54 _ _ q _ _ _ _ rfl (X8.out.blk 0 rfl).1 Tryd.underlying41 rfl (cellSize _ _) _ rfl) rfl ⟨rfl, _, X8.out.drop⟩
end
end Go.Proofs.YtilobedihjkpjaaDoor.Fld
namespace Go.Proofs.YtilobedihjkpjaaDoor.Fld
open Go Go.RowKit Go.Proofs.YtilobedihjkpjaaDoor.Steps Go.Proofs.YtilobedihjkpjaaDoor.Ord Go.Proofs.YtilobedihjkpjaaDoor.Route
theorem flatI_len (l : List (Int × Int)) : (flatI l).length = l.length * 2 := by
  induction l with
  | nil => rfl
  | cons a l ih => simp only [flatI, List.flatMap_cons, List.length_append, List.length_cons] at ih ⊢; rw [ih]; simp; omega
theorem flatI_snoc (l : List (Int × Int)) (k : Nat) (a : Int × Int) (h : l[k]? = some a) : flatI (l.take (k + 1)) = flatI (l.take k) ++ [a.1, a.2] := by
  obtain ⟨hk, e⟩ := List.getElem?_eq_some_iff.1 h
  rw [List.take_succ_eq_append_getElem hk, e]
  simp [flatI]
section
variable {w0 w : World} {L : List Res} {f : Nat} {G : Gr} {gl c : List Int}
set_option maxRecDepth 100000 in
set_option maxHeartbeats 4000000 in
theorem flat_any (X : Star w0 w (fldR f G gl c :: L)) (hF : FOk G gl c) :
    Calls Tryd.prog 43 #[.pointer (some ⟨f, 0, none⟩)] w fun r w' => ∃ v, r = .returned v ∧ Star w0 w' (Row 3 1 v (flatI (G.cells c G.fs.length)).length ((flatI (G.cells c G.fs.length)).map (Value.int .i64)) :: fldR f G gl c :: L) := by
  obtain ⟨i0, hi0, hz0, hz1, hz2⟩ := info_parts infoInt
  have HF := hid hF
  have X0 := hid X
  have hN := hF.ok.max
  have hcl := Gr.cells_len G c G.fs.length
  obtain ⟨l, hl⟩ : ∃ l, l = G.cells c G.fs.length := ⟨_, rfl⟩
  have HL := hid hl
  rw [← hl] at hcl ⊢
  obtain ⟨n, hn⟩ : ∃ n, n = G.fs.length := ⟨_, rfl⟩
  rw [← hn] at hN hcl
  clear X hF hl hn
  go_enter Tryd.func43, Tryd.ntmps43
  go_wp2_with fail
  refine (reckon_any X0.out HF.out).mono ?_
  rintro r w1 ⟨x, rfl, hX⟩
  rw [← HL.out] at hX
  have hrow := (hX.row 3 rfl).1
  obtain ⟨va, vc, hv⟩ := own_shape hrow (by rw [hcl]; omega)
  rw [hcl] at hv
  have X1 := hid (hX.nilRow 3 1)
  rw [hv]
  clear hX hrow X0
  go_wp2_with fail
  go_loopw [3, 9] (fun ov iv wr => ∃ k : Nat, k ≤ n ∧ iv = .int .i64 k ∧ Star w0 wr (Row 3 1 ov (flatI (l.take k)).length ((flatI (l.take k)).map (Value.int .i64)) :: openL f x G gl l L)) (fun _ iv _ => n - (intOf iv).toNat)
  case atStart => exact ⟨0, by omega, rfl, X1.out⟩
  case round =>
    obtain ⟨k, hk, rfl, hX⟩ := hrel
    have X := hid hX
    clear X1 hX
    by_cases hkn : k < n
    · obtain ⟨a, ha⟩ : ∃ a, l[k]? = some a := ⟨_, List.getElem?_eq_getElem (by omega)⟩
      have hrow := (X.out.row 4 rfl).1
      rw [hv, hcl] at hrow
      have g0 : wr.cell? ⟨va, k * 2, none⟩ = some (.int .i64 a.1) := (hrow.cellAt (k * 2) (by omega)).trans ((rows_get ceC ceC_len _ k 0 _ ha (by omega)).trans rfl)
      have g1 : wr.cell? ⟨va, k * 2 + 1, none⟩ = some (.int .i64 a.2) := (hrow.cellAt (k * 2 + 1) (by omega)).trans ((rows_get ceC ceC_len _ k 1 _ ha (by omega)).trans rfl)
      have gvl := (hrow.lt va rfl).2
      have HS := hid (flatI_snoc l k a ha)
      have hfl : (flatI (l.take k)).length ≤ 4000 := by have := flatI_len (l.take k); rw [List.length_take] at this; omega
      obtain ⟨av, cv, rfl, -⟩ := own_slice (X.out.row 0 rfl).1
      obtain ⟨m, hm⟩ : ∃ m, m = (flatI (l.take k)).length := ⟨_, rfl⟩
      have HM := hid hm
      rw [← hm] at hfl X ⊢
      have XD := hid ((X.out.alloc #[.int .i64 a.1, .int .i64 a.2] 41).alloc #[.int .i64 a.1, .int .i64 a.2] 3)
      rw [World.size_alloc] at XD
      clear hrow ha X hm
      go_wp2_with (at_builtin; refine wpList_app rfl (.tmp 13) (.tmp 18) 24 rfl 3 i0 (.int .i64 0) 1 8 Tryd.underlying24 hi0 hz0 hz1 hz2 rfl (by decide) _ m ((flatI (l.take k)).map (Value.int .i64)) rfl (XD.out.row 2 rfl).1 (some ⟨wr.heap.size + 1, 0, none⟩) 2 2 [.int .i64 a.1, .int .i64 a.2] rfl (reads_blk (XD.out.blk 0 rfl).1 2 2 1 rfl) (by simp [Value.oneCell']) (by omega) (by omega) ?_; intro a5 c5 w5 ho5 hg5 hn5; have X5 := hid (XD.out.grown 2 rfl ho5 hg5 hn5).drop.drop; clear ho5 hg5 hn5)
      go_roundw
      case rel => exact ⟨k + 1, by omega, by go_num, by rw [HS.out, List.map_append, List.length_append, ← HM.out]; exact X5.out⟩
      case measure => simp [intOf]; omega
    · obtain rfl : k = n := by omega
      go_wp2
      go_ret
      have h := X.out
      rw [List.take_of_length_le (by omega)] at h
      rw [HL.out] at h ⊢
      exact ⟨_, rfl, (openL.shut HF.out.ok.max.2 ((((h.pull 4 rfl).pull 4 rfl).pull 4 rfl).pull 4 rfl)).swap⟩
end
end Go.Proofs.YtilobedihjkpjaaDoor.Fld
