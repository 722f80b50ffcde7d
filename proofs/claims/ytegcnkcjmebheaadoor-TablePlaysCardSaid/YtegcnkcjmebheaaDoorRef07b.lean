/-
  paddockref07: Take, Get.
-/
import Derived.Test.YtegcnkcjmebheaaDoorRef07a
namespace Go.Proofs.YtegcnkcjmebheaaDoor.Tab
open Go Go.RowKit Go.Maps Go.Proofs.YtegcnkcjmebheaaDoor.Mask Go.Proofs.YtegcnkcjmebheaaDoor.TableSets
theorem eset (xs : List En) (i : Nat) (x y : En) (hx : xs[i]? = some x) : (((xs.flatMap ec).set (i * 3) (.int .i64 y.h.1)).set (i * 3 + 1) (.int .i64 y.h.2)).set (i * 3 + 2) y.v = (xs.set i y).flatMap ec := by
  have hl := (List.getElem?_eq_some_iff.1 hx).1
  have e1 := rows_set1 ec ec_len xs i 0 x ⟨(y.h.1, x.h.2), x.a, x.c, x.vs⟩ (.int .i64 y.h.1) hx (by omega) rfl
  have e2 := rows_set1 ec ec_len (xs.set i ⟨(y.h.1, x.h.2), x.a, x.c, x.vs⟩) i 1 ⟨(y.h.1, x.h.2), x.a, x.c, x.vs⟩ ⟨y.h, x.a, x.c, x.vs⟩ (.int .i64 y.h.2) (by simp [hl]) (by omega) rfl
  have e3 := rows_set1 ec ec_len (xs.set i ⟨y.h, x.a, x.c, x.vs⟩) i 2 ⟨y.h, x.a, x.c, x.vs⟩ y y.v (by simp [hl]) (by omega) rfl
  rw [Nat.add_zero] at e1
  rw [e1, e2, List.set_set, e3, List.set_set]
theorem takeOut_eq2 {α : Type} (xs : List α) (i n : Nat) (y : α) (hn : xs.length = n + 1) (hy : xs[n]? = some y) : (xs.set i y).take n = takeOut xs i := by
  rw [← takeOut_eq xs i n y y hn hy, List.take_set_of_le (Nat.le_refl n)]
section
variable {w0 w : World} {L : List Res} {G : List En} {p m : Nat} {sl : Value} {es : List En}
set_option maxRecDepth 100000 in
theorem rtake_no (X : Star w0 w (rfB p m sl :: rfE sl es :: L)) (i : Int) (hi : i < 0 ∨ (es.length : Int) ≤ i) :
    Calls Tryd.prog 23 #[.pointer (some ⟨p, 0, none⟩), .int .i64 i] w fun r w' => r = .returned (.tuple #[.agg (enC 0 0 (.slice none 0 0)), .int .i64 1]) ∧ Star w0 w' (rfB p m sl :: rfE sl es :: L) := by
  have Y0 := hid ((X.alloc #[.int .i64 0, .int .i64 0, .slice none 0 0] 46).pull 1 rfl |>.pull 2 rfl |>.swap)
  have HI := hid hi
  clear X hi
  go_enter Tryd.func23, Tryd.ntmps23
  go_wp2_with fail
  refine (has_no Y0.out i HI.out).mono ?_
  rintro r w' ⟨rfl, rfl⟩
  have Y1 := hid (Y0.out.pull 2 rfl)
  generalize w.alloc _ = w1 at *
  generalize w.heap.size = q at *
  have hb := (Y1.out.blk 0 rfl).1
  have f0 := cell_of hb 0
  have f1 := cell_of hb 1
  have f2 := cell_of hb 2
  have g0 := free_of hb 0
  have g1 := free_of hb 1
  have g2 := free_of hb 2
  have fl := lt_of hb
  simp only [List.getElem?_toArray, List.getElem?_cons_zero, List.getElem?_cons_succ] at f0 f1 f2
  have Y9 := hid (((Y1.out.put 0 rfl 0 (.int .i64 0)).put 0 rfl 1 (.int .i64 0)).put 0 rfl 2 (.slice none 0 0))
  clear hb Y0 Y1
  go_wp2
  refine bodyPost_ret (v := .tuple #[.agg #[.int .i64 0, .int .i64 0, .slice none 0 0], .int .i64 1]) (results_cell_tmp Tryd.results23 _ _ q _ _ _ _ rfl (Y9.out.blk 0 rfl).1 Tryd.underlying46 rfl (enSize _ _ _) _ rfl) rfl ⟨rfl, ?_⟩
  exact Y9.out.drop
set_option maxRecDepth 100000 in
set_option maxHeartbeats 8000000 in
theorem rtake_ok (X : Star w0 w (rfB p m sl :: rfE sl es :: L)) (i : Nat) (e : En) (hi : es[i]? = some e) (hx : es.length ≤ 1000000) :
    Calls Tryd.prog 23 #[.pointer (some ⟨p, 0, none⟩), .int .i64 i] w fun r w' => ∃ sl', r = .returned (.tuple #[.agg (enC e.h.1 e.h.2 e.v), .int .i64 0]) ∧ Star w0 w' (rfB p m sl' :: rfE sl' (takeOut es i) :: L) := by
  have X0 := hid ((X.alloc #[.int .i64 0, .int .i64 0, .slice none 0 0] 46).pull 1 rfl |>.pull 2 rfl |>.swap)
  have HI := hid hi
  have hil := (List.getElem?_eq_some_iff.1 hi).1
  have HIL := hid hil
  obtain ⟨n, hn⟩ : ∃ n, es.length = n + 1 := ⟨es.length - 1, by omega⟩
  obtain ⟨y, hy⟩ : ∃ y, es[n]? = some y := ⟨es[n]'(by omega), by simp⟩
  obtain ⟨⟨x1, x2⟩, xa, xc, xv⟩ := e
  obtain ⟨⟨y1, y2⟩, ya, yc, yv⟩ := y
  obtain ⟨xl, hxl⟩ : ∃ xl, xl = xv.length := ⟨_, rfl⟩
  obtain ⟨yl, hyl⟩ : ∃ yl, yl = yv.length := ⟨_, rfl⟩
  have HXL := hid hxl
  have HYL := hid hyl
  have HN := hid hn
  have HY := hid hy
  dsimp only [En.v]
  rw [← hxl]
  clear X hi
  go_enter Tryd.func23, Tryd.ntmps23
  go_wp2_with fail
  refine (has_yes X0.out i HIL.out).mono ?_
  rintro r w' ⟨rfl, rfl⟩
  have X1 : Hid (Star w0 (w.alloc (.cells #[.int .i64 0, .int .i64 0, .slice none 0 0] 46)) (rfB p m sl :: Row 46 3 sl (n + 1) (es.flatMap ec) :: Blk w.heap.size #[.int .i64 0, .int .i64 0, .slice none 0 0] 46 :: L)) := hid (by rw [← HN.out]; exact X0.out)
  generalize w.alloc _ = w1 at *
  generalize w.heap.size = q4 at *
  obtain ⟨g, cp, rfl⟩ := own_shape (X1.out.row 1 rfl).1 (by omega)
  have hcp := own_cap (X1.out.row 1 rfl).1
  obtain ⟨e0, e1, e2, hgl⟩ := ent_cells X1.out 1 rfl HN.out.symm HI.out
  have hb := (X1.out.blk 0 rfl).1
  have b1 := cell_of hb 1
  have bl := lt_of hb
  simp only [List.getElem?_toArray, List.getElem?_cons_zero, List.getElem?_cons_succ] at b1
  dsimp only [En.v] at e0 e1 e2
  rw [← hxl] at e2
  have hin : i < n + 1 := by omega
  have hn6 : n ≤ 1000000 := by omega
  clear hb X0 hil hn hy hxl hyl hx
  go_wp2_with fail
  have X2 := hid (X1.out.alloc #[.int .i64 x1, .int .i64 x2, .slice xa xl xc] 46)
  clear e0 e1 e2 b1 hgl bl X1
  generalize w1.alloc _ = w2 at *
  generalize w1.heap.size = q6 at *
  obtain ⟨u0, u1, u2, hgl⟩ := ent_cells X2.out 2 rfl HN.out.symm HI.out
  obtain ⟨e0, e1, e2, -⟩ := ent_cells X2.out 2 rfl HN.out.symm HY.out
  have hrow := (X2.out.row 2 rfl).1
  have gf0 := hrow.frozenAt (i * 3)
  have gf1 := hrow.frozenAt (i * 3 + 1)
  have gf2 := hrow.frozenAt (i * 3 + 2)
  have hb := (X2.out.blk 1 rfl).1
  have b1 := cell_of hb 1
  have bf := free_of hb 1
  have bl := lt_of hb
  obtain ⟨m1, m1'⟩ := X2.out.neBR 1 2 rfl rfl (by omega)
  simp only [List.getElem?_toArray, List.getElem?_cons_zero, List.getElem?_cons_succ] at b1
  dsimp only [En.v] at u0 u1 u2 e0 e1 e2
  have HXL2 := HXL.out
  have HYL2 := HYL.out
  rw [← HXL2] at u2
  rw [← HYL2] at e2
  clear hb hrow HXL2 HYL2
  go_region
  have X3 : Hid (Star w0 ((((w2.setCell ⟨g, i * 3, none⟩ (.int .i64 y1)).setCell ⟨g, i * 3 + 1, none⟩ (.int .i64 y2)).setCell ⟨g, i * 3 + 2, none⟩ (.slice ya yl yc)).drew) (Blk q6 #[.int .i64 x1, .int .i64 x2, .slice xa xl xc] 46 :: rfB p m (.slice (some ⟨g, 0, none⟩) (n + 1) cp) :: Row 46 3 (.slice (some ⟨g, 0, none⟩) (n + 1) cp) (n + 1) ((es.set i ⟨(y1, y2), ya, yc, yv⟩).flatMap ec) :: Blk q4 #[.int .i64 0, .int .i64 0, .slice none 0 0] 46 :: L)) := hid (by
    have h := (((X2.out.store 2 rfl (i * 3) (.int .i64 y1)).store 2 rfl (i * 3 + 1) (.int .i64 y2)).store 2 rfl (i * 3 + 2) (.slice ya yl yc)).go (w' := ((((w2.setCell ⟨g, i * 3, none⟩ (.int .i64 y1)).setCell ⟨g, i * 3 + 1, none⟩ (.int .i64 y2)).setCell ⟨g, i * 3 + 2, none⟩ (.slice ya yl yc)).drew)) ((Chg.refl _).drew)
    have hs := eset es i _ ⟨(y1, y2), ya, yc, yv⟩ HI.out
    dsimp only [En.v] at hs
    rw [← HYL.out] at hs
    simp only [List.set_cons_succ, List.set_cons_zero] at h
    rw [hs] at h
    exact h)
  clear u0 u1 u2 hgl e0 e1 e2 gf0 gf1 gf2 b1 bf bl m1 m1' X2
  generalize ((((w2.setCell ⟨g, i * 3, none⟩ (.int .i64 y1)).setCell ⟨g, i * 3 + 1, none⟩ (.int .i64 y2)).setCell ⟨g, i * 3 + 2, none⟩ (.slice ya yl yc)).drew) = w3 at *
  obtain ⟨m1, m1'⟩ := X3.out.neBR 1 2 rfl rfl (by omega)
  have hb := (X3.out.blk 1 rfl).1
  have b1 := cell_of hb 1
  have bf := free_of hb 1
  have bl := lt_of hb
  have hb6 := (X3.out.blk 0 rfl).1
  have hb4 := (X3.out.blk 3 rfl).1
  have s0 := cell_of hb6 0
  have s1 := cell_of hb6 1
  have s2 := cell_of hb6 2
  have sl := lt_of hb6
  have r0 := cell_of hb4 0
  have r1 := cell_of hb4 1
  have r2 := cell_of hb4 2
  have t0 := free_of hb4 0
  have t1 := free_of hb4 1
  have t2 := free_of hb4 2
  have rl := lt_of hb4
  simp only [List.getElem?_toArray, List.getElem?_cons_zero, List.getElem?_cons_succ] at b1 s0 s1 s2 r0 r1 r2
  obtain ⟨m2, m2'⟩ := X3.out.neBB 0 1 rfl rfl (by omega)
  obtain ⟨m3, m3'⟩ := X3.out.neBB 0 3 rfl rfl (by omega)
  obtain ⟨m4, m4'⟩ := X3.out.neBB 1 3 rfl rfl (by omega)
  have hnc : n ≤ cp := by omega
  have Y9 := hid ((((X3.out.put 1 rfl 1 (.slice (some ⟨g, 0, none⟩) n cp)).put 3 rfl 0 (.int .i64 x1)).put 3 rfl 1 (.int .i64 x2)).put 3 rfl 2 (.slice xa xl xc))
  have YA := hid (Y9.out.pull 3 rfl)
  clear hb hb6 hb4 X3
  go_wp2
  refine bodyPost_ret (v := .tuple #[.agg #[.int .i64 x1, .int .i64 x2, .slice xa xl xc], .int .i64 0]) (results_cell_tmp Tryd.results23 _ _ q4 _ _ _ _ rfl (YA.out.blk 0 rfl).1 Tryd.underlying46 rfl (enSize _ _ _) _ rfl) rfl ⟨.slice (some ⟨g, 0, none⟩) n cp, rfl, ?_⟩
  have h2 := YA.out.drop.drop.set 1 (R' := rfE (.slice (some ⟨g, 0, none⟩) n cp) (takeOut es i)) rfl (by
    rintro F ⟨h, rfl⟩
    have h' := own_take h n (by omega)
    rw [rows_take ec ec_len, takeOut_eq2 es i n _ HN.out HY.out] at h'
    have e : (takeOut es i).length = n := by rw [takeOut_len, HN.out]; omega
    exact ⟨by rw [e]; exact h', rfl⟩)
  exact h2
end
end Go.Proofs.YtegcnkcjmebheaaDoor.Tab
