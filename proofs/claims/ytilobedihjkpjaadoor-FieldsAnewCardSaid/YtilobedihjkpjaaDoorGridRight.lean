/-
  Which grids are right: tiles.Right and paddockref14.Right, by their contracts.
-/
import Derived.Test.YtilobedihjkpjaaDoorProg
import Derived.Test.YtilobedihjkpjaaDoorErr
import Derived.Test.YtilobedihjkpjaaDoorArr
namespace Go.Proofs.YtilobedihjkpjaaDoor
open Go Go.RowKit Go.Proofs.YtilobedihjkpjaaDoor.Err

/-- A grid as it is handed over. -/
structure Grd where
  W : Int
  H : Int
  S : Int
  X : Int
  Y : Int
def Grd.v (g : Grd) : Value := .agg #[.int .i64 g.W, .int .i64 g.H, .int .i64 g.S, .int .i64 g.X, .int .i64 g.Y]
def Grd.right (g : Grd) : Bool := decide (1 ≤ g.W ∧ g.W ≤ 32 ∧ 1 ≤ g.H ∧ g.H ≤ 32 ∧ 1 ≤ g.S ∧ g.S ≤ 65536 ∧ (-1048576 ≤ g.X ∧ g.X ≤ 1048576) ∧ (-1048576 ≤ g.Y ∧ g.Y ≤ 1048576))
namespace Grd
def inB (n : Int) : Bool := decide (-1048576 ≤ n ∧ n ≤ 1048576)

set_option maxRecDepth 100000 in
theorem in_any (n : Int) (w : World) : Calls Tryd.prog 70 #[.int .i64 n, .int .i64 1048576] w fun r w' => r = .returned (.bool (inB n)) ∧ w = w' := by
  go_enter Tryd.func70, Tryd.ntmps70
  by_cases h0 : n ≤ 1048576
  · by_cases h1 : -1048576 ≤ n
    · go_wp2
      go_ret
      exact ⟨ret_bool (decide_eq_true (by omega)).symm, rfl⟩
    · go_wp2
      go_ret
      exact ⟨ret_bool (decide_eq_false (by omega)).symm, rfl⟩
  · go_wp2
    go_ret
    exact ⟨ret_bool (decide_eq_false (by omega)).symm, rfl⟩

set_option maxRecDepth 100000 in
theorem within_any (n : Int) (w : World) : Calls Tryd.prog 98 #[.int .i64 n, .int .i64 1048576] w fun r w' => r = .returned (.bool (inB n)) ∧ w = w' := by
  go_enter Tryd.func98, Tryd.ntmps98
  by_cases h1 : -1048576 ≤ n
  · by_cases h0 : n ≤ 1048576
    · go_wp2
      go_ret
      exact ⟨ret_bool (decide_eq_true (by omega)).symm, rfl⟩
    · go_wp2
      go_ret
      exact ⟨ret_bool (decide_eq_false (by omega)).symm, rfl⟩
  · go_wp2
    go_ret
    exact ⟨ret_bool (decide_eq_false (by omega)).symm, rfl⟩

set_option maxRecDepth 100000 in
set_option maxHeartbeats 4000000 in
theorem right14 (g : Grd) (w : World) : Calls Tryd.prog 44 #[g.v] w fun r w' => r = .returned (.bool g.right) ∧ Same w w' := by
  obtain ⟨W, H, S, X, Y⟩ := g
  obtain ⟨b, hb⟩ : ∃ b, b = Grd.right ⟨W, H, S, X, Y⟩ := ⟨_, rfl⟩
  rw [← hb]
  have HB := hid hb
  clear hb
  unfold Grd.v
  simp only
  go_enter Tryd.func44, Tryd.ntmps44
  by_cases h0 : 1 ≤ W
  · skip
    by_cases h1 : W ≤ 32
    · skip
      by_cases h2 : 1 ≤ H
      · skip
        by_cases h3 : H ≤ 32
        · skip
          by_cases h4 : 1 ≤ S
          · skip
            by_cases h5 : S ≤ 65536
            · skip
              go_wp2_with fail
              refine (in_any X _).mono ?_
              rintro r w' ⟨rfl, rfl⟩
              cases hX : inB X with
              | false =>
                go_wp2
                go_ret
                exact ⟨ret_bool (by rw [HB.out]; exact (decide_eq_false (by have h := of_decide_eq_false hX; intro hh; exact h hh.2.2.2.2.2.2.1)).symm), (Chg.refl _).alloc _⟩
              | true =>
                go_wp2_with fail
                refine (in_any Y _).mono ?_
                rintro r w' ⟨rfl, rfl⟩
                cases hY : inB Y with
                | false =>
                  go_wp2
                  go_ret
                  exact ⟨ret_bool (by rw [HB.out]; exact (decide_eq_false (by have h := of_decide_eq_false hY; intro hh; exact h hh.2.2.2.2.2.2.2)).symm), (Chg.refl _).alloc _⟩
                | true =>
                  go_wp2
                  go_ret
                  exact ⟨ret_bool (by rw [HB.out]; exact (decide_eq_true (by have a := of_decide_eq_true hX; have b := of_decide_eq_true hY; exact ⟨h0, h1, h2, h3, h4, h5, a, b⟩)).symm), (Chg.refl _).alloc _⟩
            · skip
              go_wp2
              go_ret
              exact ⟨ret_bool (by rw [HB.out]; exact (decide_eq_false (by show ¬ (1 ≤ W ∧ W ≤ 32 ∧ 1 ≤ H ∧ H ≤ 32 ∧ 1 ≤ S ∧ S ≤ 65536 ∧ _); omega)).symm), (Chg.refl _).alloc _⟩
          · skip
            go_wp2
            go_ret
            exact ⟨ret_bool (by rw [HB.out]; exact (decide_eq_false (by show ¬ (1 ≤ W ∧ W ≤ 32 ∧ 1 ≤ H ∧ H ≤ 32 ∧ 1 ≤ S ∧ S ≤ 65536 ∧ _); omega)).symm), (Chg.refl _).alloc _⟩
        · skip
          go_wp2
          go_ret
          exact ⟨ret_bool (by rw [HB.out]; exact (decide_eq_false (by show ¬ (1 ≤ W ∧ W ≤ 32 ∧ 1 ≤ H ∧ H ≤ 32 ∧ 1 ≤ S ∧ S ≤ 65536 ∧ _); omega)).symm), (Chg.refl _).alloc _⟩
      · skip
        go_wp2
        go_ret
        exact ⟨ret_bool (by rw [HB.out]; exact (decide_eq_false (by show ¬ (1 ≤ W ∧ W ≤ 32 ∧ 1 ≤ H ∧ H ≤ 32 ∧ 1 ≤ S ∧ S ≤ 65536 ∧ _); omega)).symm), (Chg.refl _).alloc _⟩
    · skip
      go_wp2
      go_ret
      exact ⟨ret_bool (by rw [HB.out]; exact (decide_eq_false (by show ¬ (1 ≤ W ∧ W ≤ 32 ∧ 1 ≤ H ∧ H ≤ 32 ∧ 1 ≤ S ∧ S ≤ 65536 ∧ _); omega)).symm), (Chg.refl _).alloc _⟩
  · skip
    go_wp2
    go_ret
    exact ⟨ret_bool (by rw [HB.out]; exact (decide_eq_false (by show ¬ (1 ≤ W ∧ W ≤ 32 ∧ 1 ≤ H ∧ H ≤ 32 ∧ 1 ≤ S ∧ S ≤ 65536 ∧ _); omega)).symm), (Chg.refl _).alloc _⟩

def ofV (e : Value) (x y : Int) : Value := if inB x && inB y then .tuple #[.agg #[.int .i64 x, .int .i64 y, .int .i64 x, .int .i64 y], .nilIface] else .tuple #[.agg #[.int .i64 0, .int .i64 0, .int .i64 0, .int .i64 0], e]
theorem boxSize (a b c d : Value) : (Tryd.prog.info? 140).map (·.size) = some (#[a, b, c, d] : Array Value).size := by kernel_rfl
set_option maxRecDepth 100000 in
set_option maxHeartbeats 4000000 in
theorem of_zero (x y : Int) (w : World) (e : Value) (he : w.cell? ⟨1, 0, none⟩ = some e) : Calls Tryd.prog 86 #[.agg #[.int .i64 x, .int .i64 y], .agg #[.int .i64 0, .int .i64 0]] w fun r w' => r = .returned (ofV e x y) ∧ Same w w' := by
  have Z := hid (((((Star.new w).alloc #[.int .i64 x, .int .i64 y] 144).alloc #[.int .i64 0, .int .i64 0] 144).alloc #[.int .i64 0, .int .i64 0, .int .i64 0, .int .i64 0] 140).alloc #[.int .i64 x, .int .i64 y] 3)
  simp only [World.size_alloc] at Z
  go_enter Tryd.func86, Tryd.ntmps86
  go_wp2_with fail
  have e1 := Z.out.same.keep he
  have b0 := (Z.out.blk 0 rfl).1
  have b1 := (Z.out.blk 1 rfl).1
  have b2 := (Z.out.blk 2 rfl).1
  have b3 := (Z.out.blk 3 rfl).1
  generalize World.alloc _ _ = w4 at *
  generalize w.heap.size = q at *
  clear he
  have x0 := cell_of b0 0
  have x1 := cell_of b0 1
  have c0 := cell_of b1 0
  have c1 := cell_of b1 1
  have c2 := cell_of b1 2
  have c3 := cell_of b1 3
  have f0 := free_of b1 0
  have f1 := free_of b1 1
  have f2 := free_of b1 2
  have f3 := free_of b1 3
  have y0 := cell_of b2 0
  have y1 := cell_of b2 1
  have z0 := cell_of b3 0
  have z1 := cell_of b3 1
  simp only [List.getElem?_toArray, List.getElem?_cons_zero, List.getElem?_cons_succ] at x0 x1 c0 c1 c2 c3 y0 y1 z0 z1
  have l0 := lt_of b0
  have l1 := lt_of b1
  have l2 := lt_of b2
  have l3 := lt_of b3
  clear b0 b1 b2 b3
  refine wp_loop_rounds 3 ?_
  rw [rounds_succ]
  go_wp2_with fail
  refine (within_any x _).mono ?_
  rintro r w' ⟨rfl, rfl⟩
  cases hx : inB x with
  | false =>
    go_wp2_with fail
    go_region
    all_goals
      go_wp2
      have X9 := hid (((((Z.out.go ((Chg.refl _).drew)).put 1 rfl 0 (.int .i64 0)).put 1 rfl 1 (.int .i64 0)).put 1 rfl 2 (.int .i64 0)).put 1 rfl 3 (.int .i64 0))
      refine bodyPost_ret (v := .tuple #[.agg #[.int .i64 0, .int .i64 0, .int .i64 0, .int .i64 0], e]) (results_cell_tmp Tryd.results86 _ _ (q + 1 + 1) _ _ _ _ rfl (X9.out.blk 1 rfl).1 Tryd.underlying140 rfl (boxSize _ _ _ _) _ rfl) rfl ⟨by unfold ofV; rw [hx]; rfl, X9.out.same⟩
  | true =>
    go_wp2_with fail
    rw [rounds_succ]
    go_wp2_with fail
    refine (within_any y _).mono ?_
    rintro r w' ⟨rfl, rfl⟩
    cases hy : inB y with
    | false =>
      go_wp2_with fail
      go_region
      all_goals
        go_wp2
        have X9 := hid (((((Z.out.go ((Chg.refl _).drew)).put 1 rfl 0 (.int .i64 0)).put 1 rfl 1 (.int .i64 0)).put 1 rfl 2 (.int .i64 0)).put 1 rfl 3 (.int .i64 0))
        refine bodyPost_ret (v := .tuple #[.agg #[.int .i64 0, .int .i64 0, .int .i64 0, .int .i64 0], e]) (results_cell_tmp Tryd.results86 _ _ (q + 1 + 1) _ _ _ _ rfl (X9.out.blk 1 rfl).1 Tryd.underlying140 rfl (boxSize _ _ _ _) _ rfl) rfl ⟨by unfold ofV; rw [hx, hy]; rfl, X9.out.same⟩
    | true =>
      have hxb : -1048576 ≤ x ∧ x ≤ 1048576 := of_decide_eq_true hx
      have hyb : -1048576 ≤ y ∧ y ≤ 1048576 := of_decide_eq_true hy
      go_wp2_with fail
      rw [rounds_succ]
      go_wp2_with fail
      refine wp_loop_rounds 3 ?_
      rw [rounds_succ]
      go_wp2_with fail
      rw [rounds_succ]
      go_wp2_with fail
      rw [rounds_succ]
      go_wp2_with fail
      have X9 := hid (((((Z.out.put 1 rfl 0 (.int .i64 x)).put 1 rfl 1 (.int .i64 y)).put 1 rfl 2 (.int .i64 x)).put 1 rfl 3 (.int .i64 y)).alloc #[.int .i64 0, .int .i64 0] 3)
      refine bodyPost_ret (v := .tuple #[.agg #[.int .i64 x, .int .i64 y, .int .i64 x, .int .i64 y], .nilIface]) (results_cell_tmp Tryd.results86 _ _ (q + 1 + 1) _ _ _ _ rfl (X9.out.blk 2 rfl).1 Tryd.underlying140 rfl (boxSize _ _ _ _) _ rfl) rfl ⟨by unfold ofV; rw [hx, hy]; rfl, X9.out.same⟩
end Grd
end Go.Proofs.YtilobedihjkpjaaDoor
