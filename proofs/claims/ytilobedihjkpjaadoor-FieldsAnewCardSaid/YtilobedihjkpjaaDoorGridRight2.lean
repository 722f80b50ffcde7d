/-
  tiles.Right, by its contract.
-/
import Derived.Test.YtilobedihjkpjaaDoorGridRight
namespace Go.Proofs.YtilobedihjkpjaaDoor
open Go Go.RowKit Go.Proofs.YtilobedihjkpjaaDoor.Err
namespace Grd
set_option maxRecDepth 100000 in
set_option maxHeartbeats 4000000 in
theorem right_any (g : Grd) (w : World) (T : TypeId) (ep : Value) (he : w.cell? ⟨1, 0, none⟩ = some (.iface T ep)) : Calls Tryd.prog 69 #[g.v] w fun r w' => r = .returned (.bool g.right) ∧ Same w w' := by
  obtain ⟨W, H, S, X, Y⟩ := g
  obtain ⟨b, hb⟩ : ∃ b, b = Grd.right ⟨W, H, S, X, Y⟩ := ⟨_, rfl⟩
  rw [← hb]
  have HB := hid hb
  clear hb
  unfold Grd.v
  simp only
  have Z := hid ((Star.new w).alloc #[.int .i64 W, .int .i64 H, .int .i64 S, .int .i64 X, .int .i64 Y] 23)
  have HE := hid he
  clear he
  go_enter Tryd.func69, Tryd.ntmps69
  go_wp2_with fail
  generalize w.alloc _ = w1 at *
  generalize w.heap.size = q at *
  refine (of_zero X Y _ _ (Z.out.same.keep HE.out)).mono ?_
  rintro r w2 ⟨rfl, hs⟩
  have Z2 := hid (Z.out.go hs)
  have hb := (Z2.out.blk 0 rfl).1
  have hl := lt_of hb
  have c0 := cell_of hb 0
  have c1 := cell_of hb 1
  have c2 := cell_of hb 2
  simp only [List.getElem?_toArray, List.getElem?_cons_zero, List.getElem?_cons_succ] at c0 c1 c2
  clear hs hb Z
  cases hxy : inB X && inB Y with
  | false =>
    have e : ofV (.iface T ep) X Y = .tuple #[.agg #[.int .i64 0, .int .i64 0, .int .i64 0, .int .i64 0], .iface T ep] := by unfold ofV; rw [hxy]; rfl
    rw [e]
    have HXY := hid hxy
    clear hxy e
    go_wp2
    go_ret
    exact ⟨ret_bool (by rw [HB.out]; exact (decide_eq_false (by rintro ⟨-, -, -, -, -, -, hx, hy⟩; have := HXY.out; rw [show inB X = true from decide_eq_true hx, show inB Y = true from decide_eq_true hy] at this; cases this)).symm), Z2.out.same.alloc _⟩
  | true =>
    have e : ofV (.iface T ep) X Y = .tuple #[.agg #[.int .i64 X, .int .i64 Y, .int .i64 X, .int .i64 Y], .nilIface] := by unfold ofV; rw [hxy]; rfl
    rw [e]
    rw [Bool.and_eq_true] at hxy
    have hx : -1048576 ≤ X ∧ X ≤ 1048576 := of_decide_eq_true hxy.1
    have hy : -1048576 ≤ Y ∧ Y ≤ 1048576 := of_decide_eq_true hxy.2
    have HXY := hid (And.intro hx hy)
    clear hxy e hx hy
    by_cases h0 : 1 ≤ W
    · skip
      by_cases h1 : W ≤ 32
      · skip
        by_cases h2 : 1 ≤ H
        · skip
          by_cases h3 : H ≤ 32
          · skip
            by_cases h4 : 1 ≤ S
            · skip
              by_cases h5 : S ≤ 65536
              · skip
                go_wp2
                go_ret
                exact ⟨ret_bool (by first | (rw [HB.out]; exact (show Grd.right ⟨W, H, S, X, Y⟩ = true from decide_eq_true (by exact ⟨h0, h1, h2, h3, h4, h5, HXY.out.1, HXY.out.2⟩)).symm) | (refine Eq.trans (decide_eq_true (by omega)) ?_; rw [HB.out]; exact (show Grd.right ⟨W, H, S, X, Y⟩ = true from decide_eq_true (by exact ⟨h0, h1, h2, h3, h4, h5, HXY.out.1, HXY.out.2⟩)).symm)), Z2.out.same.alloc _⟩
              · skip
                go_wp2
                go_ret
                exact ⟨ret_bool (by refine Eq.trans (decide_eq_false (by omega)) ?_; rw [HB.out]; exact (show Grd.right ⟨W, H, S, X, Y⟩ = false from decide_eq_false (by rintro ⟨k0, k1, k2, k3, k4, k5, -, -⟩; dsimp only at k0 k1 k2 k3 k4 k5; omega)).symm), Z2.out.same.alloc _⟩
            · skip
              go_wp2
              go_ret
              exact ⟨ret_bool (by rw [HB.out]; exact (show Grd.right ⟨W, H, S, X, Y⟩ = false from decide_eq_false (by rintro ⟨k0, k1, k2, k3, k4, k5, -, -⟩; dsimp only at k0 k1 k2 k3 k4 k5; omega)).symm), Z2.out.same.alloc _⟩
          · skip
            go_wp2
            go_ret
            exact ⟨ret_bool (by rw [HB.out]; exact (show Grd.right ⟨W, H, S, X, Y⟩ = false from decide_eq_false (by rintro ⟨k0, k1, k2, k3, k4, k5, -, -⟩; dsimp only at k0 k1 k2 k3 k4 k5; omega)).symm), Z2.out.same.alloc _⟩
        · skip
          go_wp2
          go_ret
          exact ⟨ret_bool (by rw [HB.out]; exact (show Grd.right ⟨W, H, S, X, Y⟩ = false from decide_eq_false (by rintro ⟨k0, k1, k2, k3, k4, k5, -, -⟩; dsimp only at k0 k1 k2 k3 k4 k5; omega)).symm), Z2.out.same.alloc _⟩
      · skip
        go_wp2
        go_ret
        exact ⟨ret_bool (by rw [HB.out]; exact (show Grd.right ⟨W, H, S, X, Y⟩ = false from decide_eq_false (by rintro ⟨k0, k1, k2, k3, k4, k5, -, -⟩; dsimp only at k0 k1 k2 k3 k4 k5; omega)).symm), Z2.out.same.alloc _⟩
    · skip
      go_wp2
      go_ret
      exact ⟨ret_bool (by rw [HB.out]; exact (show Grd.right ⟨W, H, S, X, Y⟩ = false from decide_eq_false (by rintro ⟨k0, k1, k2, k3, k4, k5, -, -⟩; dsimp only at k0 k1 k2 k3 k4 k5; omega)).symm), Z2.out.same.alloc _⟩
end Grd
end Go.Proofs.YtilobedihjkpjaaDoor
