/-
  FieldMore: the texts GridRight, InAsk, InAsk19, FrameErr, OrdPlain, OrdSort, CloneI, joined.
-/
import Derived.Test.YtilobedihjkpjaaDoorProg
import Derived.Test.YtilobedihjkpjaaDoorFieldMoreQ2
import Derived.Test.YtilobedihjkpjaaDoorFieldMoreQ1

/-
  Which grids are right: tiles.Right and paddockref14.Right, by their contracts.
-/
namespace Go.Proofs.YtilobedihjkpjaaDoor
open Go Go.RowKit Go.Proofs.YtilobedihjkpjaaDoor.Err

/-- A grid as it is handed over. -/
structure Grd where
  W : Int
  H : Int
  S : Int
  X : Int
  Y : Int
def Grd.v (g : Grd) : Value := .agg #[.int .i64 g.W, .int .i64 g.H, .int .i64 g.S, .int .i64 g.X, .int .i64 g.Y]
def Grd.right (g : Grd) : Bool := decide (1 ≤ g.W ∧ g.W ≤ 32 ∧ 1 ≤ g.H ∧ g.H ≤ 32 ∧ 1 ≤ g.S ∧ g.S ≤ 65536 ∧ (-1048576 ≤ g.X ∧ g.X ≤ 1048576) ∧ (-1048576 ≤ g.Y ∧ g.Y ≤ 1048576))
namespace Grd
def inB (n : Int) : Bool := decide (-1048576 ≤ n ∧ n ≤ 1048576)

set_option maxRecDepth 100000 in
theorem in_any (n : Int) (w : World) : Calls Tryd.prog 70 #[.int .i64 n, .int .i64 1048576] w fun r w' => r = .returned (.bool (inB n)) ∧ w = w' := by
  go_enter Tryd.func70, Tryd.ntmps70
  by_cases h0 : n ≤ 1048576
  · by_cases h1 : -1048576 ≤ n
    · go_wp2
      go_ret
      exact ⟨ret_bool (decide_eq_true (by omega)).symm, rfl⟩
    · go_wp2
      go_ret
      exact ⟨ret_bool (decide_eq_false (by omega)).symm, rfl⟩
  · go_wp2
    go_ret
    exact ⟨ret_bool (decide_eq_false (by omega)).symm, rfl⟩

set_option maxRecDepth 100000 in
theorem within_any (n : Int) (w : World) : Calls Tryd.prog 98 #[.int .i64 n, .int .i64 1048576] w fun r w' => r = .returned (.bool (inB n)) ∧ w = w' := by
  go_enter Tryd.func98, Tryd.ntmps98
  by_cases h1 : -1048576 ≤ n
  · by_cases h0 : n ≤ 1048576
    · go_wp2
      go_ret
      exact ⟨ret_bool (decide_eq_true (by omega)).symm, rfl⟩
    · go_wp2
      go_ret
      exact ⟨ret_bool (decide_eq_false (by omega)).symm, rfl⟩
  · go_wp2
    go_ret
    exact ⟨ret_bool (decide_eq_false (by omega)).symm, rfl⟩

set_option maxRecDepth 100000 in
set_option maxHeartbeats 4000000 in
theorem right14 (g : Grd) (w : World) : Calls Tryd.prog 44 #[g.v] w fun r w' => r = .returned (.bool g.right) ∧ Same w w' := by
  obtain ⟨W, H, S, X, Y⟩ := g
  obtain ⟨b, hb⟩ : ∃ b, b = Grd.right ⟨W, H, S, X, Y⟩ := ⟨_, rfl⟩
  rw [← hb]
  have HB := hid hb
  clear hb
  unfold Grd.v
  simp only
  go_enter Tryd.func44, Tryd.ntmps44
  by_cases h0 : 1 ≤ W
  · skip
    by_cases h1 : W ≤ 32
    · skip
      by_cases h2 : 1 ≤ H
      · skip
        by_cases h3 : H ≤ 32
        · skip
          by_cases h4 : 1 ≤ S
          · skip
            by_cases h5 : S ≤ 65536
            · skip
              go_wp2_with fail
              refine (in_any X _).mono ?_
              rintro r w' ⟨rfl, rfl⟩
              cases hX : inB X with
              | false =>
                go_wp2
                go_ret
                exact ⟨ret_bool (by rw [HB.out]; exact (decide_eq_false (by have h := of_decide_eq_false hX; intro hh; exact h hh.2.2.2.2.2.2.1)).symm), (Chg.refl _).alloc _⟩
              | true =>
                go_wp2_with fail
                refine (in_any Y _).mono ?_
                rintro r w' ⟨rfl, rfl⟩
                cases hY : inB Y with
                | false =>
                  go_wp2
                  go_ret
                  exact ⟨ret_bool (by rw [HB.out]; exact (decide_eq_false (by have h := of_decide_eq_false hY; intro hh; exact h hh.2.2.2.2.2.2.2)).symm), (Chg.refl _).alloc _⟩
                | true =>
                  go_wp2
                  go_ret
                  exact ⟨ret_bool (by rw [HB.out]; exact (decide_eq_true (by have a := of_decide_eq_true hX; have b := of_decide_eq_true hY; exact ⟨h0, h1, h2, h3, h4, h5, a, b⟩)).symm), (Chg.refl _).alloc _⟩
            · skip
              go_wp2
              go_ret
              exact ⟨ret_bool (by rw [HB.out]; exact (decide_eq_false (by show ¬ (1 ≤ W ∧ W ≤ 32 ∧ 1 ≤ H ∧ H ≤ 32 ∧ 1 ≤ S ∧ S ≤ 65536 ∧ _); omega)).symm), (Chg.refl _).alloc _⟩
          · skip
            go_wp2
            go_ret
            exact ⟨ret_bool (by rw [HB.out]; exact (decide_eq_false (by show ¬ (1 ≤ W ∧ W ≤ 32 ∧ 1 ≤ H ∧ H ≤ 32 ∧ 1 ≤ S ∧ S ≤ 65536 ∧ _); omega)).symm), (Chg.refl _).alloc _⟩
        · skip
          go_wp2
          go_ret
          exact ⟨ret_bool (by rw [HB.out]; exact (decide_eq_false (by show ¬ (1 ≤ W ∧ W ≤ 32 ∧ 1 ≤ H ∧ H ≤ 32 ∧ 1 ≤ S ∧ S ≤ 65536 ∧ _); omega)).symm), (Chg.refl _).alloc _⟩
      · skip
        go_wp2
        go_ret
        exact ⟨ret_bool (by rw [HB.out]; exact (decide_eq_false (by show ¬ (1 ≤ W ∧ W ≤ 32 ∧ 1 ≤ H ∧ H ≤ 32 ∧ 1 ≤ S ∧ S ≤ 65536 ∧ _); omega)).symm), (Chg.refl _).alloc _⟩
    · skip
      go_wp2
      go_ret
      exact ⟨ret_bool (by rw [HB.out]; exact (decide_eq_false (by show ¬ (1 ≤ W ∧ W ≤ 32 ∧ 1 ≤ H ∧ H ≤ 32 ∧ 1 ≤ S ∧ S ≤ 65536 ∧ _); omega)).symm), (Chg.refl _).alloc _⟩
  · skip
    go_wp2
    go_ret
    exact ⟨ret_bool (by rw [HB.out]; exact (decide_eq_false (by show ¬ (1 ≤ W ∧ W ≤ 32 ∧ 1 ≤ H ∧ H ≤ 32 ∧ 1 ≤ S ∧ S ≤ 65536 ∧ _); omega)).symm), (Chg.refl _).alloc _⟩

def ofV (e : Value) (x y : Int) : Value := if inB x && inB y then .tuple #[.agg #[.int .i64 x, .int .i64 y, .int .i64 x, .int .i64 y], .nilIface] else .tuple #[.agg #[.int .i64 0, .int .i64 0, .int .i64 0, .int .i64 0], e]
theorem boxSize (a b c d : Value) : (Tryd.prog.info? 140).map (·.size) = some (#[a, b, c, d] : Array Value).size := by kernel_rfl
set_option maxRecDepth 100000 in
set_option maxHeartbeats 4000000 in
theorem of_zero (x y : Int) (w : World) (e : Value) (he : w.cell? ⟨1, 0, none⟩ = some e) : Calls Tryd.prog 86 #[.agg #[.int .i64 x, .int .i64 y], .agg #[.int .i64 0, .int .i64 0]] w fun r w' => r = .returned (ofV e x y) ∧ Same w w' := by
  have Z := hid (((((Star.new w).alloc #[.int .i64 x, .int .i64 y] 144).alloc #[.int .i64 0, .int .i64 0] 144).alloc #[.int .i64 0, .int .i64 0, .int .i64 0, .int .i64 0] 140).alloc #[.int .i64 x, .int .i64 y] 3)
  simp only [World.size_alloc] at Z
  go_enter Tryd.func86, Tryd.ntmps86
  go_wp2_with fail
  have e1 := Z.out.same.keep he
  have b0 := (Z.out.blk 0 rfl).1
  have b1 := (Z.out.blk 1 rfl).1
  have b2 := (Z.out.blk 2 rfl).1
  have b3 := (Z.out.blk 3 rfl).1
  generalize World.alloc _ _ = w4 at *
  generalize w.heap.size = q at *
  clear he
  have x0 := cell_of b0 0
  have x1 := cell_of b0 1
  have c0 := cell_of b1 0
  have c1 := cell_of b1 1
  have c2 := cell_of b1 2
  have c3 := cell_of b1 3
  have f0 := free_of b1 0
  have f1 := free_of b1 1
  have f2 := free_of b1 2
  have f3 := free_of b1 3
  have y0 := cell_of b2 0
  have y1 := cell_of b2 1
  have z0 := cell_of b3 0
  have z1 := cell_of b3 1
  simp only [List.getElem?_toArray, List.getElem?_cons_zero, List.getElem?_cons_succ] at x0 x1 c0 c1 c2 c3 y0 y1 z0 z1
  have l0 := lt_of b0
  have l1 := lt_of b1
  have l2 := lt_of b2
  have l3 := lt_of b3
  clear b0 b1 b2 b3
  refine wp_loop_rounds 3 ?_
  rw [rounds_succ]
  go_wp2_with fail
  refine (within_any x _).mono ?_
  rintro r w' ⟨rfl, rfl⟩
  cases hx : inB x with
  | false =>
    go_wp2_with fail
    go_region
    all_goals
      go_wp2
      have X9 := hid (((((Z.out.go ((Chg.refl _).drew)).put 1 rfl 0 (.int .i64 0)).put 1 rfl 1 (.int .i64 0)).put 1 rfl 2 (.int .i64 0)).put 1 rfl 3 (.int .i64 0))
      refine bodyPost_ret (v := .tuple #[.agg #[.int .i64 0, .int .i64 0, .int .i64 0, .int .i64 0], e]) (results_cell_tmp Tryd.results86 _ _ (q + 1 + 1) _ _ _ _ rfl (X9.out.blk 1 rfl).1 Tryd.underlying140 rfl (boxSize _ _ _ _) _ rfl) rfl ⟨by unfold ofV; rw [hx]; rfl, X9.out.same⟩
  | true =>
    go_wp2_with fail
    rw [rounds_succ]
    go_wp2_with fail
    refine (within_any y _).mono ?_
    rintro r w' ⟨rfl, rfl⟩
    cases hy : inB y with
    | false =>
      go_wp2_with fail
      go_region
      all_goals
        go_wp2
        have X9 := hid (((((Z.out.go ((Chg.refl _).drew)).put 1 rfl 0 (.int .i64 0)).put 1 rfl 1 (.int .i64 0)).put 1 rfl 2 (.int .i64 0)).put 1 rfl 3 (.int .i64 0))
        refine bodyPost_ret (v := .tuple #[.agg #[.int .i64 0, .int .i64 0, .int .i64 0, .int .i64 0], e]) (results_cell_tmp Tryd.results86 _ _ (q + 1 + 1) _ _ _ _ rfl (X9.out.blk 1 rfl).1 Tryd.underlying140 rfl (boxSize _ _ _ _) _ rfl) rfl ⟨by unfold ofV; rw [hx, hy]; rfl, X9.out.same⟩
    | true =>
      have hxb : -1048576 ≤ x ∧ x ≤ 1048576 := of_decide_eq_true hx
      have hyb : -1048576 ≤ y ∧ y ≤ 1048576 := of_decide_eq_true hy
      go_wp2_with fail
      rw [rounds_succ]
      go_wp2_with fail
      refine wp_loop_rounds 3 ?_
      rw [rounds_succ]
      go_wp2_with fail
      rw [rounds_succ]
      go_wp2_with fail
      rw [rounds_succ]
      go_wp2_with fail
      have X9 := hid (((((Z.out.put 1 rfl 0 (.int .i64 x)).put 1 rfl 1 (.int .i64 y)).put 1 rfl 2 (.int .i64 x)).put 1 rfl 3 (.int .i64 y)).alloc #[.int .i64 0, .int .i64 0] 3)
      refine bodyPost_ret (v := .tuple #[.agg #[.int .i64 x, .int .i64 y, .int .i64 x, .int .i64 y], .nilIface]) (results_cell_tmp Tryd.results86 _ _ (q + 1 + 1) _ _ _ _ rfl (X9.out.blk 2 rfl).1 Tryd.underlying140 rfl (boxSize _ _ _ _) _ rfl) rfl ⟨by unfold ofV; rw [hx, hy]; rfl, X9.out.same⟩
end Grd
end Go.Proofs.YtilobedihjkpjaaDoor

/-
  A grid, blocked tiles and two tiles that came in.
-/
namespace Go.Proofs.YtilobedihjkpjaaDoor
open Go Go.RowKit Go.ChangeShapes Go.WideShapes Go.ChangeAt
/-- Such an ask as a value. -/
def askV (g : Grd) (bv : Value) (s t : Int) : Value := .agg #[.int .i64 g.W, .int .i64 g.H, .int .i64 g.S, .int .i64 g.X, .int .i64 g.Y, bv, .int .i64 s, .int .i64 t]
section
variable {H : Type} {enc : TypeId × Value → H} {P : Program}
theorem intsOf {e : TypeId} {W : World} (he : P.underlying e = some (.int .i64)) : ∀ (ys : List (List Value)), (∀ y ∈ ys, ∃ f z, DataW.trod enc P W 0 (fun _ => true) true f e y = some z) → ∃ xs : List Int, xs.length = ys.length ∧ xs.map (Value.int .i64) = ys.flatten
  | [], _ => ⟨[], rfl, rfl⟩
  | y :: ys, h => by
    obtain ⟨xs, e1, e2⟩ := intsOf he ys (fun z hz => h z (List.mem_cons_of_mem _ hz))
    obtain ⟨f, z, hz⟩ := h y List.mem_cons_self
    obtain ⟨a, rfl, _, _⟩ := DataW.trod_int he hz
    exact ⟨a :: xs, by simp [e1], by simp [e2]⟩
theorem in_ask {t tg ti ts : TypeId} {f0 f1 f2 f3 g0 g1 g2 g3 g4 : Field} {W : World} {b0 : Nat} {v : Value} {d : DataW H} {ps : List MemPlace} (ht : P.underlying t = some (.struct #[f0, f1, f2, f3])) (hc : P.cellsOf t = 8) (htg : P.underlying tg = some (.struct #[g0, g1, g2, g3, g4])) (hcg : P.cellsOf tg = 5)
    (hi : P.underlying ti = some (.int .i64)) (hci : P.cellsOf ti = 1) (hts : P.underlying ts = some (.slice ti)) (hcs : P.cellsOf ts = 1)
    (h0 : f0.type = tg ∧ f0.offset = 0) (h1 : f1.type = ts ∧ f1.offset = 5) (h2 : f2.type = ti ∧ f2.offset = 6) (h3 : f3.type = ti ∧ f3.offset = 7)
    (k0 : g0.type = ti ∧ g0.offset = 0) (k1 : g1.type = ti ∧ g1.offset = 1) (k2 : g2.type = ti ∧ g2.offset = 2) (k3 : g3.type = ti ∧ g3.offset = 3) (k4 : g4.type = ti ∧ g4.offset = 4)
    (hlt : ∀ z ∈ ps, z.block < W.heap.size) (hv : Value.okWide P W .any b0 t v) (h : DataW.Trod enc P W 0 (fun _ => true) true t v d ps) : ∃ (g : Grd) (bv : Value) (bl : List Int) (s t : Int), v = askV g bv s t ∧ Ints W bv bl ∧ bl.length ≤ maxLen := by
  obtain ⟨cs, rfl, hs⟩ := okWide_struct ht hv
  rw [hc] at hs
  obtain ⟨fuel, hf⟩ := h
  obtain ⟨zs, m, _, hx, hl, hzl, hf⟩ := DataW.trod_struct ht hf
  match zs, hzl with
  | [z0, z1, z2, z3], _ =>
    have e0 := hf 0 f0 rfl
    have e1 := hf 1 f1 rfl
    have e2 := hf 2 f2 rfl
    have e3 := hf 3 f3 rfl
    simp only [List.getElem?_cons_zero, List.getElem?_cons_succ] at e0 e1 e2 e3
    rw [h0.1, h0.2, hcg] at e0
    rw [h1.1, h1.2] at e1
    rw [h2.1, h2.2] at e2
    rw [h3.1, h3.2] at e3
    obtain ⟨s, hs2, _, _⟩ := field_int hi hci e2
    obtain ⟨u, hu, _, _⟩ := field_int hi hci e3
    obtain ⟨ys, bv, hbv, hyl, hr, hall, hm, _, hcp⟩ := rows_of hts hci (by omega) (fun z hz => hlt z (by
      have hx2 : ps = _ := congrArg Prod.snd hx
      rw [hx2]
      simp [hz])) e1
    obtain ⟨xs, x1, x2⟩ := intsOf hi ys (fun y hy => by obtain ⟨f, z, h, _⟩ := hall y hy; exact ⟨f, z, h⟩)
    obtain ⟨ws, m2, _, _, hl2, hwl, hf2⟩ := DataW.trod_struct htg e0
    match ws, hwl with
    | [w0, w1, w2, w3, w4], _ =>
      have d0 := hf2 0 g0 rfl
      have d1 := hf2 1 g1 rfl
      have d2 := hf2 2 g2 rfl
      have d3 := hf2 3 g3 rfl
      have d4 := hf2 4 g4 rfl
      simp only [List.getElem?_cons_zero, List.getElem?_cons_succ] at d0 d1 d2 d3 d4
      rw [k0.1, k0.2] at d0
      rw [k1.1, k1.2] at d1
      rw [k2.1, k2.2] at d2
      rw [k3.1, k3.2] at d3
      rw [k4.1, k4.2] at d4
      obtain ⟨a, ha, _, _⟩ := field_int hi hci d0
      obtain ⟨b, hb, _, _⟩ := field_int hi hci d1
      obtain ⟨c, hc', _, _⟩ := field_int hi hci d2
      obtain ⟨x, hx', _, _⟩ := field_int hi hci d3
      obtain ⟨y, hy', _, _⟩ := field_int hi hci d4
      refine ⟨⟨a, b, c, x, y⟩, bv, xs, s, u, ?_, by show Reads W bv xs.length 1 _; rw [x1, x2]; exact hr, by omega⟩
      rw [hcs] at hbv
      obtain ⟨l⟩ := cs
      match l, hs with
      | [u0, u1, u2, u3, u4, u5, u6, u7], _ =>
        simp [Value.cells] at ha hb hc' hx' hy' hs2 hu hbv
        simp [askV, ha, hb, hc', hx', hy', hs2, hu, hbv]
end
end Go.Proofs.YtilobedihjkpjaaDoor

/-
  A grid, blocked tiles, goals, sets of tiles and a tile that came in.
-/
namespace Go.Proofs.YtilobedihjkpjaaDoor
open Go Go.RowKit Go.ChangeShapes Go.WideShapes Go.ChangeAt
/-- Such an ask as a value. -/
def ask19V (g : Grd) (bv gv sv : Value) (t : Int) : Value := .agg #[.int .i64 g.W, .int .i64 g.H, .int .i64 g.S, .int .i64 g.X, .int .i64 g.Y, bv, gv, sv, .int .i64 t]
section
variable {H : Type} {enc : TypeId × Value → H} {P : Program}
theorem lists_of {ts ti : TypeId} {W : World} (hts : P.underlying ts = some (.slice ti)) (hi : P.underlying ti = some (.int .i64)) (hci : P.cellsOf ti = 1) : ∀ (ys : List (List Value)), (∀ y ∈ ys, ∃ f z, DataW.trod enc P W 0 (fun _ => true) true f ts y = some z ∧ ∀ u ∈ z.2, u.block < W.heap.size) →
    ∃ ls : List (Value × List Int), ls.length = ys.length ∧ ls.map (·.1) = ys.flatten ∧ ∀ l ∈ ls, Ints W l.1 l.2 ∧ l.2.length ≤ maxLen
  | [], _ => ⟨[], rfl, rfl, by simp⟩
  | y :: ys, h => by
    obtain ⟨ls, e1, e2, e3⟩ := lists_of hts hi hci ys (fun z hz => h z (List.mem_cons_of_mem _ hz))
    obtain ⟨f, z, hz, hzl⟩ := h y List.mem_cons_self
    obtain ⟨ys2, v, rfl, hyl, hr, hall, hm, _, _⟩ := rows_of hts hci (by omega) hzl hz
    obtain ⟨xs, x1, x2⟩ := intsOf hi ys2 (fun y hy => by obtain ⟨f, z, h, _⟩ := hall y hy; exact ⟨f, z, h⟩)
    refine ⟨(v, xs) :: ls, by simp [e1], by simp [e2], ?_⟩
    intro l hl
    rcases List.mem_cons.1 hl with rfl | hl
    · exact ⟨by show Reads W v xs.length 1 _; rw [x1, x2]; exact hr, by show xs.length ≤ maxLen; omega⟩
    · exact e3 l hl
theorem in_ask19 {t tg ti ts tss : TypeId} {f0 f1 f2 f3 f4 g0 g1 g2 g3 g4 : Field} {W : World} {b0 : Nat} {v : Value} {d : DataW H} {ps : List MemPlace} (ht : P.underlying t = some (.struct #[f0, f1, f2, f3, f4])) (hc : P.cellsOf t = 9) (htg : P.underlying tg = some (.struct #[g0, g1, g2, g3, g4])) (hcg : P.cellsOf tg = 5)
    (hi : P.underlying ti = some (.int .i64)) (hci : P.cellsOf ti = 1) (hts : P.underlying ts = some (.slice ti)) (hcs : P.cellsOf ts = 1) (htss : P.underlying tss = some (.slice ts)) (hcss : P.cellsOf tss = 1)
    (h0 : f0.type = tg ∧ f0.offset = 0) (h1 : f1.type = ts ∧ f1.offset = 5) (h2 : f2.type = ts ∧ f2.offset = 6) (h3 : f3.type = tss ∧ f3.offset = 7) (h4 : f4.type = ti ∧ f4.offset = 8)
    (k0 : g0.type = ti ∧ g0.offset = 0) (k1 : g1.type = ti ∧ g1.offset = 1) (k2 : g2.type = ti ∧ g2.offset = 2) (k3 : g3.type = ti ∧ g3.offset = 3) (k4 : g4.type = ti ∧ g4.offset = 4)
    (hlt : ∀ z ∈ ps, z.block < W.heap.size) (hv : Value.okWide P W .any b0 t v) (h : DataW.Trod enc P W 0 (fun _ => true) true t v d ps) : ∃ (g : Grd) (bv : Value) (bl : List Int) (gv : Value) (gl : List Int) (sv : Value) (ls : List (Value × List Int)) (t : Int), v = ask19V g bv gv sv t ∧ Ints W bv bl ∧ bl.length ≤ maxLen ∧ Ints W gv gl ∧ gl.length ≤ maxLen ∧ Reads W sv ls.length 1 (ls.map (·.1)) ∧ ls.length ≤ maxLen ∧ ∀ l ∈ ls, Ints W l.1 l.2 ∧ l.2.length ≤ maxLen := by
  obtain ⟨cs, rfl, hs⟩ := okWide_struct ht hv
  rw [hc] at hs
  obtain ⟨fuel, hf⟩ := h
  obtain ⟨zs, m, _, hx, hl, hzl, hf⟩ := DataW.trod_struct ht hf
  match zs, hzl with
  | [z0, z1, z2, z3, z4], _ =>
    have e0 := hf 0 f0 rfl
    have e1 := hf 1 f1 rfl
    have e2 := hf 2 f2 rfl
    have e3 := hf 3 f3 rfl
    have e4 := hf 4 f4 rfl
    simp only [List.getElem?_cons_zero, List.getElem?_cons_succ] at e0 e1 e2 e3 e4
    rw [h0.1, h0.2, hcg] at e0
    rw [h1.1, h1.2] at e1
    rw [h2.1, h2.2] at e2
    rw [h3.1, h3.2] at e3
    rw [h4.1, h4.2] at e4
    have hx2 : ps = _ := congrArg Prod.snd hx
    obtain ⟨u, hu, _, _⟩ := field_int hi hci e4
    obtain ⟨ys, bv, hbv, hyl, hr, hall, hm, _, hcp⟩ := rows_of hts hci (by omega) (fun z hz => hlt z (by rw [hx2]; simp [hz])) e1
    obtain ⟨xs, x1, x2⟩ := intsOf hi ys (fun y hy => by obtain ⟨f, z, h, _⟩ := hall y hy; exact ⟨f, z, h⟩)
    obtain ⟨yg, gv, hgv, hygl, hrg, hallg, hmg, _, _⟩ := rows_of hts hci (by omega) (fun z hz => hlt z (by rw [hx2]; simp [hz])) e2
    obtain ⟨xg, xg1, xg2⟩ := intsOf hi yg (fun y hy => by obtain ⟨f, z, h, _⟩ := hallg y hy; exact ⟨f, z, h⟩)
    obtain ⟨yt, sv, hsv, hytl, hrt, hallt, hmt, _, _⟩ := rows_of htss hcs (by omega) (fun z hz => hlt z (by rw [hx2]; simp [hz])) e3
    obtain ⟨ls, ls1, ls2, ls3⟩ := lists_of hts hi hci yt hallt
    obtain ⟨ws, m2, _, _, hl2, hwl, hf2⟩ := DataW.trod_struct htg e0
    match ws, hwl with
    | [w0, w1, w2, w3, w4], _ =>
      have d0 := hf2 0 g0 rfl
      have d1 := hf2 1 g1 rfl
      have d2 := hf2 2 g2 rfl
      have d3 := hf2 3 g3 rfl
      have d4 := hf2 4 g4 rfl
      simp only [List.getElem?_cons_zero, List.getElem?_cons_succ] at d0 d1 d2 d3 d4
      rw [k0.1, k0.2] at d0
      rw [k1.1, k1.2] at d1
      rw [k2.1, k2.2] at d2
      rw [k3.1, k3.2] at d3
      rw [k4.1, k4.2] at d4
      obtain ⟨a, ha, _, _⟩ := field_int hi hci d0
      obtain ⟨b, hb, _, _⟩ := field_int hi hci d1
      obtain ⟨c, hc', _, _⟩ := field_int hi hci d2
      obtain ⟨x, hx', _, _⟩ := field_int hi hci d3
      obtain ⟨y, hy', _, _⟩ := field_int hi hci d4
      refine ⟨⟨a, b, c, x, y⟩, bv, xs, gv, xg, sv, ls, u, ?_, by show Reads W bv xs.length 1 _; rw [x1, x2]; exact hr, by omega, by show Reads W gv xg.length 1 _; rw [xg1, xg2]; exact hrg, by omega, by rw [ls1, ls2]; exact hrt, by omega, ls3⟩
      rw [hcs] at hbv hgv
      rw [hcss] at hsv
      obtain ⟨l⟩ := cs
      match l, hs with
      | [u0, u1, u2, u3, u4, u5, u6, u7, u8], _ =>
        simp [Value.cells] at ha hb hc' hx' hy' hu hbv hgv hsv
        simp [ask19V, ha, hb, hc', hx', hy', hu, hbv, hgv, hsv]
end
end Go.Proofs.YtilobedihjkpjaaDoor

/-
  What a row's list of the ten errors gives.
-/
namespace Go.Proofs.YtilobedihjkpjaaDoor
open Go Go.RowKit Go.ChangeShapes Go.WideShapes Go.ChangeAt

theorem laid_tail {P : Program} {W : World} {x : String × DataW Unit} {r : List (String × DataW Unit)} {ps : List MemPlace} (h : DataW.LaidVars P W (x :: r) ps ∧ ps.Nodup ∧
    (∀ b off, MemPlace.cell b off ∈ ps → (∃ c t, W.heap[b]? = some (.cells c t (0, 0))) ∧ ∀ u v, W.cell? ⟨b, off, none⟩ = some (.iface u v) → Value.okWide P W .any 0 u v)) :
    ∃ q, DataW.LaidVars P W r q ∧ q.Nodup ∧ (∀ b off, MemPlace.cell b off ∈ q → (∃ c t, W.heap[b]? = some (.cells c t (0, 0))) ∧ ∀ u v, W.cell? ⟨b, off, none⟩ = some (.iface u v) → Value.okWide P W .any 0 u v) := by
  obtain ⟨h, hnd, hrows⟩ := h
  obtain ⟨n, d⟩ := x
  obtain ⟨g, t, cs, fuel, p, q, _, _, _, _, hq, rfl⟩ := h
  exact ⟨q, hq, List.Nodup.sublist (List.sublist_append_right _ _) hnd, fun b off hm => hrows b off (List.mem_append_right _ hm)⟩

theorem errs_of {W : World} {ps : List MemPlace} {t0 t1 t2 t3 t4 t5 t6 t7 t8 t9 : List UInt8} {r : List (String × DataW Unit)}
    (h : DataW.LaidVars Tryd.prog W ([("paddock/api.ErrRange", errD "*errors.errorString" t0), ("paddock/api.ErrFull", errD "*errors.errorString" t1), ("paddock/api.ErrNone", errD "*errors.errorString" t2), ("paddock/api.ErrExists", errD "*errors.errorString" t3), ("paddock/api.ErrKind", errD "*errors.errorString" t4), ("paddock/api.ErrState", errD "*errors.errorString" t5), ("paddock/api.ErrForm", errD "*errors.errorString" t6), ("paddock/api.ErrBlocked", errD "*errors.errorString" t7), ("paddock/api.ErrPath", errD "*errors.errorString" t8), ("paddock/api.ErrGoal", errD "*errors.errorString" t9)] ++ r) ps) (hnd : ps.Nodup)
    (hrows : ∀ b off, MemPlace.cell b off ∈ ps → (∃ c t, W.heap[b]? = some (.cells c t (0, 0))) ∧ ∀ u v, W.cell? ⟨b, off, none⟩ = some (.iface u v) → Value.okWide Tryd.prog W .any 0 u v) : ∃ ad, Err.Errs W ad := by
  obtain ⟨ads, hal, hn, _, hse⟩ := sents_of errT [("paddock/api.ErrRange", 1, t0), ("paddock/api.ErrFull", 2, t1), ("paddock/api.ErrNone", 3, t2), ("paddock/api.ErrExists", 4, t3), ("paddock/api.ErrKind", 5, t4), ("paddock/api.ErrState", 6, t5), ("paddock/api.ErrForm", 7, t6), ("paddock/api.ErrBlocked", 8, t7), ("paddock/api.ErrPath", 9, t8), ("paddock/api.ErrGoal", 0, t9)] (r := r) h hnd hrows
    (by intro x hx; simp only [List.mem_cons, List.not_mem_nil, or_false] at hx; rcases hx with rfl | rfl | rfl | rfl | rfl | rfl | rfl | rfl | rfl | rfl <;> exact ⟨by kernel_rfl, by kernel_rfl⟩)
  have hl : ads.length = 10 := hal
  have hg : ∀ k, k < 10 → ads[k]? = some (ads.getD k ⟨0, 0, none⟩) := by
    intro k hk
    rw [List.getD_eq_getElem?_getD, List.getElem?_eq_getElem (by omega)]
    rfl
  refine ⟨fun k => ads.getD k ⟨0, 0, none⟩, (hse 0 _ _ rfl (hg 0 (by omega))).cell, (hse 1 _ _ rfl (hg 1 (by omega))).cell, (hse 2 _ _ rfl (hg 2 (by omega))).cell, (hse 3 _ _ rfl (hg 3 (by omega))).cell, (hse 4 _ _ rfl (hg 4 (by omega))).cell, (hse 5 _ _ rfl (hg 5 (by omega))).cell, (hse 6 _ _ rfl (hg 6 (by omega))).cell, (hse 7 _ _ rfl (hg 7 (by omega))).cell, (hse 8 _ _ rfl (hg 8 (by omega))).cell, (hse 9 _ _ rfl (hg 9 (by omega))).cell, ?_, ?_⟩
  · intro k hk
    have hx : k < [("paddock/api.ErrRange", 1, t0), ("paddock/api.ErrFull", 2, t1), ("paddock/api.ErrNone", 3, t2), ("paddock/api.ErrExists", 4, t3), ("paddock/api.ErrKind", 5, t4), ("paddock/api.ErrState", 6, t5), ("paddock/api.ErrForm", 7, t6), ("paddock/api.ErrBlocked", 8, t7), ("paddock/api.ErrPath", 9, t8), ("paddock/api.ErrGoal", 0, t9)].length := hk
    exact (hse k _ _ (List.getElem?_eq_getElem hx) (hg k hk)).blk
  · intro i j hi hj e
    have e' : ads[i]? = ads[j]? := by rw [hg i hi, hg j hj]; exact congrArg some e
    rw [List.getElem?_eq_getElem (by omega), List.getElem?_eq_getElem (by omega)] at e'
    have e2 := Option.some.inj e'
    have hp := List.pairwise_iff_getElem.1 hn
    rcases Nat.lt_trichotomy i j with h | h | h
    · exact absurd e2 (hp i j (by omega) (by omega) h)
    · exact h
    · exact absurd e2.symm (hp j i (by omega) (by omega) h)
end Go.Proofs.YtilobedihjkpjaaDoor

/-
  Numbers in order, each once: by insertion, then what stands twice beside itself struck.
-/
namespace Go.Proofs.YtilobedihjkpjaaDoor.Ord

/-- The number at a place. -/
def at' (l : List Int) (k : Nat) : Int := l.getD k 0
theorem at_get {l : List Int} {k : Nat} (h : k < l.length) : l[k]? = some (at' l k) := by simp [at', h]
def swp (l : List Int) (j : Nat) : List Int := (l.set (j + 1) (at' l j)).set j (at' l (j + 1))
theorem swp_len (l : List Int) (j : Nat) : (swp l j).length = l.length := by simp [swp]
theorem swp_at (l : List Int) (j k : Nat) (h : j + 1 < l.length) : at' (swp l j) k = if k = j then at' l (j + 1) else if k = j + 1 then at' l j else at' l k := by
  unfold swp
  by_cases h1 : k = j
  · subst h1
    rw [if_pos rfl]
    simp [at', List.getD_eq_getElem?_getD, show k < l.length by omega]
  · rw [if_neg h1]
    by_cases h2 : k = j + 1
    · subst h2
      rw [if_pos rfl]
      unfold at'
      rw [List.getD_eq_getElem?_getD, List.getElem?_set_ne (by omega), List.getElem?_set_self h]
      rfl
    · rw [if_neg h2]
      unfold at'
      rw [List.getD_eq_getElem?_getD, List.getElem?_set_ne (by omega), List.getElem?_set_ne (by omega), List.getD_eq_getElem?_getD]
theorem swp_perm : ∀ (l : List Int) (j : Nat) (_ : j + 1 < l.length), (swp l j).Perm l
  | [], j, h => by simp at h
  | [_], j, h => by simp at h
  | a :: b :: l, 0, _ => by simp [swp, at']; exact List.Perm.swap _ _ _
  | a :: b :: l, j + 1, h => by
    have := swp_perm (b :: l) j (by simpa using h)
    have e : swp (a :: b :: l) (j + 1) = a :: swp (b :: l) j := by simp [swp, at']
    rw [e]
    exact this.cons a
/-- All but the one at j stand in order, up to place i. -/
def Ins (l : List Int) (i j : Nat) : Prop := ∀ p q, p < q → q ≤ i → q ≠ j → at' l p ≤ at' l q
/-- The first i stand in order. -/
def Rise (l : List Int) (i : Nat) : Prop := ∀ p q, p < q → q < i → at' l p ≤ at' l q
theorem Ins.start {l : List Int} {i : Nat} (h : Rise l i) : Ins l i i := fun p q h1 h2 h3 => h p q h1 (by omega)
theorem Ins.step {l : List Int} {i j : Nat} (h : Ins l i (j + 1)) (hl : i < l.length) (hj : j + 1 ≤ i) (hlt : at' l (j + 1) < at' l j) : Ins (swp l j) i j := by
  intro p q h1 h2 h3
  rw [swp_at _ _ _ (by omega), swp_at _ _ _ (by omega), if_neg h3]
  by_cases e : q = j + 1
  · subst e
    rw [if_pos rfl]
    by_cases e2 : p = j
    · rw [if_pos e2]; omega
    · rw [if_neg e2, if_neg (by omega)]
      exact h p j (by omega) (by omega) (by omega)
  · rw [if_neg e]
    by_cases e2 : p = j
    · rw [if_pos e2]; exact h (j + 1) q (by omega) h2 e
    · rw [if_neg e2]
      by_cases e3 : p = j + 1
      · rw [if_pos e3]; exact h j q (by omega) h2 e
      · rw [if_neg e3]; exact h p q h1 h2 e
theorem Ins.done {l : List Int} {i j : Nat} (h : Ins l i j) (he : j = 0 ∨ at' l (j - 1) ≤ at' l j) : Rise l (i + 1) := by
  intro p q h1 h2
  by_cases e : q = j
  · subst e
    rcases he with rfl | he
    · omega
    · by_cases e2 : p = q - 1
      · subst e2; exact he
      · have := h p (q - 1) (by omega) (by omega) (by omega)
        omega
  · exact h p q h1 (by omega) e

/-- What is left of the first m, each once. -/
def once (l : List Int) : Nat → List Int
  | 0 => []
  | m + 1 => if m = 0 ∨ at' l m ≠ at' l (m - 1) then once l m ++ [at' l m] else once l m
theorem once_le (l : List Int) : ∀ m, (once l m).length ≤ m
  | 0 => by simp [once]
  | m + 1 => by
    have := once_le l m
    unfold once
    split
    · simp; omega
    · omega
theorem once_pos (l : List Int) : ∀ m, 0 < m → 0 < (once l m).length
  | 0, h => by omega
  | m + 1, _ => by
    unfold once
    split
    · simp
    · rename_i h
      exact once_pos l m (by
        by_cases hm : m = 0
        · exact absurd (.inl hm) h
        · omega)
theorem once_mem {l : List Int} : ∀ (m : Nat) (_ : m ≤ l.length) (x : Int), x ∈ once l m ↔ ∃ i, i < m ∧ at' l i = x
  | 0, _, x => by simp [once]
  | m + 1, h, x => by
    have ih := once_mem (l := l) m (by omega) x
    unfold once
    split
    · rw [List.mem_append, ih, List.mem_singleton]
      constructor
      · rintro (⟨i, h1, h2⟩ | h)
        · exact ⟨i, by omega, h2⟩
        · exact ⟨m, by omega, h.symm⟩
      · rintro ⟨i, h1, h2⟩
        by_cases e : i = m
        · subst e; exact .inr h2.symm
        · exact .inl ⟨i, by omega, h2⟩
    · rename_i hc
      rw [ih]
      constructor
      · rintro ⟨i, h1, h2⟩; exact ⟨i, by omega, h2⟩
      · rintro ⟨i, h1, h2⟩
        by_cases e : i = m
        · subst e
          have e2 : at' l i = at' l (i - 1) := by
            by_cases h3 : at' l i = at' l (i - 1)
            · exact h3
            · exact absurd (.inr h3) hc
          exact ⟨i - 1, by omega, by rw [← e2]; exact h2⟩
        · exact ⟨i, by omega, h2⟩
theorem once_rise {l : List Int} : ∀ (m : Nat) (_ : m ≤ l.length) (_ : Rise l m), (once l m).Pairwise (· < ·) ∧ ∀ x ∈ once l m, x ≤ at' l (m - 1)
  | 0, _, _ => by simp [once]
  | m + 1, h, hr => by
    obtain ⟨i1, i2⟩ := once_rise (l := l) m (by omega) (fun p q h1 h2 => hr p q h1 (by omega))
    unfold once
    split
    · rename_i hc
      refine ⟨?_, ?_⟩
      · rw [List.pairwise_append]
        refine ⟨i1, by simp, fun a ha b hb => ?_⟩
        simp only [List.mem_singleton] at hb
        subst hb
        have h1 := i2 a ha
        have hm : m ≠ 0 := by rintro rfl; simp [once] at ha
        have h2 := hr (m - 1) m (by omega) (by omega)
        have h3 : at' l m ≠ at' l (m - 1) := by rcases hc with h | h; exact absurd h hm; exact h
        omega
      · intro x hx
        rw [List.mem_append] at hx
        rcases hx with hx | hx
        · have h1 := i2 x hx
          by_cases hm : m = 0
          · subst hm; simp [once] at hx
          · have h2 := hr (m - 1) m (by omega) (by omega)
            simp only [Nat.add_sub_cancel]
            omega
        · simp only [List.mem_singleton] at hx; subst hx; simp
    · refine ⟨i1, fun x hx => ?_⟩
      have h1 := i2 x hx
      by_cases hm : m = 0
      · subst hm; simp [once] at hx
      · have h2 := hr (m - 1) m (by omega) (by omega)
        simp only [Nat.add_sub_cancel]
        omega
/-- In order, each once: there is one such row. -/
theorem rise_unique : ∀ (a b : List Int), a.Pairwise (· < ·) → b.Pairwise (· < ·) → (∀ x, x ∈ a ↔ x ∈ b) → a = b
  | [], [], _, _, _ => rfl
  | [], y :: b, _, _, h => by have := (h y).2 List.mem_cons_self; cases this
  | x :: a, [], _, _, h => by have := (h x).1 List.mem_cons_self; cases this
  | x :: a, y :: b, ha, hb, h => by
    rw [List.pairwise_cons] at ha hb
    have hxy : x = y := by
      have h1 := (h x).1 List.mem_cons_self
      have h2 := (h y).2 List.mem_cons_self
      rcases List.mem_cons.1 h1 with e | e
      · exact e
      · rcases List.mem_cons.1 h2 with e2 | e2
        · exact e2.symm
        · have := hb.1 x e; have := ha.1 y e2; omega
    subst hxy
    congr 1
    refine rise_unique a b ha.2 hb.2 fun z => ⟨fun hz => ?_, fun hz => ?_⟩
    · rcases List.mem_cons.1 ((h z).1 (List.mem_cons_of_mem _ hz)) with e | e
      · have := ha.1 z hz; omega
      · exact e
    · rcases List.mem_cons.1 ((h z).2 (List.mem_cons_of_mem _ hz)) with e | e
      · have := hb.1 z hz; omega
      · exact e
end Go.Proofs.YtilobedihjkpjaaDoor.Ord

/-
  slices.SortFunc on few whole numbers, by cmp.Compare.
-/
namespace Go.Proofs.YtilobedihjkpjaaDoor.Ord
open Go Go.RowKit
/-- What Compare answers. -/
def cmpZ (a b : Int) : Int := if a < b then -1 else if b < a then 1 else 0
set_option maxRecDepth 100000 in
theorem compare_any (a b : Int) (w : World) : Calls Tryd.prog 73 #[.int .i64 a, .int .i64 b] w fun r w' => r = .returned (.int .i64 (cmpZ a b)) ∧ w = w' := by
  obtain ⟨z, hz⟩ : ∃ z, z = cmpZ a b := ⟨_, rfl⟩
  rw [← hz]
  have HZ := hid hz
  clear hz
  go_enter Tryd.func73, Tryd.ntmps73
  by_cases h1 : a < b
  · go_wp2
    go_ret
    exact ⟨ret_int (by rw [HZ.out]; unfold cmpZ; rw [if_pos h1]), rfl⟩
  · by_cases h2 : b < a
    · go_wp2
      go_ret
      exact ⟨ret_int (by rw [HZ.out]; unfold cmpZ; rw [if_neg (by omega), if_pos h2]), rfl⟩
    · go_wp2
      go_ret
      exact ⟨ret_int (by rw [HZ.out]; unfold cmpZ; rw [if_neg (by omega), if_neg (by omega)]), rfl⟩
set_option maxRecDepth 100000 in
theorem len_small (n : Nat) (hn : n ≤ 8) (w : World) : Calls Tryd.prog 97 #[.int .u64 n] w fun r w' => ∃ k, r = .returned (.int .i64 k) ∧ w = w' := by
  have : n = 0 ∨ n = 1 ∨ n = 2 ∨ n = 3 ∨ n = 4 ∨ n = 5 ∨ n = 6 ∨ n = 7 ∨ n = 8 := by omega
  rcases this with rfl | rfl | rfl | rfl | rfl | rfl | rfl | rfl | rfl
  all_goals
    go_enter Tryd.func97, Tryd.ntmps97
    go_wp2
    go_ret
    exact ⟨_, rfl, rfl⟩
abbrev cmpV : Value := .func (.func 73) #[] #[]
abbrev numR (g n cc : Nat) (l : List Int) : Res := Row 3 1 (.slice (some ⟨g, 0, none⟩) n cc) n (l.map (Value.int .i64))
section
variable {w0 w : World} {L : List Res} {g n cc : Nat} {l : List Int}
theorem num_cell (X : Star w0 w (numR g n cc l :: L)) (t : Nat) (ht : t < n) : l.length = n ∧ w.cell? ⟨g, t, none⟩ = some (.int .i64 (at' l t)) ∧ w.frozen? ⟨g, t, none⟩ = false ∧ g < w.heap.size := by
  have hr := (X.row 0 rfl).1
  have hl : l.length = n := by have := hr.1; simpa using this
  exact ⟨hl, (hr.cellAt t (by omega)).trans (by rw [List.getElem?_map, at_get (by omega)]; rfl), hr.frozenAt t, (hr.lt g rfl).2⟩
theorem num_set (X : Star w0 w (numR g n cc l :: L)) (t : Nat) (k : Int) : Star w0 (w.setCell ⟨g, t, none⟩ (.int .i64 k)) (numR g n cc (l.set t k) :: L) := by
  have h := X.store 0 rfl t (.int .i64 k)
  simp only [List.set_cons_zero] at h
  rw [← List.map_set] at h
  exact h
theorem cmp_same (a b : Int) (w : World) : Calls Tryd.prog 73 #[.int .i64 a, .int .i64 b] w fun r w' => r = .returned (.int .i64 (cmpZ a b)) ∧ w' = w := (compare_any a b w).mono fun _ _ h => ⟨h.1, h.2.symm⟩

set_option maxRecDepth 100000 in
set_option maxHeartbeats 4000000 in
theorem isort_any (X : Star w0 w (numR g n cc l :: L)) (hn : 1 ≤ n) (h8 : n ≤ 1000) : Calls Tryd.prog 114 #[.slice (some ⟨g, 0, none⟩) n cc, .int .i64 0, .int .i64 n, cmpV] w fun r w' => r = .returned (.tuple #[]) ∧ ∃ l', l'.Perm l ∧ Rise l' n ∧ Star w0 w' (numR g n cc l' :: L) := by
  have X0 := hid X
  have hln : l.length = n := (num_cell X 0 (by omega)).1
  clear X
  go_enter Tryd.func114, Tryd.ntmps114
  go_wp2_with fail
  go_loopw [8] (fun iv wr => ∃ (i : Nat) (l' : List Int), 1 ≤ i ∧ i ≤ n ∧ iv = .int .i64 i ∧ Rise l' i ∧ l'.Perm l ∧ Star w0 wr (numR g n cc l' :: L)) (fun iv _ => n - (intOf iv).toNat)
  case atStart => exact ⟨1, l, by omega, hn, rfl, (fun p q h1 h2 => by omega), List.Perm.refl _, X0.out⟩
  case round =>
    obtain ⟨i, l1, hi1, hi, rfl, hr, hp, hX⟩ := hrel
    have X := hid hX
    have HP := hid hp
    have HR := hid hr
    clear hX hp hr X0
    by_cases hin : i < n
    · have HI := hid (Ins.start HR.out)
      go_wp2_with fail
      go_loopw [9] (fun jv wr => ∃ (j : Nat) (l' : List Int), j ≤ i ∧ jv = .int .i64 j ∧ Ins l' i j ∧ l'.Perm l ∧ Star w0 wr (numR g n cc l' :: L)) (fun jv _ => (intOf jv).toNat)
      case atStart => exact ⟨i, l1, by omega, rfl, HI.out, HP.out, X.out⟩
      case round =>
        obtain ⟨j, l2, hj, rfl, hI, hp2, hX⟩ := hrel
        have X2 := hid hX
        have HI2 := hid hI
        have HP2 := hid hp2
        clear hX hI hp2 X HI HP HR
        cases j with
        | zero =>
          have HD := hid (HI2.out.done (.inl rfl))
          go_wp2
          go_quiet (fail)
          go_wp2
          go_roundw
          case rel => exact ⟨i + 1, l2, by omega, by omega, by go_num, HD.out, HP2.out, X2.out.go ((Chg.refl _).drewN _)⟩
          case measure => simp [intOf]; omega
        | succ j =>
          rw [show ((j + 1 : Nat) : Int) = (j : Int) + 1 by omega]
          obtain ⟨hl2, e0, f0, gl⟩ := num_cell X2.out j (by omega)
          obtain ⟨-, e1, f1, -⟩ := num_cell X2.out (j + 1) (by omega)
          have hb1 : 0 ≤ (j : Int) ∧ (j : Int) < (n : Int) := by omega
          have hb2 : 0 ≤ (j : Int) + 1 ∧ (j : Int) + 1 < (n : Int) := by omega
          have hw4 : ((j : Int) + 1).toNat = j + 1 := by omega
          have hw1 : IntKind.i64.wrap ((j : Int) + 1) = (j : Int) + 1 := IntWalk.i64_in _ (by omega)
          have hw2 : IntKind.i64.wrap (j : Int) = (j : Int) := IntWalk.i64_in _ (by omega)
          have hw3 : (j : Int) + 1 - 1 = (j : Int) := by omega
          have HZ := hid (show cmpZ (at' l2 (j + 1)) (at' l2 j) = if at' l2 (j + 1) < at' l2 j then -1 else if at' l2 j < at' l2 (j + 1) then 1 else 0 from rfl)
          have HCMP := hid (fun w => cmp_same (at' l2 (j + 1)) (at' l2 j) w)
          obtain ⟨z, hz⟩ : ∃ z, z = cmpZ (at' l2 (j + 1)) (at' l2 j) := ⟨_, rfl⟩
          rw [← hz] at HZ HCMP
          clear hz
          by_cases hlt : at' l2 (j + 1) < at' l2 j
          · have hz : z < 0 := by rw [HZ.out, if_pos hlt]; omega
            have HI3 := hid (HI2.out.step (by omega) hj hlt)
            have HP3 := hid ((swp_perm l2 j (by omega)).trans HP2.out)
            have YS : Hid (∀ w', Same wr w' → Star w0 ((w'.setCell ⟨g, j + 1, none⟩ (.int .i64 (at' l2 j))).setCell ⟨g, j, none⟩ (.int .i64 (at' l2 (j + 1)))) (numR g n cc (swp l2 j) :: L)) := hid (fun w' hs => num_set (num_set (X2.out.go (w' := w') hs) (j + 1) (at' l2 j)) j (at' l2 (j + 1)))
            clear hlt
            generalize at' l2 (j + 1) = u1 at *
            generalize at' l2 j = u0 at *
            go_wp2
            go_quiet ((go_at_call 73; exact Calls.quiet_of_same (HCMP.out _)))
            go_wp2
            go_region
            all_goals
              go_wp2
              go_roundw
              case rel => exact ⟨j, _, by omega, rfl, HI3.out, HP3.out, YS.out _ (Chg.drewN _ (Chg.refl _))⟩
              case measure => simp [intOf]
          · have hz : ¬ z < 0 := by
              rw [HZ.out, if_neg hlt]
              split <;> omega
            have HD := hid (HI2.out.done (.inr (by simp only [Nat.add_sub_cancel]; omega)))
            clear hlt
            generalize at' l2 (j + 1) = u1 at *
            generalize at' l2 j = u0 at *
            go_wp2
            go_quiet ((go_at_call 73; exact Calls.quiet_of_same (HCMP.out _)))
            go_wp2
            go_roundw
            case rel => exact ⟨i + 1, l2, by omega, by omega, by go_num, HD.out, HP2.out, X2.out.go ((Chg.refl _).drewN _)⟩
            case measure => simp [intOf]; omega
    · obtain rfl : i = n := by omega
      go_wp2
      go_end0
      exact ⟨rfl, l1, HP.out, HR.out, X.out⟩
end
end Go.Proofs.YtilobedihjkpjaaDoor.Ord

/-
  slices.Clone at one type of elements, by its contract.
-/
namespace Go.Proofs.YtilobedihjkpjaaDoor.CloneI
open Go Go.RowKit

theorem info : (Tryd.prog.info? 3).map (fun i => (i.zero, i.size, i.bytes)) = some (some (.int .i64 0), 1, 8) := by kernel_rfl
set_option maxRecDepth 100000 in
theorem clone_any (v : Value) (n : Nat) (ys : List Value) (w : World) (hr : Reads w v n 1 ys) (h1y : ∀ u ∈ ys, u.oneCell' = true) (hn : n ≤ 8000000000000) :
    Calls Tryd.prog 58 #[v] w fun r w' => ∃ v', r = .returned v' ∧ Fresh w w' 3 1 v' n ys ∧ Same w w' := by
  obtain ⟨i0, hi, hz0, hz1, hz2⟩ := info_parts info
  obtain ⟨ad, c, rfl⟩ := hr.slice
  have hs1 := fun wx => Lib.run_eql_slice_nil (P := Tryd.prog) wx 24 3 ad n c 0 0 Tryd.underlying24
  have HR := hid hr
  clear hr
  cases ad with
  | none =>
    obtain ⟨_, _, he, hl, hnn, _⟩ := HR.out
    cases he
    obtain ⟨rfl, rfl⟩ := hnn rfl
    have hys : ys = [] := List.eq_nil_of_length_eq_zero (by simpa using hl)
    subst hys
    go_enter Tryd.func58, Tryd.ntmps58
    go_wp2
    go_ret
    exact ⟨_, rfl, ⟨World.ownsRow_nil _ _ _ _, by simp [Value.ownBlock]⟩, Chg.refl _⟩
  | some ad =>
    go_enter Tryd.func58, Tryd.ntmps58
    go_wp2_with (at_builtin; refine wpList_app rfl _ _ 24 rfl 3 i0 (.int .i64 0) 1 8 Tryd.underlying24 hi hz0 hz1 hz2 rfl (by decide) _ 0 [] rfl (World.ownsRow_lit w #[] 0 (Nat.zero_le _) (by unfold maxLen; omega) rfl) (some ad) n c ys rfl (HR.out.same ((Chg.refl _).alloc _)) h1y (by omega) (by omega) ?_)
    intro a' c' w1 hown hg hv
    have hch : Same w w1 := ((Chg.refl w).alloc (.cells #[] 3)).grown hg (fun k e hk => by simp [Value.ownBlock] at e; omega)
    have hnew : ∀ k, (Value.slice a' n c').ownBlock = some k → w.heap.size ≤ k := by
      intro k hk
      rcases hv with hv | hv
      · rw [hv] at hk; simp [Value.ownBlock] at hk; omega
      · have := hv k hk; simp at this; omega
    have H1 := hid hown
    have H2 := hid hch
    have H3 := hid hnew
    clear hown hch hnew hg hv
    go_wp2
    go_ret
    exact ⟨_, rfl, ⟨H1.out, H3.out⟩, H2.out⟩
end Go.Proofs.YtilobedihjkpjaaDoor.CloneI
