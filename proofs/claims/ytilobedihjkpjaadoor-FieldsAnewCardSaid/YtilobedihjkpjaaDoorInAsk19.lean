/-
  A grid, blocked tiles, goals, sets of tiles and a tile that came in.
-/
import Derived.Test.YtilobedihjkpjaaDoorInRows
import Derived.Test.YtilobedihjkpjaaDoorGridRight
namespace Go.Proofs.YtilobedihjkpjaaDoor
open Go Go.RowKit Go.ChangeShapes Go.WideShapes Go.ChangeAt
/-- Such an ask as a value. -/
def ask19V (g : Grd) (bv gv sv : Value) (t : Int) : Value := .agg #[.int .i64 g.W, .int .i64 g.H, .int .i64 g.S, .int .i64 g.X, .int .i64 g.Y, bv, gv, sv, .int .i64 t]
section
variable {H : Type} {enc : TypeId × Value → H} {P : Program}
theorem lists_of {ts ti : TypeId} {W : World} (hts : P.underlying ts = some (.slice ti)) (hi : P.underlying ti = some (.int .i64)) (hci : P.cellsOf ti = 1) : ∀ (ys : List (List Value)), (∀ y ∈ ys, ∃ f z, DataW.trod enc P W 0 (fun _ => true) true f ts y = some z ∧ ∀ u ∈ z.2, u.block < W.heap.size) →
    ∃ ls : List (Value × List Int), ls.length = ys.length ∧ ls.map (·.1) = ys.flatten ∧ ∀ l ∈ ls, Ints W l.1 l.2 ∧ l.2.length ≤ maxLen
  | [], _ => ⟨[], rfl, rfl, by simp⟩
  | y :: ys, h => by
    obtain ⟨ls, e1, e2, e3⟩ := lists_of hts hi hci ys (fun z hz => h z (List.mem_cons_of_mem _ hz))
    obtain ⟨f, z, hz, hzl⟩ := h y List.mem_cons_self
    obtain ⟨ys2, v, rfl, hyl, hr, hall, hm, _, _⟩ := rows_of hts hci (by omega) hzl hz
    obtain ⟨xs, x1, x2⟩ := intsOf hi ys2 (fun y hy => by obtain ⟨f, z, h, _⟩ := hall y hy; exact ⟨f, z, h⟩)
    refine ⟨(v, xs) :: ls, by simp [e1], by simp [e2], ?_⟩
    intro l hl
    rcases List.mem_cons.1 hl with rfl | hl
    · exact ⟨by show Reads W v xs.length 1 _; rw [x1, x2]; exact hr, by show xs.length ≤ maxLen; omega⟩
    · exact e3 l hl
theorem in_ask19 {t tg ti ts tss : TypeId} {f0 f1 f2 f3 f4 g0 g1 g2 g3 g4 : Field} {W : World} {b0 : Nat} {v : Value} {d : DataW H} {ps : List MemPlace} (ht : P.underlying t = some (.struct #[f0, f1, f2, f3, f4])) (hc : P.cellsOf t = 9) (htg : P.underlying tg = some (.struct #[g0, g1, g2, g3, g4])) (hcg : P.cellsOf tg = 5)
    (hi : P.underlying ti = some (.int .i64)) (hci : P.cellsOf ti = 1) (hts : P.underlying ts = some (.slice ti)) (hcs : P.cellsOf ts = 1) (htss : P.underlying tss = some (.slice ts)) (hcss : P.cellsOf tss = 1)
    (h0 : f0.type = tg ∧ f0.offset = 0) (h1 : f1.type = ts ∧ f1.offset = 5) (h2 : f2.type = ts ∧ f2.offset = 6) (h3 : f3.type = tss ∧ f3.offset = 7) (h4 : f4.type = ti ∧ f4.offset = 8)
    (k0 : g0.type = ti ∧ g0.offset = 0) (k1 : g1.type = ti ∧ g1.offset = 1) (k2 : g2.type = ti ∧ g2.offset = 2) (k3 : g3.type = ti ∧ g3.offset = 3) (k4 : g4.type = ti ∧ g4.offset = 4)
    (hlt : ∀ z ∈ ps, z.block < W.heap.size) (hv : Value.okWide P W .any b0 t v) (h : DataW.Trod enc P W 0 (fun _ => true) true t v d ps) : ∃ (g : Grd) (bv : Value) (bl : List Int) (gv : Value) (gl : List Int) (sv : Value) (ls : List (Value × List Int)) (t : Int), v = ask19V g bv gv sv t ∧ Ints W bv bl ∧ bl.length ≤ maxLen ∧ Ints W gv gl ∧ gl.length ≤ maxLen ∧ Reads W sv ls.length 1 (ls.map (·.1)) ∧ ls.length ≤ maxLen ∧ ∀ l ∈ ls, Ints W l.1 l.2 ∧ l.2.length ≤ maxLen := by
  obtain ⟨cs, rfl, hs⟩ := okWide_struct ht hv
  rw [hc] at hs
  obtain ⟨fuel, hf⟩ := h
  obtain ⟨zs, m, _, hx, hl, hzl, hf⟩ := DataW.trod_struct ht hf
  match zs, hzl with
  | [z0, z1, z2, z3, z4], _ =>
    have e0 := hf 0 f0 rfl
    have e1 := hf 1 f1 rfl
    have e2 := hf 2 f2 rfl
    have e3 := hf 3 f3 rfl
    have e4 := hf 4 f4 rfl
    simp only [List.getElem?_cons_zero, List.getElem?_cons_succ] at e0 e1 e2 e3 e4
    rw [h0.1, h0.2, hcg] at e0
    rw [h1.1, h1.2] at e1
    rw [h2.1, h2.2] at e2
    rw [h3.1, h3.2] at e3
    rw [h4.1, h4.2] at e4
    have hx2 : ps = _ := congrArg Prod.snd hx
    obtain ⟨u, hu, _, _⟩ := field_int hi hci e4
    obtain ⟨ys, bv, hbv, hyl, hr, hall, hm, _, hcp⟩ := rows_of hts hci (by omega) (fun z hz => hlt z (by rw [hx2]; simp [hz])) e1
    obtain ⟨xs, x1, x2⟩ := intsOf hi ys (fun y hy => by obtain ⟨f, z, h, _⟩ := hall y hy; exact ⟨f, z, h⟩)
    obtain ⟨yg, gv, hgv, hygl, hrg, hallg, hmg, _, _⟩ := rows_of hts hci (by omega) (fun z hz => hlt z (by rw [hx2]; simp [hz])) e2
    obtain ⟨xg, xg1, xg2⟩ := intsOf hi yg (fun y hy => by obtain ⟨f, z, h, _⟩ := hallg y hy; exact ⟨f, z, h⟩)
    obtain ⟨yt, sv, hsv, hytl, hrt, hallt, hmt, _, _⟩ := rows_of htss hcs (by omega) (fun z hz => hlt z (by rw [hx2]; simp [hz])) e3
    obtain ⟨ls, ls1, ls2, ls3⟩ := lists_of hts hi hci yt hallt
    obtain ⟨ws, m2, _, _, hl2, hwl, hf2⟩ := DataW.trod_struct htg e0
    match ws, hwl with
    | [w0, w1, w2, w3, w4], _ =>
      have d0 := hf2 0 g0 rfl
      have d1 := hf2 1 g1 rfl
      have d2 := hf2 2 g2 rfl
      have d3 := hf2 3 g3 rfl
      have d4 := hf2 4 g4 rfl
      simp only [List.getElem?_cons_zero, List.getElem?_cons_succ] at d0 d1 d2 d3 d4
      rw [k0.1, k0.2] at d0
      rw [k1.1, k1.2] at d1
      rw [k2.1, k2.2] at d2
      rw [k3.1, k3.2] at d3
      rw [k4.1, k4.2] at d4
      obtain ⟨a, ha, _, _⟩ := field_int hi hci d0
      obtain ⟨b, hb, _, _⟩ := field_int hi hci d1
      obtain ⟨c, hc', _, _⟩ := field_int hi hci d2
      obtain ⟨x, hx', _, _⟩ := field_int hi hci d3
      obtain ⟨y, hy', _, _⟩ := field_int hi hci d4
      refine ⟨⟨a, b, c, x, y⟩, bv, xs, gv, xg, sv, ls, u, ?_, by show Reads W bv xs.length 1 _; rw [x1, x2]; exact hr, by omega, by show Reads W gv xg.length 1 _; rw [xg1, xg2]; exact hrg, by omega, by rw [ls1, ls2]; exact hrt, by omega, ls3⟩
      rw [hcs] at hbv hgv
      rw [hcss] at hsv
      obtain ⟨l⟩ := cs
      match l, hs with
      | [u0, u1, u2, u3, u4, u5, u6, u7, u8], _ =>
        simp [Value.cells] at ha hb hc' hx' hy' hu hbv hgv hsv
        simp [ask19V, ha, hb, hc', hx', hy', hu, hbv, hgv, hsv]
end
end Go.Proofs.YtilobedihjkpjaaDoor
