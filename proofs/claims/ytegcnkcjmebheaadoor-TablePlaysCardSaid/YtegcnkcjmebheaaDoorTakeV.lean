/-
  column.Column[api.Value]: Take.
-/
import Derived.Test.YtegcnkcjmebheaaDoorColV
namespace Go.Proofs.YtegcnkcjmebheaaDoor.Tab.CV
open Go Go.RowKit
section
variable {w0 w : World} {L : List Res} {p : Nat} {xs : List Vl} {m : Int}
set_option maxRecDepth 100000 in
set_option maxHeartbeats 1000000 in
theorem take_out (X : Star w0 w (R p xs m :: L)) (i : Int) (hi : i < 0 ∨ (xs.length : Int) ≤ i) (hx : xs.length ≤ 1000000) (T : TypeId) (u : Addr) (he : w0.cell? ⟨2, 0, none⟩ = some (.iface T (.pointer (some u)))) :
    Calls Tryd.prog 41 #[.pointer (some ⟨p, 0, none⟩), .int .i64 i] w fun r w' => r = .returned (.tuple #[.agg #[.int .i64 0, .int .i64 0, .int .i64 0], .iface T (.pointer (some u))]) ∧ Star w0 w' (R p xs m :: L) := by
  have X0 := hid ((X.alloc #[.int .i64 0, .int .i64 0, .int .i64 0] 37).swap)
  clear X
  go_enter Tryd.func41, Tryd.ntmps41
  go_wp2_with fail
  refine (get_out X0.out i hi hx _ he).mono ?_
  rintro r w1 ⟨rfl, hs⟩
  have X1 := hid (((X0.out.go hs).alloc #[.int .i64 0, .int .i64 0, .int .i64 0] 37).pull 1 rfl)
  clear hs X0 hi
  have hb := (X1.out.blk 2 rfl).1
  have b0 : (w1.alloc (.cells #[.int .i64 0, .int .i64 0, .int .i64 0] 37)).cell? ⟨w.heap.size, 0, none⟩ = some (.int .i64 0) := cell_of hb 0
  have f0 : (w1.alloc (.cells #[.int .i64 0, .int .i64 0, .int .i64 0] 37)).frozen? ⟨w.heap.size, 0, none⟩ = false := free_of hb 0
  have b1 : (w1.alloc (.cells #[.int .i64 0, .int .i64 0, .int .i64 0] 37)).cell? ⟨w.heap.size, 1, none⟩ = some (.int .i64 0) := cell_of hb 1
  have f1 : (w1.alloc (.cells #[.int .i64 0, .int .i64 0, .int .i64 0] 37)).frozen? ⟨w.heap.size, 1, none⟩ = false := free_of hb 1
  have b2 : (w1.alloc (.cells #[.int .i64 0, .int .i64 0, .int .i64 0] 37)).cell? ⟨w.heap.size, 2, none⟩ = some (.int .i64 0) := cell_of hb 2
  have f2 : (w1.alloc (.cells #[.int .i64 0, .int .i64 0, .int .i64 0] 37)).frozen? ⟨w.heap.size, 2, none⟩ = false := free_of hb 2
  have bl := lt_of hb
  clear hb
  go_wp2
  refine bodyPost_ret (v := .tuple #[.agg #[.int .i64 0, .int .i64 0, .int .i64 0], .iface T (.pointer (some u))]) (by simp [results, Tryd.results41, go_sem, *]) rfl ⟨rfl, ?_⟩
  first
    | exact ((X1.out.pull 2 rfl).drop.pull 1 rfl).drop
    | exact ((((((X1.out.put 2 rfl 0 (.int .i64 0)).put 2 rfl 1 (.int .i64 0)).put 2 rfl 2 (.int .i64 0))).pull 2 rfl).drop.pull 1 rfl).drop
set_option maxRecDepth 100000 in
set_option maxHeartbeats 4000000 in
theorem take_in (X : Star w0 w (R p xs m :: L)) (i : Nat) (x : Vl) (hi : xs[i]? = some x) (hx : xs.length ≤ 1000000) :
    Calls Tryd.prog 41 #[.pointer (some ⟨p, 0, none⟩), .int .i64 i] w fun r w' => r = .returned (.tuple #[vV x, .nilIface]) ∧ Star w0 w' (R p (takeOut xs i) m :: L) := by
  have X0 := hid ((X.alloc #[.int .i64 0, .int .i64 0, .int .i64 0] 37).swap)
  have HI := hid hi
  have hil := (List.getElem?_eq_some_iff.1 hi).1
  obtain ⟨n, hn⟩ : ∃ n, xs.length = n + 1 := ⟨xs.length - 1, by omega⟩
  obtain ⟨y, hy⟩ : ∃ y, xs[n]? = some y := ⟨xs[n]'(by omega), by simp⟩
  clear X hi
  obtain ⟨x1, x2, x3⟩ := x
  obtain ⟨y1, y2, y3⟩ := y
  go_enter Tryd.func41, Tryd.ntmps41
  go_wp2_with fail
  refine (get_in X0.out i _ HI.out hx).mono ?_
  rintro r w1 ⟨rfl, hs⟩
  have X1 := hid (((X0.out.go hs).alloc #[.int .i64 x1, .int .i64 x2, .int .i64 x3] 37).pull 1 rfl)
  clear hs X0
  obtain ⟨g, cp, n', hn', hcp, hY, ⟨e0, e1, e2⟩, hgl, hgf, hpg, hgp⟩ := spot X1.out n ⟨y1, y2, y3⟩ hy
  obtain rfl : n' = n + 1 := by omega
  have Y1 := hid hY
  obtain ⟨h0, -, hpf, hpl⟩ := facts hY
  have gf0 := hgf (i * 3)
  have u0 : (w1.alloc (.cells #[.int .i64 x1, .int .i64 x2, .int .i64 x3] 37)).cell? ⟨g, i * 3, none⟩ = some (.int .i64 x1) := ((hY.row 1 rfl).1.cellAt _ (by omega)).trans ((rows_get vc vc_len xs i 0 ⟨x1, x2, x3⟩ HI.out (by omega)).trans rfl)
  have gf1 := hgf (i * 3 + 1)
  have u1 : (w1.alloc (.cells #[.int .i64 x1, .int .i64 x2, .int .i64 x3] 37)).cell? ⟨g, i * 3 + 1, none⟩ = some (.int .i64 x2) := ((hY.row 1 rfl).1.cellAt _ (by omega)).trans ((rows_get vc vc_len xs i 1 ⟨x1, x2, x3⟩ HI.out (by omega)).trans rfl)
  have gf2 := hgf (i * 3 + 2)
  have u2 : (w1.alloc (.cells #[.int .i64 x1, .int .i64 x2, .int .i64 x3] 37)).cell? ⟨g, i * 3 + 2, none⟩ = some (.int .i64 x3) := ((hY.row 1 rfl).1.cellAt _ (by omega)).trans ((rows_get vc vc_len xs i 2 ⟨x1, x2, x3⟩ HI.out (by omega)).trans rfl)
  have hin : i < n + 1 := by omega
  have hn6 : n ≤ 1000000 := by omega
  have HN := hid hn
  have HY := hid hy
  simp only at e0 e1 e2
  clear hY X1 hgf hn hy hn' hx
  go_wp2_with fail
  go_region
  all_goals
    have hset := vset xs i ⟨x1, x2, x3⟩ ⟨y1, y2, y3⟩ HI.out
    have hY2 := ((((Y1.out.store 1 rfl (i * 3) (.int .i64 y1)).store 1 rfl (i * 3 + 1) (.int .i64 y2)).store 1 rfl (i * 3 + 2) (.int .i64 y3))).go (w' := ((((w1.alloc (.cells #[.int .i64 x1, .int .i64 x2, .int .i64 x3] 37)).setCell ⟨g, i * 3, none⟩ (.int .i64 y1)).setCell ⟨g, i * 3 + 1, none⟩ (.int .i64 y2)).setCell ⟨g, i * 3 + 2, none⟩ (.int .i64 y3)).drew) ((Chg.refl _).drew)
    have Y2 : Hid (Star w0 ((((w1.alloc (.cells #[.int .i64 x1, .int .i64 x2, .int .i64 x3] 37)).setCell ⟨g, i * 3, none⟩ (.int .i64 y1)).setCell ⟨g, i * 3 + 1, none⟩ (.int .i64 y2)).setCell ⟨g, i * 3 + 2, none⟩ (.int .i64 y3)).drew (B p (.slice (some ⟨g, 0, none⟩) (n + 1) cp) m :: W (.slice (some ⟨g, 0, none⟩) (n + 1) cp) (n + 1) (xs.set i ⟨y1, y2, y3⟩) :: Blk w1.heap.size #[.int .i64 x1, .int .i64 x2, .int .i64 x3] 37 :: Blk w.heap.size #[.int .i64 0, .int .i64 0, .int .i64 0] 37 :: L)) := hid (by
      have h := hY2
      simp only [List.set_cons_succ, List.set_cons_zero] at h
      rw [hset] at h
      exact h)
    clear hset hY2 h0 hpf hpl e0 gf0 u0 e1 gf1 u1 e2 gf2 u2 hgl Y1
    generalize hw3 : ((((w1.alloc (.cells #[.int .i64 x1, .int .i64 x2, .int .i64 x3] 37)).setCell ⟨g, i * 3, none⟩ (.int .i64 y1)).setCell ⟨g, i * 3 + 1, none⟩ (.int .i64 y2)).setCell ⟨g, i * 3 + 2, none⟩ (.int .i64 y3)).drew = w3 at *
    clear hw3
    generalize w1.heap.size = q6 at *
    generalize w.heap.size = q4 at *
    obtain ⟨h0, -, hpf, hpl⟩ := facts Y2.out
    have hrow := (Y2.out.row 1 rfl).1
    have hgl := (hrow.lt g rfl).2
    have hyn : (xs.set i ⟨y1, y2, y3⟩)[n]? = some ⟨y1, y2, y3⟩ := by
      rw [List.getElem?_set]
      split
      · first | rw [if_pos hil] | rfl
      · exact HY.out
    have e0 : w3.cell? ⟨g, n * 3, none⟩ = some (.int .i64 y1) := (hrow.cellAt _ (by omega)).trans ((rows_get vc vc_len (xs.set i ⟨y1, y2, y3⟩) n 0 ⟨y1, y2, y3⟩ hyn (by omega)).trans rfl)
    have gf0 := hrow.frozenAt (n * 3)
    have e1 : w3.cell? ⟨g, n * 3 + 1, none⟩ = some (.int .i64 y2) := (hrow.cellAt _ (by omega)).trans ((rows_get vc vc_len (xs.set i ⟨y1, y2, y3⟩) n 1 ⟨y1, y2, y3⟩ hyn (by omega)).trans rfl)
    have gf1 := hrow.frozenAt (n * 3 + 1)
    have e2 : w3.cell? ⟨g, n * 3 + 2, none⟩ = some (.int .i64 y3) := (hrow.cellAt _ (by omega)).trans ((rows_get vc vc_len (xs.set i ⟨y1, y2, y3⟩) n 2 ⟨y1, y2, y3⟩ hyn (by omega)).trans rfl)
    have gf2 := hrow.frozenAt (n * 3 + 2)
    have hclr := run_clear3 (P := Tryd.prog) w3 38 37 0 Tryd.underlying38 zeroE g (n * 3) (cp - n) e0 e1 e2 gf0 gf1 gf2
    have hb6 := (Y2.out.blk 2 rfl).1
    have hb4 := (Y2.out.blk 3 rfl).1
    have s0 := cell_of hb6 0
    have r0 := cell_of hb4 0
    have t0 := free_of hb4 0
    have s1 := cell_of hb6 1
    have r1 := cell_of hb4 1
    have t1 := free_of hb4 1
    have s2 := cell_of hb6 2
    have r2 := cell_of hb4 2
    have t2 := free_of hb4 2
    have sl := lt_of hb6
    have rl := lt_of hb4
    simp only [List.getElem?_toArray, List.getElem?_cons_zero, List.getElem?_cons_succ] at s0 r0 s1 r1 s2 r2
    obtain ⟨m1, m1'⟩ := Y2.out.neBB 0 2 rfl rfl (by omega)
    obtain ⟨m2, m2'⟩ := Y2.out.neBB 0 3 rfl rfl (by omega)
    obtain ⟨m3, m3'⟩ := Y2.out.neBB 2 3 rfl rfl (by omega)
    obtain ⟨m4, m4'⟩ := Y2.out.neRB 1 2 rfl rfl (by omega)
    obtain ⟨m5, m5'⟩ := Y2.out.neRB 1 3 rfl rfl (by omega)
    have hcn : ¬ cp = n := by omega
    have hnc : n ≤ cp := by omega
    have HYN := hid hyn
    clear hrow hb6 hb4 hyn
    go_wp2
    refine bodyPost_ret (v := .tuple #[.agg #[.int .i64 x1, .int .i64 x2, .int .i64 x3], .nilIface]) (by simp [results, Tryd.results41, go_sem, *]) rfl ⟨rfl, ?_⟩
    have h := (((((((Y2.out.store 1 rfl (n * 3) (.int .i64 0)).store 1 rfl (n * 3 + 1) (.int .i64 0)).store 1 rfl (n * 3 + 2) (.int .i64 0)).put 0 rfl 0 (.slice (some ⟨g, 0, none⟩) n cp)).put 3 rfl 0 (.int .i64 x1)).put 3 rfl 1 (.int .i64 x2)).put 3 rfl 2 (.int .i64 x3))
    simp only [List.set_cons_succ, List.set_cons_zero] at h
    rw [vset (xs.set i ⟨y1, y2, y3⟩) n ⟨y1, y2, y3⟩ ⟨0, 0, 0⟩ HYN.out] at h
    have h2 := h.set 1 (R' := W (.slice (some ⟨g, 0, none⟩) n cp) n (takeOut xs i)) rfl (by
      rintro F ⟨h, rfl⟩
      have h' := own_take h n (by omega)
      rw [rows_take vc vc_len, takeOut_eq xs i n ⟨y1, y2, y3⟩ _ HN.out HY.out] at h'
      exact ⟨h', rfl⟩)
    have h3 : Star w0 _ (B p (.slice (some ⟨g, 0, none⟩) n cp) m :: W (.slice (some ⟨g, 0, none⟩) n cp) n (takeOut xs i) :: L) := (((h2.pull 2 rfl).drop).pull 2 rfl).drop
    have e : n = (takeOut xs i).length := by rw [takeOut_len, HN.out]; omega
    rw [show W (.slice (some ⟨g, 0, none⟩) n cp) n (takeOut xs i) = W (.slice (some ⟨g, 0, none⟩) n cp) (takeOut xs i).length (takeOut xs i) by rw [← e]] at h3
    exact colR.close h3
end
end Go.Proofs.YtegcnkcjmebheaaDoor.Tab.CV
