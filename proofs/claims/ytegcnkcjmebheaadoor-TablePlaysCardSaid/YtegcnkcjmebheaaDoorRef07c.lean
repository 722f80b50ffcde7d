/-
  paddockref07: Get.
-/
import Derived.Test.YtegcnkcjmebheaaDoorRef07b
namespace Go.Proofs.YtegcnkcjmebheaaDoor.Tab
open Go Go.RowKit Go.Maps Go.Proofs.YtegcnkcjmebheaaDoor.Mask Go.Proofs.YtegcnkcjmebheaaDoor.TableSets
section
variable {w0 w : World} {L : List Res} {G : List En} {p m : Nat} {sl : Value} {es : List En}
set_option maxRecDepth 100000 in
theorem rget_no (X : Star w0 w (rfB p m sl :: rfE sl es :: L)) (i k : Int) (hi : i < 0 ∨ (es.length : Int) ≤ i) :
    Calls Tryd.prog 26 #[.pointer (some ⟨p, 0, none⟩), .int .i64 i, .int .i64 k] w fun r w' => r = .returned (.tuple #[vV ⟨0, 0, 0⟩, .int .i64 1]) ∧ Star w0 w' (rfB p m sl :: rfE sl es :: L) := by
  have Y0 := hid ((X.alloc #[.int .i64 0, .int .i64 0, .int .i64 0] 37).pull 1 rfl |>.pull 2 rfl |>.swap)
  have HI := hid hi
  clear X hi
  go_enter Tryd.func26, Tryd.ntmps26
  go_wp2_with fail
  refine (has_no Y0.out i HI.out).mono ?_
  rintro r w' ⟨rfl, rfl⟩
  have Y1 := hid (Y0.out.pull 2 rfl)
  generalize w.alloc _ = w1 at *
  generalize w.heap.size = q at *
  have hb := (Y1.out.blk 0 rfl).1
  have f0 := cell_of hb 0
  have f1 := cell_of hb 1
  have f2 := cell_of hb 2
  have g0 := free_of hb 0
  have g1 := free_of hb 1
  have g2 := free_of hb 2
  have fl := lt_of hb
  simp only [List.getElem?_toArray, List.getElem?_cons_zero, List.getElem?_cons_succ] at f0 f1 f2
  have Y9 := hid (((Y1.out.put 0 rfl 0 (.int .i64 0)).put 0 rfl 1 (.int .i64 0)).put 0 rfl 2 (.int .i64 0))
  clear hb Y0 Y1
  go_wp2
  refine bodyPost_ret (v := .tuple #[.agg #[.int .i64 0, .int .i64 0, .int .i64 0], .int .i64 1]) (results_cell_tmp Tryd.results26 _ _ q _ _ _ _ rfl (Y9.out.blk 0 rfl).1 Tryd.underlying37 rfl (vlS _ _ _) _ rfl) rfl ⟨rfl, ?_⟩
  exact Y9.out.drop
/-- What Get answers where there is such a place. -/
def getA (o : Option Vl) : Value := match o with
  | some x => .tuple #[vV x, .int .i64 0]
  | none => .tuple #[vV ⟨0, 0, 0⟩, .int .i64 5]
set_option maxRecDepth 100000 in
set_option maxHeartbeats 8000000 in
theorem rget_in (X : Star w0 w (rfB p m sl :: rfE sl es :: poolR G :: L)) (i : Nat) (k : Int) (e : En) (hi : es[i]? = some e) (hG : e ∈ G) (hx : es.length ≤ 1000000) (hv : e.vs.length ≤ 100000) :
    Calls Tryd.prog 26 #[.pointer (some ⟨p, 0, none⟩), .int .i64 i, .int .i64 k] w fun r w' => r = .returned (getA (findK e.vs k)) ∧ Star w0 w' (rfB p m sl :: rfE sl es :: poolR G :: L) := by
  have X0 := hid ((X.alloc #[.int .i64 0, .int .i64 0, .int .i64 0] 37).pull 1 rfl |>.pull 2 rfl |>.swap)
  have HI := hid hi
  have hil := (List.getElem?_eq_some_iff.1 hi).1
  have HIL := hid hil
  have RP : Hid (∀ (W : World) (M : List Res), Star w0 W M → ∀ j : Nat, M[j]? = some (poolR G) → Reads W e.v e.vs.length 3 (e.vs.flatMap vc)) := hid (fun W M X j hj => pool_reads X j hj hG)
  obtain ⟨⟨x1, x2⟩, xa, xc, xv⟩ := e
  obtain ⟨xl, hxl⟩ : ∃ xl, xl = xv.length := ⟨_, rfl⟩
  obtain ⟨n, hn⟩ : ∃ n, n = es.length := ⟨_, rfl⟩
  have HXL := hid hxl
  have HN := hid hn
  obtain ⟨F, hF⟩ : ∃ F, F = findK xv k := ⟨_, rfl⟩
  have HF := hid hF
  dsimp only at hv ⊢
  rw [← hF]
  have hx2 : n ≤ 1000000 := by omega
  have HV := hid hv
  clear X hi hF hG hv
  go_enter Tryd.func26, Tryd.ntmps26
  go_wp2_with fail
  refine (has_yes X0.out i HIL.out).mono ?_
  rintro r w' ⟨rfl, rfl⟩
  have X1 : Hid (Star w0 (w.alloc (.cells #[.int .i64 0, .int .i64 0, .int .i64 0] 37)) (Blk w.heap.size #[.int .i64 0, .int .i64 0, .int .i64 0] 37 :: rfB p m sl :: Row 46 3 sl n (es.flatMap ec) :: poolR G :: L)) := hid (by rw [HN.out]; exact X0.out.pull 2 rfl)
  generalize w.alloc _ = w1 at *
  generalize w.heap.size = q4 at *
  obtain ⟨g, cp, rfl⟩ := own_shape (X1.out.row 2 rfl).1 (by omega)
  obtain ⟨e0, e1, e2, hgl⟩ := ent_cells X1.out 2 rfl HN.out HI.out
  have hb := (X1.out.blk 1 rfl).1
  have b1 := cell_of hb 1
  have bl := lt_of hb
  simp only [List.getElem?_toArray, List.getElem?_cons_zero, List.getElem?_cons_succ] at b1
  dsimp only [En.v] at e0 e1 e2
  rw [← hxl] at e2
  have hin : i < n := by omega
  clear hb X0 hil hn hx e0 e1 
  go_wp2_with fail
  have RR := RP.out _ _ X1.out 3 rfl
  dsimp only [En.v] at RR
  refine (ref_find _ xv k (by rw [← hxl] at RR; rw [← hxl]; exact RR) HV.out).mono ?_
  rintro r w2 ⟨hr, hs⟩
  rw [← HF.out] at hr
  have X2 := hid (X1.out.go hs)
  clear hs RR e2 b1 hgl bl X1 hxl
  cases F with
  | none =>
    dsimp only at hr
    subst hr
    have X3 := hid (X2.out.alloc #[.int .i64 0, .int .i64 0, .int .i64 0] 37).drop
    have hb := (X3.out.blk 0 rfl).1
    have f0 := cell_of hb 0
    have f1 := cell_of hb 1
    have f2 := cell_of hb 2
    have g0 := free_of hb 0
    have g1 := free_of hb 1
    have g2 := free_of hb 2
    have fl := lt_of hb
    simp only [List.getElem?_toArray, List.getElem?_cons_zero, List.getElem?_cons_succ] at f0 f1 f2
    have Y9 := hid (((X3.out.put 0 rfl 0 (.int .i64 0)).put 0 rfl 1 (.int .i64 0)).put 0 rfl 2 (.int .i64 0))
    clear hb X2 X3
    go_wp2
    refine bodyPost_ret (v := .tuple #[.agg #[.int .i64 0, .int .i64 0, .int .i64 0], .int .i64 5]) (results_cell_tmp Tryd.results26 _ _ q4 _ _ _ _ rfl (Y9.out.blk 0 rfl).1 Tryd.underlying37 rfl (vlS _ _ _) _ rfl) rfl ⟨rfl, ?_⟩
    have h := Y9.out.drop
    obtain rfl := HN.out
    exact h
  | some y =>
    obtain ⟨y1, y2, y3⟩ := y
    dsimp only at hr
    subst hr
    have hb := (X2.out.blk 0 rfl).1
    have f0 := cell_of hb 0
    have f1 := cell_of hb 1
    have f2 := cell_of hb 2
    have g0 := free_of hb 0
    have g1 := free_of hb 1
    have g2 := free_of hb 2
    have fl := lt_of hb
    simp only [List.getElem?_toArray, List.getElem?_cons_zero, List.getElem?_cons_succ] at f0 f1 f2
    have YA := hid ((((X2.out.put 0 rfl 0 (.int .i64 y1)).put 0 rfl 1 (.int .i64 y2)).put 0 rfl 2 (.int .i64 y3)).alloc #[.int .i64 y1, .int .i64 y2, .int .i64 y3] 37).drop
    clear hb X2
    go_wp2
    refine bodyPost_ret (v := .tuple #[.agg #[.int .i64 y1, .int .i64 y2, .int .i64 y3], .int .i64 0]) (results_cell_tmp Tryd.results26 _ _ q4 _ _ _ _ rfl (YA.out.blk 0 rfl).1 Tryd.underlying37 rfl (vlS _ _ _) _ rfl) rfl ⟨rfl, ?_⟩
    have h := YA.out.drop
    obtain rfl := HN.out
    exact h
end
end Go.Proofs.YtegcnkcjmebheaaDoor.Tab
