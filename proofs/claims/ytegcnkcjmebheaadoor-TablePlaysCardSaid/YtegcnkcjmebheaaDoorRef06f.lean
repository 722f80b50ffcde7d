/-
  paddockref06: Put.
-/
import Derived.Test.YtegcnkcjmebheaaDoorRef06d
import Derived.Deep.RegionHeld3
namespace Go.Proofs.YtegcnkcjmebheaaDoor.Tab
open Go Go.RowKit Go.Proofs.YtegcnkcjmebheaaDoor.Mask
theorem star_only {w0 w : World} {R : Res} {L : List Res} (X : Star w0 w ([R] ++ L)) : Star w0 w [R] := by
  obtain ⟨G, h⟩ := X.all
  cases (show Things w0 w (R :: L) G from h) with
  | cons a1 a2 a3 ht => exact ⟨X.same, _, .cons a1 a2 (fun _ _ f => f) .nil⟩
section
variable {w : World}
/-- Row, where the components are a row. -/
theorem ref_row_ok (v : Value) (vs : List Vl) (n : Nat) (hnn : n = vs.length) (hr : Reads w v n 3 (vs.flatMap vc)) (hn : n ≤ 10000) (hok : ∀ y ∈ vs, chkN y = 0) (hone : ∀ k, k < 10 → (rowOf vs k).length ≤ 1) :
    Calls Tryd.prog 43 #[v] w fun r w' => ∃ v', r = .returned (.tuple #[v', .int .i64 0]) ∧ Star w w' [Row 37 3 v' (sortTo vs 10).length ((sortTo vs 10).flatMap vc)] := by
  subst hnn
  refine (ref_row v vs hr hn).mono ?_
  rintro r w' (⟨⟨x, hx, h⟩, -⟩ | ⟨-, ⟨k, hk, h⟩, -⟩ | ⟨-, -, h⟩)
  · exact absurd (hok x hx) h
  · have := hone k hk
    omega
  · exact h
set_option maxRecDepth 100000 in
set_option maxHeartbeats 4000000 in
/-- Put, where the row with the component is one. -/
theorem ref_put (v : Value) (vs : List Vl) (x : Vl) (hr : Reads w v vs.length 3 (vs.flatMap vc)) (hn : vs.length ≤ 5000) (hok : ∀ y ∈ dropK vs x.k ++ [x], chkN y = 0) (hone : ∀ k, k < 10 → (rowOf (dropK vs x.k ++ [x]) k).length ≤ 1) :
    Calls Tryd.prog 19 #[v, vV x] w fun r w' => ∃ v', r = .returned v' ∧ Star w w' [Row 37 3 v' (sortTo (dropK vs x.k ++ [x]) 10).length ((sortTo (dropK vs x.k ++ [x]) 10).flatMap vc)] := by
  obtain ⟨i0, hi0, hz0, hz1, hz2⟩ := info_parts (show (Tryd.prog.info? 37).map (fun i => (i.zero, i.size, i.bytes)) = some (some (.agg #[.int .i64 0, .int .i64 0, .int .i64 0]), 3, 24) by kernel_rfl)
  obtain ⟨xk, xa, xb⟩ := x
  dsimp only at hok hone ⊢
  have Z := hid ((Star.new w).alloc #[.int .i64 xk, .int .i64 xa, .int .i64 xb] 37)
  have hdl := dropK_le vs xk
  have DR := hid (fun (W : World) (hs : Same (w.alloc (.cells #[.int .i64 xk, .int .i64 xa, .int .i64 xb] 37)) W) => ref_drop (w := W) v vs xk ((hr.same Z.out.same).same hs) (by omega))
  generalize dropK vs xk = ds at *
  obtain ⟨dl, hdd⟩ : ∃ dl, dl = ds.length := ⟨_, rfl⟩
  rw [← hdd] at DR hdl
  have hfm : (ds ++ [(⟨xk, xa, xb⟩ : Vl)]).flatMap vc = ds.flatMap vc ++ [.int .i64 xk, .int .i64 xa, .int .i64 xb] := by
    rw [List.flatMap_append]; rfl
  have RW := hid (fun (W : World) (v' : Value) (h : Reads W v' (dl + 1) 3 (ds.flatMap vc ++ [.int .i64 xk, .int .i64 xa, .int .i64 xb])) => ref_row_ok (w := W) v' (ds ++ [(⟨xk, xa, xb⟩ : Vl)]) (dl + 1) (by rw [List.length_append, hdd]; rfl) (by rw [hfm]; exact h) (by omega) hok hone)
  generalize sortTo (ds ++ [(⟨xk, xa, xb⟩ : Vl)]) 10 = out at *
  have hdn : dl ≤ 5000 := by omega
  clear hr hn hok hone hdl hdd hfm
  go_enter Tryd.func19, Tryd.ntmps19
  go_wp2_with fail
  generalize w.alloc _ = w1 at *
  generalize w.heap.size = q at *
  have hbk := (Z.out.blk 0 rfl).1
  have q0 := cell_of hbk 0
  have q1 := cell_of hbk 1
  have q2 := cell_of hbk 2
  have ql := lt_of hbk
  simp only [List.getElem?_toArray, List.getElem?_cons_zero, List.getElem?_cons_succ] at q0 q1 q2
  clear hbk
  go_region_law (first
    | (go_simp; refine (DR.out _ ((Chg.refl _).drew)).mono ?_; rintro r w5 ⟨v5, rfl, hX5⟩; have Y5 := hid ((Z.out.go ((Chg.refl _).drew)).lift hX5); have k0 := (hX5.same.after' ((Chg.refl w1).drew)).keep q0; have k1 := (hX5.same.after' ((Chg.refl w1).drew)).keep q1; have k2 := (hX5.same.after' ((Chg.refl w1).drew)).keep q2; have Y6 := hid (Y5.out.alloc #[.int .i64 xk, .int .i64 xa, .int .i64 xb] 37); clear hX5 Y5; have hO := hid (Y6.out.row 1 rfl).1; have hR := hid (reads_blk (Y6.out.blk 0 rfl).1 1 1 3 rfl))
    | (go_simp; refine (DR.out _ (((Chg.refl _).drew).alloc _)).mono ?_; rintro r w5 ⟨v5, rfl, hX5⟩; have Y6 := hid (((Z.out.go ((Chg.refl _).drew)).alloc #[.int .i64 xk, .int .i64 xa, .int .i64 xb] 37).lift hX5); have k0 := (hX5.same.after' (((Chg.refl w1).drew).alloc _)).keep q0; have k1 := (hX5.same.after' (((Chg.refl w1).drew).alloc _)).keep q1; have k2 := (hX5.same.after' (((Chg.refl w1).drew).alloc _)).keep q2; clear hX5; have hO := hid (Y6.out.row 0 rfl).1; have hR := hid (reads_blk (Y6.out.blk 1 rfl).1 1 1 3 rfl))
    | (refine step_app rfl (.tmp 11) (.tmp 13) 38 rfl 37 i0 (.agg #[.int .i64 0, .int .i64 0, .int .i64 0]) 3 24 Tryd.underlying38 hi0 hz0 hz1 hz2 rfl (by decide) _ dl (ds.flatMap vc) rfl hO.out (some _) 1 _ [.int .i64 xk, .int .i64 xa, .int .i64 xb] rfl hR.out (vc_one ⟨xk, xa, xb⟩) (by omega) (by omega) ?_; intro a' c' w6 ho hg hn; first | (have Y7 := hid ((Y6.out.grown 1 rfl ho hg hn).pull 1 rfl); clear ho hg hn Y6 hO hR) | (have Y7 := hid ((Y6.out.grown 0 rfl ho hg hn).pull 0 rfl); clear ho hg hn Y6 hO hR))
    | (go_simp; refine (RW.out _ _ (Reads.of_own (Y7.out.row 0 rfl).1)).mono ?_; rintro r w7 ⟨v7, rfl, hX7⟩; have Y8 := hid (Y7.out.lift hX7); clear hX7 Y7))
  all_goals
    have Y9 := hid (star_only Y8.out)
    clear Y8 k0 k1 k2 q0 q1 q2 ql Z DR RW
    go_wp2
    go_ret
    exact ⟨v7, rfl, Y9.out⟩
end
end Go.Proofs.YtegcnkcjmebheaaDoor.Tab
