/-
  FieldMore: the texts Field, FieldReckon, CloneC, FieldReads, FieldFlat, joined.
-/
import Derived.Test.YtilobedihjkpjaaDoorFieldMoreQ4
import Derived.Test.YtilobedihjkpjaaDoorFieldMoreQ8
import Derived.Test.YtilobedihjkpjaaDoorProg
import Derived.Test.YtilobedihjkpjaaDoorFieldMoreQ2
import Derived.Test.YtilobedihjkpjaaDoorFieldMoreQ3

/-
  Package field: a field as it lies in memory; New.
-/
namespace Go.Proofs.YtilobedihjkpjaaDoor
/-- A cell's direction, as the program finds it. -/
def Gr.dirB (c : List Int) (t : Nat) (s : Gr.St) : Bool := decide (0 < cAt c t) && decide (cAt c s.to = cAt c t - s.c)
def Gr.dirOf (G : Gr) (c : List Int) (t : Nat) : Int := match (G.around t).find? (Gr.dirB c t) with
  | some s => s.d
  | none => -1
/-- The cells of a ground's field. -/
def Gr.cells (G : Gr) (c : List Int) (k : Nat) : List (Int × Int) := (List.range k).map fun t => (cAt c t, G.dirOf c t)
theorem Gr.cells_len (G : Gr) (c : List Int) (k : Nat) : (G.cells c k).length = k := by simp [Gr.cells]
theorem Gr.cells_get (G : Gr) (c : List Int) {n t : Nat} (h : t < n) : (G.cells c n)[t]? = some (cAt c t, G.dirOf c t) := by simp [Gr.cells, h]
end Go.Proofs.YtilobedihjkpjaaDoor
namespace Go.Proofs.YtilobedihjkpjaaDoor.Fld
open Go Go.RowKit Go.Proofs.YtilobedihjkpjaaDoor.Steps Go.Proofs.YtilobedihjkpjaaDoor.Ord Go.Proofs.YtilobedihjkpjaaDoor.Route
/-- A cell's cells. -/
def ceC (p : Int × Int) : List Value := [.int .i64 p.1, .int .i64 p.2]
theorem ceC_len (p : Int × Int) : (ceC p).length = 2 := rfl
theorem ceC_one (p : Int × Int) : ∀ u ∈ ceC p, u.oneCell' = true := by intro u hu; simp [ceC] at hu; rcases hu with rfl | rfl <;> rfl
def ceCs (l : List (Int × Int)) : List Value := l.flatMap ceC
abbrev fldC (p g m gc : Nat) (cv : Value) : Array Value := #[.pointer (some ⟨p, 0, none⟩), .slice (some ⟨g, 0, none⟩) m gc, cv]
abbrev cellR (cv : Value) (l : List (Int × Int)) : Res := Row 41 2 cv l.length (ceCs l)
/-- Its goals as tiles. -/
def goalsOf (gl : List Int) : List Nat := gl.map Int.toNat
/-- A field: its ground, its goals; its cells, if they are reckoned already. -/
structure Shape where
  p : Nat
  g : Nat
  gc : Nat
  cv : Value
  b : Bool
def fldR (f : Nat) (G : Gr) (gl : List Int) (c : List Int) : Res := exR fun x : Shape =>
  sepR (Blk f (fldC x.p x.g gl.length x.gc x.cv) 89) (sepR (gndR 92 x.p G) (sepR (numR x.g gl.length x.gc gl) (sepR (cellR x.cv (if x.b then G.cells c G.fs.length else [])) (factR (x.b = true ∨ x.cv = .slice none 0 0)))))
section
variable {w0 w : World} {L : List Res} {f : Nat} {G : Gr} {gl c : List Int}
theorem fldR.open (X : Star w0 w (fldR f G gl c :: L)) : ∃ x : Shape, (x.b = true ∨ x.cv = .slice none 0 0) ∧ Star w0 w (Blk f (fldC x.p x.g gl.length x.gc x.cv) 89 :: gndR 92 x.p G :: numR x.g gl.length x.gc gl :: cellR x.cv (if x.b then G.cells c G.fs.length else []) :: L) := by
  obtain ⟨x, h⟩ := X.open_ex
  have h1 := h.open_sep
  have h2 := (h1.swap).open_sep
  have h3 : Star w0 w (sepR (numR x.g gl.length x.gc gl) (sepR (cellR x.cv (if x.b then G.cells c G.fs.length else [])) (factR (x.b = true ∨ x.cv = .slice none 0 0))) :: gndR 92 x.p G :: Blk f (fldC x.p x.g gl.length x.gc x.cv) 89 :: L) := h2.swap
  have h4 := h3.open_sep
  have h5 := (h4.swap).open_sep
  have h6 : Star w0 w (factR (x.b = true ∨ x.cv = .slice none 0 0) :: cellR x.cv (if x.b then G.cells c G.fs.length else []) :: numR x.g gl.length x.gc gl :: gndR 92 x.p G :: Blk f (fldC x.p x.g gl.length x.gc x.cv) 89 :: L) := h5.swap
  obtain ⟨hf, h7⟩ := h6.open_fact
  exact ⟨x, hf, ((h7.pull 1 rfl).pull 2 rfl).pull 3 rfl⟩
theorem fldR.close (x : Shape) (hf : x.b = true ∨ x.cv = .slice none 0 0) (X : Star w0 w (Blk f (fldC x.p x.g gl.length x.gc x.cv) 89 :: gndR 92 x.p G :: numR x.g gl.length x.gc gl :: cellR x.cv (if x.b then G.cells c G.fs.length else []) :: L)) : Star w0 w (fldR f G gl c :: L) := by
  have h1 := X.pull 3 rfl
  have h2 : Star w0 w (factR (x.b = true ∨ x.cv = .slice none 0 0) :: cellR x.cv (if x.b then G.cells c G.fs.length else []) :: Blk f (fldC x.p x.g gl.length x.gc x.cv) 89 :: gndR 92 x.p G :: numR x.g gl.length x.gc gl :: L) := Star.close_fact hf h1
  have h3 := (h2.swap).close_sep
  have h4 : Star w0 w (numR x.g gl.length x.gc gl :: sepR (cellR x.cv (if x.b then G.cells c G.fs.length else [])) (factR (x.b = true ∨ x.cv = .slice none 0 0)) :: Blk f (fldC x.p x.g gl.length x.gc x.cv) 89 :: gndR 92 x.p G :: L) := h3.pull 3 rfl
  have h5 := h4.close_sep
  have h6 : Star w0 w (gndR 92 x.p G :: sepR (numR x.g gl.length x.gc gl) (sepR (cellR x.cv (if x.b then G.cells c G.fs.length else [])) (factR (x.b = true ∨ x.cv = .slice none 0 0))) :: Blk f (fldC x.p x.g gl.length x.gc x.cv) 89 :: L) := h5.pull 2 rfl
  have h7 := h6.close_sep
  exact Star.close_ex x ((h7.swap).close_sep)
end
section
variable {w : World} {p pg pc : Nat} {G : Gr}
set_option maxRecDepth 100000 in
set_option maxHeartbeats 4000000 in
theorem new_ok (hG : Gnd 92 w p pg pc G) (xs : List Int) (v : Value) (hr : Ints w v xs) (h1 : 1 ≤ xs.length) (h8 : xs.length ≤ 8) (hin : ∀ x ∈ xs, 0 ≤ x ∧ x < G.fs.length) :
    Calls Tryd.prog 11 #[.pointer (some ⟨p, 0, none⟩), v] w fun r w' => ∃ f gl, OrdOf xs gl ∧ r = .returned (.tuple #[.pointer (some ⟨f, 0, none⟩), .nilIface]) ∧ ∀ c, Star w w' [fldR f G gl c] := by
  obtain ⟨av, cv, rfl⟩ := hr.slice
  have HG := hid hG
  have HR := hid hr
  have HIN := hid hin
  obtain ⟨n, hn⟩ : ∃ n, n = xs.length := ⟨_, rfl⟩
  have HN := hid hn
  rw [← hn] at HR h1 h8 ⊢
  have HB : Hid (∀ (j : Nat) (t : Int), xs[j]? = some t → ∃ b off cap, Value.slice av n cv = .slice (some ⟨b, off, none⟩) n cap ∧ w.cell? ⟨b, off + j, none⟩ = some (.int .i64 t) ∧ 0 ≤ t ∧ t < G.fs.length) := hid (fun j t ht => by
    obtain ⟨hj, e2⟩ := (List.getElem?_eq_some_iff.1 ht)
    obtain ⟨b, off, cap, e, _, hc⟩ := HR.out.cells (by omega)
    rw [← hn] at e
    exact ⟨b, off, cap, e, by rw [← e2]; exact hc j hj, HIN.out t (List.mem_of_getElem? ht)⟩)
  clear hr hn hG hin
  go_enter Tryd.func11, Tryd.ntmps11
  go_wp2_with fail
  go_loop [7, 19] (fun _ iv => ∃ j : Nat, j ≤ n ∧ iv = .int .i64 j) (fun _ iv => n - (intOf iv).toNat)
  case atStart => exact ⟨0, by omega, rfl⟩
  case round =>
    obtain ⟨j, hj, rfl⟩ := hrel
    by_cases hjn : j < n
    · obtain ⟨t, ht⟩ : ∃ t, xs[j]? = some t := ⟨_, List.getElem?_eq_getElem (by have := HN.out; omega)⟩
      obtain ⟨b, off, cap, e1, hc, ht0, ht1⟩ := HB.out j t ht
      cases e1
      have hbl := World.block_lt_of_cell? _ _ hc
      have hlt : ¬ (G.fs.length : Int) ≤ t := by omega
      clear ht
      go_wp2_with fail
      refine (len_any HG.out).mono ?_
      rintro r w' ⟨rfl, rfl⟩
      go_wp2
      go_round
      case rel => exact ⟨j + 1, by omega, by go_num⟩
      case measure => simp [intOf]; omega
    · go_wp2_with fail
      refine (clone_gnd HG.out).mono ?_
      rintro r w1 ⟨q, rfl, hX1⟩
      have X1 := hid hX1
      clear hX1
      go_wp2_with fail
      refine (ordInts_any w1 xs _ (HR.out.same X1.out.same) (by rw [← HN.out]; exact h1) (by rw [← HN.out]; exact h8)).mono ?_
      rintro r w2 ⟨g, cc, gl, ho, rfl, hX2⟩
      have X2 := hid ((X1.out.lift hX2).nilRow 41 2)
      have HO := hid ho
      clear hX2 ho X1
      go_wp2
      go_ret2
      refine ⟨w2.heap.size, gl, HO.out, rfl, fun c => ?_⟩
      have h := ((((X2.out.alloc (fldC q g gl.length cc (.slice none 0 0)) 89).pull 1 rfl).pull 2 rfl).pull 3 rfl).pull 3 rfl
      exact fldR.close ⟨q, g, cc, .slice none 0 0, false⟩ (.inr rfl) h
end
end Go.Proofs.YtilobedihjkpjaaDoor.Fld

/-
  A field's cells are reckoned.
-/
namespace Go.Proofs.YtilobedihjkpjaaDoor
/-- The cells, of which the first k are reckoned. -/
def Gr.cellsTo (G : Gr) (c : List Int) (n k : Nat) : List (Int × Int) := (List.range n).map fun i => if i < k then (cAt c i, G.dirOf c i) else (0, 0)
section
variable {G : Gr} {c : List Int} {n k : Nat}
theorem Gr.cellsTo_len : (G.cellsTo c n k).length = n := by simp [Gr.cellsTo]
theorem Gr.cellsTo_get (h : k < n) : (G.cellsTo c n k)[k]? = some (0, 0) := by simp [Gr.cellsTo, h]
theorem Gr.cellsTo_set : (G.cellsTo c n k).set k (cAt c k, G.dirOf c k) = G.cellsTo c n (k + 1) := by
  unfold Gr.cellsTo
  apply List.ext_getElem
  · simp
  · intro i h1 h2
    simp only [List.getElem_set, List.getElem_map, List.getElem_range]
    by_cases e : k = i
    · subst e; simp
    · rw [if_neg e]
      by_cases h : i < k
      · rw [if_pos h, if_pos (by omega)]
      · rw [if_neg h, if_neg (by omega)]
theorem Gr.cellsTo_all : G.cellsTo c n n = G.cells c n := by
  unfold Gr.cellsTo Gr.cells
  apply List.map_congr_left
  intro i hi
  rw [if_pos (List.mem_range.1 hi)]
theorem dirOf_none {t : Nat} (h : ∀ s ∈ G.around t, Gr.dirB c t s = false) : G.dirOf c t = -1 := by
  unfold Gr.dirOf
  rw [List.find?_eq_none.2 (fun s hs => by rw [h s hs]; simp)]
theorem dirOf_at {t j : Nat} {x : Gr.St} (hj : (G.around t)[j]? = some x) (h : ∀ y ∈ (G.around t).take j, Gr.dirB c t y = false) (hx : Gr.dirB c t x = true) : G.dirOf c t = x.d := by
  obtain ⟨hl, e⟩ := List.getElem?_eq_some_iff.1 hj
  unfold Gr.dirOf
  have h0 : (G.around t).take j ++ x :: (G.around t).drop (j + 1) = G.around t := by
    rw [← e, ← List.drop_eq_getElem_cons hl, List.take_append_drop]
  rw [← h0, List.find?_append]
  have h1 : ((G.around t).take j).find? (Gr.dirB c t) = none := by
    rw [List.find?_eq_none]
    intro y hy
    rw [h y hy]; simp
  rw [h1, Option.none_or, List.find?_cons, hx]
end
end Go.Proofs.YtilobedihjkpjaaDoor
namespace Go.Proofs.YtilobedihjkpjaaDoor.Fld
open Go Go.RowKit Go.Proofs.YtilobedihjkpjaaDoor.Steps Go.Proofs.YtilobedihjkpjaaDoor.Ord Go.Proofs.YtilobedihjkpjaaDoor.Route
theorem infoC : (Tryd.prog.info? 41).map (fun i => (i.zero, i.size, i.bytes)) = some (some (.agg #[.int .i64 0, .int .i64 0]), 2, 16) := by kernel_rfl
theorem made_cells (n : Nat) (G : Gr) (c : List Int) : (madeCells (Value.agg #[.int .i64 0, .int .i64 0]).cells (n * 2)).toList = ceCs (G.cellsTo c n 0) := by
  have e : G.cellsTo c n 0 = List.replicate n (0, 0) := by
    apply List.ext_getElem
    · simp [Gr.cellsTo]
    · intro i h1 h2; simp [Gr.cellsTo]
  rw [e]
  have hl : (ceCs (List.replicate n ((0 : Int), (0 : Int)))).length = n * 2 := by
    have := rows_len ceC ceC_len (List.replicate n ((0 : Int), (0 : Int)))
    simpa [ceCs] using this
  apply List.ext_getElem?
  intro j
  by_cases hj : j < n * 2
  · have h1 : (ceCs (List.replicate n ((0 : Int), (0 : Int))))[j / 2 * 2 + j % 2]? = (ceC (0, 0))[j % 2]? := rows_get ceC ceC_len _ (j / 2) (j % 2) (0, 0) (by rw [List.getElem?_replicate, if_pos (by omega)]) (Nat.mod_lt _ (by omega))
    rw [show j / 2 * 2 + j % 2 = j by omega] at h1
    rw [h1]
    have h2 : j % 2 = 0 ∨ j % 2 = 1 := by omega
    simp only [madeCells, Array.toList_map, Array.toList_range, List.getElem?_map, List.getElem?_range hj, Option.map_some]
    rcases h2 with h2 | h2 <;> simp [Value.cells, h2, ceC]
  · rw [List.getElem?_eq_none (by simp [madeCells]; omega), List.getElem?_eq_none (by omega)]
theorem goals_ints {gl : List Int} (h : ∀ x ∈ gl, 0 ≤ x) : gC (goalsOf gl) = gl.map (Value.int .i64) := by
  unfold gC goalsOf
  rw [List.map_map]
  apply List.map_congr_left
  intro x hx
  have := h x hx
  simp only [Function.comp]
  congr 1
  omega
/-- What a field must be. -/
structure FOk (G : Gr) (gl c : List Int) : Prop where
  ok : G.Ok
  least : Least G (goalsOf gl) c
  pos : 1 ≤ gl.length
  le : gl.length ≤ 8
  ins : ∀ x ∈ gl, 0 ≤ x ∧ x < G.fs.length
theorem FOk.bound {G : Gr} {gl c : List Int} (h : FOk G gl c) (hb : ∀ t, cAt c t ≤ 14 * G.fs.length) (t : Nat) : -1 ≤ cAt c t ∧ cAt c t ≤ 20000 := by
  have h1 := h.least.low t
  have h2 := hb t
  have h3 := h.ok.max
  omega
abbrev openL (f : Nat) (x : Shape) (G : Gr) (gl : List Int) (l : List (Int × Int)) (L : List Res) : List Res :=
  Blk f (fldC x.p x.g gl.length x.gc x.cv) 89 :: gndR 92 x.p G :: numR x.g gl.length x.gc gl :: cellR x.cv l :: L
section
variable {w0 w : World} {L : List Res} {f : Nat} {G : Gr} {gl c : List Int}
set_option maxRecDepth 100000 in
set_option maxHeartbeats 8000000 in
theorem reckon_any (X : Star w0 w (fldR f G gl c :: L)) (hF : FOk G gl c) :
    Calls Tryd.prog 49 #[.pointer (some ⟨f, 0, none⟩)] w fun r w' => ∃ x : Shape, r = .returned x.cv ∧ Star w0 w' (openL f x G gl (G.cells c G.fs.length) L) := by
  obtain ⟨i0, hi0, hz0, hz1, hz2⟩ := info_parts infoC
  obtain ⟨x, hxb, hY⟩ := fldR.open X
  have HF := hid hF
  have hN := hF.ok.max
  have hb := (hY.blk 0 rfl).1
  have d0 := cell_of hb 0
  have d1 := cell_of hb 1
  have d2 := cell_of hb 2
  have dl := lt_of hb
  have df := free_of hb 2
  simp only [List.getElem?_toArray, List.getElem?_cons_zero, List.getElem?_cons_succ] at d0 d1 d2
  obtain ⟨n, hn⟩ : ∃ n, n = G.fs.length := ⟨_, rfl⟩
  have HN := hid hn
  rw [← hn] at hY hN ⊢
  obtain ⟨p, g, gc, cv, b⟩ := x
  dsimp only at hxb hY d0 d1 d2
  have Y := hid hY
  clear X hF hb hn
  cases b with
  | true =>
    have hrow := (Y.out.row 3 rfl).1
    simp only [if_true] at hrow
    obtain ⟨cg, cc, rfl⟩ := own_shape hrow (by rw [Gr.cells_len]; omega)
    have Z : Hid (Star w0 w (openL f ⟨p, g, gc, .slice (some ⟨cg, 0, none⟩) (G.cells c n).length cc, true⟩ G gl (G.cells c n) L)) := Y
    have hs1 := fun wx => Lib.run_eql_slice_nil (P := Tryd.prog) wx 38 41 (some ⟨cg, 0, none⟩) (G.cells c n).length cc 0 0 Tryd.underlying38
    clear hrow Y hY hxb
    go_enter Tryd.func49, Tryd.ntmps49
    go_wp2
    go_ret
    exact ⟨_, rfl, Z.out⟩
  | false =>
    have hcv : cv = .slice none 0 0 := by rcases hxb with h | h; cases h; exact h
    subst hcv
    have hs1 := fun wx => Lib.run_eql_slice_nil (P := Tryd.prog) wx 38 41 none 0 0 0 0 Tryd.underlying38
    have Z := hid (((Y.out.pull 3 rfl).drop))
    clear hxb Y hY
    go_enter Tryd.func49, Tryd.ntmps49
    go_wp2
    obtain ⟨pg, pc, hG, -⟩ := gnd_at Z.out 1 rfl
    have HG := hid hG
    have hgr := (Z.out.row 2 rfl).1
    have HGR := hid (show Reads w.drew (.slice (some ⟨g, 0, none⟩) gl.length gc) (goalsOf gl).length 1 (gC (goalsOf gl)) by
      rw [goals_ints (fun x hx => (HF.out.ins x hx).1)]
      unfold goalsOf
      rw [List.length_map]
      exact (Reads.of_own hgr).same ((Chg.refl _).drew))
    clear hG hgr
    go_region_held3 (fun w' => w'.cell? ⟨f, 0, none⟩ = some (.pointer (some ⟨p, 0, none⟩)) ∧ w'.cell? ⟨f, 1, none⟩ = some (.slice (some ⟨g, 0, none⟩) gl.length gc)) (go_keep) ((go_at_call 74; refine (costs_ok (HG.out.same ((Chg.refl _).drew)) (goalsOf gl) _ HGR.out (by unfold goalsOf; rw [List.length_map]; exact HF.out.pos) (by unfold goalsOf; rw [List.length_map]; exact HF.out.le) (by intro t ht; unfold goalsOf at ht; obtain ⟨x, hx, rfl⟩ := List.mem_map.1 ht; have := HF.out.ins x hx; omega)).mono ?_; rintro r w1 ⟨c', cg, cc, rfl, hL', hT', hX1⟩; obtain rfl := hL'.unique HF.out.least; have HT := hid hT'; have k0 := (hX1.same.after' ((Chg.refl w).drew)).keep d0; have k1 := (hX1.same.after' ((Chg.refl w).drew)).keep d1; have Z1 := hid (((Z.out.go ((Chg.refl _).drew)).lift hX1)); rw [← HN.out] at Z1 ⊢; clear hX1 hL' hT'))
    all_goals
      have Z2 : Hid (Star w0 w1 (costR cg n cc c' :: Blk f (fldC p g gl.length gc (.slice none 0 0)) 89 :: gndR 92 p G :: numR g gl.length gc gl :: L)) := Z1
      clear Z1 Z hs1 d0 d1 d2 df dl HG HGR
      have k2 := cell_of (Z2.out.blk 1 rfl).1 2
      have kl := lt_of (Z2.out.blk 1 rfl).1
      simp only [List.getElem?_toArray, List.getElem?_cons_zero, List.getElem?_cons_succ] at k2
      have hby : i0.bytes * n ≤ 281474976710656 := by rw [hz2]; omega
      go_wp2_with (at_make; refine wpList_make_full _ rfl _ _ 38 rfl 0 41 i0 (.agg #[.int .i64 0, .int .i64 0]) 2 Tryd.underlying38 hi0 hz0 hz1 _ _ _ _ n rfl rfl rfl rfl hby (by unfold maxLen; omega) (Nat.zero_le _) ?_; intro wc hoc hgc; have XC := hid (Z2.out.add (w' := wc) ((Chg.refl _).grown hgc (fun k e _ => by cases e)) (R := Row 41 2 (.slice (some ⟨w1.heap.size, 0, none⟩) n n) n (ceCs (G.cellsTo c' n 0))) ⟨by rw [made_cells n G c'] at hoc; exact hoc, rfl⟩ (fun k h => by have h' := Option.some.inj h; rw [← h']; exact Nat.le_refl _)); clear hoc hgc; have k0 := cell_of (XC.out.blk 2 rfl).1 0; have k1 := cell_of (XC.out.blk 2 rfl).1 1; have k2 := cell_of (XC.out.blk 2 rfl).1 2; have kf := free_of (XC.out.blk 2 rfl).1 2; have kl := lt_of (XC.out.blk 2 rfl).1; simp only [List.getElem?_toArray, List.getElem?_cons_zero, List.getElem?_cons_succ] at k0 k1 k2)
      have XD := hid ((((XC.out.put 2 rfl 2 (.slice (some ⟨w1.heap.size, 0, none⟩) n n)).pull 1 rfl).pull 1 rfl))
      have XM : Hid (Star w0 (wc.setCell ⟨f, 2, none⟩ (.slice (some ⟨w1.heap.size, 0, none⟩) n n)) (Row 41 2 (.slice (some ⟨w1.heap.size, 0, none⟩) n n) n (ceCs (G.cellsTo c' n 0)) :: Blk f (fldC p g gl.length gc (.slice (some ⟨w1.heap.size, 0, none⟩) n n)) 89 :: costR cg n cc c' :: gndR 92 p G :: numR g gl.length gc gl :: L)) := hid (((XC.out.put 2 rfl 2 (.slice (some ⟨w1.heap.size, 0, none⟩) n n)).pull 2 rfl).swap)
      clear XD XC Z2 k0 k1 k2 kf kl hby
      generalize wc.setCell _ _ = w2 at *
      generalize w1.heap.size = gv at *
      clear k0 k1 k2 kl
      go_loopw [6, 40] (fun _ iv wr => ∃ k : Nat, k ≤ n ∧ iv = .int .i64 k ∧ Star w0 wr (Row 41 2 (.slice (some ⟨gv, 0, none⟩) n n) n (ceCs (G.cellsTo c' n k)) :: Blk f (fldC p g gl.length gc (.slice (some ⟨gv, 0, none⟩) n n)) 89 :: costR cg n cc c' :: gndR 92 p G :: numR g gl.length gc gl :: L)) (fun _ iv _ => n - (intOf iv).toNat)
      case atStart => exact ⟨0, by omega, rfl, XM.out⟩
      case round =>
        obtain ⟨k, hk, rfl, hX⟩ := hrel
        have X := hid hX
        clear XM hX
        by_cases hkn : k < n
        · have hb := (X.out.blk 1 rfl).1
          have d0 := cell_of hb 0
          have d2 := cell_of hb 2
          have dl := lt_of hb
          simp only [List.getElem?_toArray, List.getElem?_cons_zero, List.getElem?_cons_succ] at d0 d2
          have hclen : c'.length = n := by rw [HN.out]; exact HF.out.least.len
          have hrc := (X.out.row 2 rfl).1
          have g0 : wr.cell? ⟨cg, k, none⟩ = some (.int .i64 (cAt c' k)) := (hrc.cellAt k (by omega)).trans (by rw [List.getElem?_map, cAt_get (by omega)]; rfl)
          have gcl := (hrc.lt cg rfl).2
          have hrv := (X.out.row 0 rfl).1
          have vl := (hrv.lt gv rfl).2
          have v0 := hrv.frozenAt (k * 2)
          have v1 := hrv.frozenAt (k * 2 + 1)
          have e0 : wr.cell? ⟨gv, k * 2, none⟩ = some (.int .i64 0) := (hrv.cellAt (k * 2) (by omega)).trans ((rows_get ceC ceC_len _ k 0 (0, 0) (Gr.cellsTo_get hkn) (by omega)).trans rfl)
          have e1 : wr.cell? ⟨gv, k * 2 + 1, none⟩ = some (.int .i64 0) := (hrv.cellAt (k * 2 + 1) (by omega)).trans ((rows_get ceC ceC_len _ k 1 (0, 0) (Gr.cellsTo_get hkn) (by omega)).trans rfl)
          obtain ⟨pg, pc, hG, -⟩ := gnd_at X.out 3 rfl
          obtain ⟨n1, n2⟩ := X.out.neRB 0 1 rfl rfl (by omega)
          clear hb hrc hrv hG hclen
          go_wp2_with fail
          have XA : Hid (Star w0 ((wr.setCell ⟨gv, k * 2, none⟩ (.int .i64 (cAt c' k))).setCell ⟨gv, k * 2 + 1, none⟩ (.int .i64 (-1))) (Row 41 2 (.slice (some ⟨gv, 0, none⟩) n n) n (ceCs ((G.cellsTo c' n k).set k (cAt c' k, -1))) :: Blk f (fldC p g gl.length gc (.slice (some ⟨gv, 0, none⟩) n n)) 89 :: costR cg n cc c' :: gndR 92 p G :: numR g gl.length gc gl :: L)) := hid (by
            have h := (X.out.store 0 rfl (k * 2) (.int .i64 (cAt c' k))).store 0 rfl (k * 2 + 1) (.int .i64 (-1))
            have e2 := rows_set1 ceC ceC_len (G.cellsTo c' n k) k 0 (0, 0) (cAt c' k, 0) (.int .i64 (cAt c' k)) (Gr.cellsTo_get hkn) (by omega) rfl
            rw [Nat.add_zero] at e2
            have e3 := rows_set1 ceC ceC_len ((G.cellsTo c' n k).set k (cAt c' k, 0)) k 1 (cAt c' k, 0) (cAt c' k, -1) (.int .i64 (-1)) (by rw [List.getElem?_set_self (by rw [Gr.cellsTo_len]; exact hkn)]) (by omega) rfl
            rw [List.set_set] at e3
            unfold ceCs at h ⊢
            rw [e2, e3] at h
            exact h)
          obtain ⟨pg, pc, hG, -⟩ := gnd_at XA.out 3 rfl
          refine (around_any hG _).mono ?_
          rintro r w5 ⟨v5, rfl, hY⟩
          rw [Gr.aroundI_nat] at hY
          have hl8 : (G.around k).length ≤ 8 := by rw [← Gr.aroundI_nat]; exact Gr.aroundTo_len _ _ _
          obtain ⟨l, hl⟩ : ∃ l, l = G.around k := ⟨_, rfl⟩
          have HL := hid hl
          rw [← hl] at hY hl8
          obtain ⟨va, vc, rfl, -⟩ := own_slice (hY.row 0 rfl).1
          have X2 : Hid (Star w0 w5 (Row 47 3 (.slice va l.length vc) l.length (stCs l) :: Row 41 2 (.slice (some ⟨gv, 0, none⟩) n n) n (ceCs ((G.cellsTo c' n k).set k (cAt c' k, -1))) :: Blk f (fldC p g gl.length gc (.slice (some ⟨gv, 0, none⟩) n n)) 89 :: costR cg n cc c' :: gndR 92 p G :: numR g gl.length gc gl :: L)) := hid (XA.out.lift hY)
          clear hY hl X hG XA d0 d2 dl g0 gcl vl v0 v1 e0 e1
          go_wp2_with fail
          go_loopw [8, 60] (fun _ iv wr => ∃ j : Nat, j ≤ l.length ∧ iv = .int .i64 j ∧ (∀ y ∈ l.take j, Gr.dirB c' k y = false) ∧ Star w0 wr (Row 47 3 (.slice va l.length vc) l.length (stCs l) :: Row 41 2 (.slice (some ⟨gv, 0, none⟩) n n) n (ceCs ((G.cellsTo c' n k).set k (cAt c' k, -1))) :: Blk f (fldC p g gl.length gc (.slice (some ⟨gv, 0, none⟩) n n)) 89 :: costR cg n cc c' :: gndR 92 p G :: numR g gl.length gc gl :: L)) (fun _ iv _ => l.length - (intOf iv).toNat)
          case atStart => exact ⟨0, by omega, rfl, by simp, X2.out⟩
          case round =>
            obtain ⟨j, hj, rfl, hno, hX⟩ := hrel
            have X := hid hX
            have HNO := hid hno
            clear hX hno X2
            by_cases hjl : j < l.length
            · obtain ⟨s1, hs1⟩ : ∃ s, l[j]? = some s := ⟨_, List.getElem?_eq_getElem hjl⟩
              have hrow := (X.out.row 0 rfl).1
              obtain ⟨gs3, cs3, e3⟩ := own_shape hrow (by omega)
              cases e3
              have g0 : wr.cell? ⟨gs3, j * 3, none⟩ = some (.int .i64 s1.d) := (hrow.cellAt (j * 3) (by omega)).trans ((rows_get stC stC_len l j 0 s1 hs1 (by omega)).trans rfl)
              have g1 : wr.cell? ⟨gs3, j * 3 + 1, none⟩ = some (.int .i64 s1.to) := (hrow.cellAt (j * 3 + 1) (by omega)).trans ((rows_get stC stC_len l j 1 s1 hs1 (by omega)).trans rfl)
              have g2 : wr.cell? ⟨gs3, j * 3 + 2, none⟩ = some (.int .i64 s1.c) := (hrow.cellAt (j * 3 + 2) (by omega)).trans ((rows_get stC stC_len l j 2 s1 hs1 (by omega)).trans rfl)
              have gsl := (hrow.lt gs3 rfl).2
              have hmem : s1 ∈ G.around k := by rw [← HL.out]; exact List.mem_of_getElem? hs1
              have hpos := Gr.go_pos (Gr.mem_around.1 hmem)
              have hto : s1.to < n := by
                have := Gr.free_in (Gr.go_end HF.out.ok (Gr.mem_around.1 hmem)).1
                rwa [← HN.out] at this
              have HSJ := hid (show (G.around k)[j]? = some s1 by rw [← HL.out]; exact hs1)
              have HTK := hid (show l.take (j + 1) = l.take j ++ [s1] by
                obtain ⟨h1, h2⟩ := List.getElem?_eq_some_iff.1 hs1
                rw [List.take_succ_eq_append_getElem h1, h2])
              obtain ⟨sd, sto, sc⟩ := s1
              dsimp only at g0 g1 g2 hpos hto
              have hclen : c'.length = n := by rw [HN.out]; exact HF.out.least.len
              have hrc := (X.out.row 3 rfl).1
              have h0 : wr.cell? ⟨cg, sto, none⟩ = some (.int .i64 (cAt c' sto)) := (hrc.cellAt sto (by omega)).trans (by rw [List.getElem?_map, cAt_get (by omega)]; rfl)
              have gcl := (hrc.lt cg rfl).2
              have hbd := HF.out.bound HT.out k
              have hw1 : IntKind.i64.wrap (cAt c' k - sc) = cAt c' k - sc := IntWalk.i64_in _ (by omega)
              have hnb : Gr.dirB c' k ⟨sd, sto, sc⟩ = (decide (0 < cAt c' k) && decide (cAt c' sto = cAt c' k - sc)) := rfl
              have HNB := hid hnb
              have hb := (X.out.blk 2 rfl).1
              have d2 := cell_of hb 2
              have dl := lt_of hb
              simp only [List.getElem?_toArray, List.getElem?_cons_zero, List.getElem?_cons_succ] at d2
              have hrv := (X.out.row 1 rfl).1
              have vl := (hrv.lt gv rfl).2
              have v1 := hrv.frozenAt (k * 2 + 1)
              have hk0 : ((G.cellsTo c' n k).set k (cAt c' k, (-1 : Int)))[k]? = some (cAt c' k, -1) := by rw [List.getElem?_set_self (by rw [Gr.cellsTo_len]; exact hkn)]
              have e1 : wr.cell? ⟨gv, k * 2 + 1, none⟩ = some (.int .i64 (-1)) := (hrv.cellAt (k * 2 + 1) (by omega)).trans ((rows_get ceC ceC_len _ k 1 _ hk0 (by omega)).trans rfl)
              obtain ⟨n1, n2⟩ := X.out.neRB 1 2 rfl rfl (by omega)
              have HK0 := hid hk0
              clear hrow hs1 hmem hnb hrc hb hrv hk0 hbd hclen
              by_cases h1 : 0 < cAt c' k
              · by_cases h2 : cAt c' sto = cAt c' k - sc
                · have h2' : (cAt c' sto == cAt c' k - sc) = true := by simpa using h2
                  have HD := hid (dirOf_at HSJ.out (by rw [← HL.out]; exact HNO.out) (by rw [HNB.out, decide_eq_true h1, decide_eq_true h2]; rfl))
                  have XP := hid (X.out.alloc #[.int .i64 sd, .int .i64 sto, .int .i64 sc] 47)
                  clear h2
                  go_wp2
                  go_quiet (fail)
                  have XB := hid (XP.out.go ((Chg.refl _).drewN nq))
                  clear XP X g0 g1 g2 gsl h0 gcl d2 dl vl v1 e1
                  generalize (wr.alloc _).drewN nq = w6 at *
                  generalize wr.heap.size = q at *
                  have hbq := (XB.out.blk 0 rfl).1
                  have q0 := cell_of hbq 0
                  have ql := lt_of hbq
                  have hb := (XB.out.blk 3 rfl).1
                  have d2 := cell_of hb 2
                  have dl := lt_of hb
                  simp only [List.getElem?_toArray, List.getElem?_cons_zero, List.getElem?_cons_succ] at q0 d2
                  have hrv := (XB.out.row 2 rfl).1
                  have vl := (hrv.lt gv rfl).2
                  have v1 := hrv.frozenAt (k * 2 + 1)
                  have e1 : w6.cell? ⟨gv, k * 2 + 1, none⟩ = some (.int .i64 (-1)) := (hrv.cellAt (k * 2 + 1) (by omega)).trans ((rows_get ceC ceC_len _ k 1 _ HK0.out (by omega)).trans rfl)
                  clear hbq hb hrv
                  go_wp2_with fail
                  go_region
                  go_wp2
                  go_roundw
                  case rel =>
                    refine ⟨k + 1, by omega, by go_num, ?_⟩
                    have e3 := rows_set1 ceC ceC_len ((G.cellsTo c' n k).set k (cAt c' k, -1)) k 1 (cAt c' k, -1) (cAt c' k, G.dirOf c' k) (.int .i64 sd) HK0.out (by omega) (by rw [HD.out]; rfl)
                    rw [List.set_set, Gr.cellsTo_set] at e3
                    have h := ((XB.out.go ((Chg.refl _).drew)).store 2 rfl (k * 2 + 1) (.int .i64 sd)).drop.drop
                    unfold ceCs at h
                    rw [e3] at h
                    exact h
                  case measure => simp [intOf]; omega
                · have h2' : (cAt c' sto == cAt c' k - sc) = false := by simpa using h2
                  have HN1 := hid (show Gr.dirB c' k ⟨sd, sto, sc⟩ = false by rw [HNB.out, decide_eq_false h2, Bool.and_false])
                  clear h2
                  go_wp2
                  go_quiet (fail)
                  go_wp2
                  go_roundw
                  case rel =>
                    refine ⟨j + 1, by omega, by go_num, fun y hy => ?_, X.out.go (((Chg.refl _).alloc _).drewN _)⟩
                    rw [HTK.out, List.mem_append] at hy
                    rcases hy with hy | hy
                    · exact HNO.out y hy
                    · simp only [List.mem_singleton] at hy
                      subst hy
                      exact HN1.out
                  case measure => simp [intOf]; omega
              · have HN1 := hid (show Gr.dirB c' k ⟨sd, sto, sc⟩ = false by rw [HNB.out, decide_eq_false h1, Bool.false_and])
                have hd : decide (0 < cAt c' k) = false := decide_eq_false h1
                go_wp2
                go_quiet (fail)
                go_wp2
                go_roundw
                case rel =>
                  refine ⟨j + 1, by omega, by go_num, fun y hy => ?_, X.out.go (((Chg.refl _).alloc _).drewN _)⟩
                  rw [HTK.out, List.mem_append] at hy
                  rcases hy with hy | hy
                  · exact HNO.out y hy
                  · simp only [List.mem_singleton] at hy
                    subst hy
                    exact HN1.out
                case measure => simp [intOf]; omega
            · have HD := hid (dirOf_none (fun s hs => HNO.out s (by rw [List.take_of_length_le (by omega), HL.out]; exact hs)))
              go_wp2
              go_roundw
              case rel =>
                refine ⟨k + 1, by omega, by go_num, ?_⟩
                have h := X.out.drop
                rw [show ((cAt c' k, (-1 : Int))) = (cAt c' k, G.dirOf c' k) by rw [HD.out], Gr.cellsTo_set] at h
                exact h
              case measure => simp [intOf]; omega
        · obtain rfl : k = n := by omega
          have hb := (X.out.blk 1 rfl).1
          have d2 := cell_of hb 2
          have dl := lt_of hb
          simp only [List.getElem?_toArray, List.getElem?_cons_zero, List.getElem?_cons_succ] at d2
          clear hb
          go_wp2
          go_ret
          refine ⟨⟨p, g, gc, .slice (some ⟨gv, 0, none⟩) k k, true⟩, rfl, ?_⟩
          have h := ((((X.out.pull 2 rfl).drop).pull 3 rfl).pull 3 rfl).pull 3 rfl
          rw [Gr.cellsTo_all] at h
          have e := Gr.cells_len G c' k
          unfold openL cellR
          rw [e]
          exact h
end
end Go.Proofs.YtilobedihjkpjaaDoor.Fld

/-
  slices.Clone at one type of elements, by its contract.
-/
namespace Go.Proofs.YtilobedihjkpjaaDoor.CloneC
open Go Go.RowKit

theorem info : (Tryd.prog.info? 41).map (fun i => (i.zero, i.size, i.bytes)) = some (some (.agg #[.int .i64 0, .int .i64 0]), 2, 16) := by kernel_rfl
set_option maxRecDepth 100000 in
theorem clone_any (v : Value) (n : Nat) (ys : List Value) (w : World) (hr : Reads w v n 2 ys) (h1y : ∀ u ∈ ys, u.oneCell' = true) (hn : n ≤ 8000000000000) :
    Calls Tryd.prog 48 #[v] w fun r w' => ∃ v', r = .returned v' ∧ Fresh w w' 41 2 v' n ys ∧ Same w w' := by
  obtain ⟨i0, hi, hz0, hz1, hz2⟩ := info_parts info
  obtain ⟨ad, c, rfl⟩ := hr.slice
  have hs1 := fun wx => Lib.run_eql_slice_nil (P := Tryd.prog) wx 38 41 ad n c 0 0 Tryd.underlying38
  have HR := hid hr
  clear hr
  cases ad with
  | none =>
    obtain ⟨_, _, he, hl, hnn, _⟩ := HR.out
    cases he
    obtain ⟨rfl, rfl⟩ := hnn rfl
    have hys : ys = [] := List.eq_nil_of_length_eq_zero (by simpa using hl)
    subst hys
    go_enter Tryd.func48, Tryd.ntmps48
    go_wp2
    go_ret
    exact ⟨_, rfl, ⟨World.ownsRow_nil _ _ _ _, by simp [Value.ownBlock]⟩, Chg.refl _⟩
  | some ad =>
    go_enter Tryd.func48, Tryd.ntmps48
    go_wp2_with (at_builtin; refine wpList_app rfl _ _ 38 rfl 41 i0 (.agg #[.int .i64 0, .int .i64 0]) 2 16 Tryd.underlying38 hi hz0 hz1 hz2 rfl (by decide) _ 0 [] rfl (World.ownsRow_lit w #[] 0 (Nat.zero_le _) (by unfold maxLen; omega) rfl) (some ad) n c ys rfl (HR.out.same ((Chg.refl _).alloc _)) h1y (by omega) (by omega) ?_)
    intro a' c' w1 hown hg hv
    have hch : Same w w1 := ((Chg.refl w).alloc (.cells #[] 41)).grown hg (fun k e hk => by simp [Value.ownBlock] at e; omega)
    have hnew : ∀ k, (Value.slice a' n c').ownBlock = some k → w.heap.size ≤ k := by
      intro k hk
      rcases hv with hv | hv
      · rw [hv] at hk; simp [Value.ownBlock] at hk; omega
      · have := hv k hk; simp at this; omega
    have H1 := hid hown
    have H2 := hid hch
    have H3 := hid hnew
    clear hown hch hnew hg hv
    go_wp2
    go_ret
    exact ⟨_, rfl, ⟨H1.out, H3.out⟩, H2.out⟩
end Go.Proofs.YtilobedihjkpjaaDoor.CloneC

/-
  What a field tells: a cell, all cells, its goals, all numbers.
-/
namespace Go.Proofs.YtilobedihjkpjaaDoor.Fld
open Go Go.RowKit Go.Proofs.YtilobedihjkpjaaDoor.Steps Go.Proofs.YtilobedihjkpjaaDoor.Ord Go.Proofs.YtilobedihjkpjaaDoor.Route
theorem ceCs_one (l : List (Int × Int)) : ∀ u ∈ ceCs l, u.oneCell' = true := by
  intro u hu
  obtain ⟨p, _, hp⟩ := List.mem_flatMap.1 hu
  exact ceC_one p u hp
theorem nums_one (l : List Int) : ∀ u ∈ l.map (Value.int .i64), u.oneCell' = true := by
  intro u hu
  obtain ⟨p, _, rfl⟩ := List.mem_map.1 hu
  rfl
/-- Costs and directions, by turns. -/
def flatI (l : List (Int × Int)) : List Int := l.flatMap fun p => [p.1, p.2]
theorem cellSize (a b : Int) : (Tryd.prog.info? 41).map (·.size) = some (#[Value.int .i64 a, Value.int .i64 b] : Array Value).size := by kernel_rfl
section
variable {w0 w : World} {L : List Res} {f : Nat} {G : Gr} {gl c : List Int}
theorem openL.shut {x : Shape} (hb : G.fs.length ≥ 1) (X : Star w0 w (openL f x G gl (G.cells c G.fs.length) L)) : Star w0 w (fldR f G gl c :: L) := by
  obtain ⟨p, g, gc, cv, b⟩ := x
  exact fldR.close ⟨p, g, gc, cv, true⟩ (.inl rfl) X
set_option maxRecDepth 100000 in
set_option maxHeartbeats 4000000 in
theorem cells_any (X : Star w0 w (fldR f G gl c :: L)) (hF : FOk G gl c) :
    Calls Tryd.prog 12 #[.pointer (some ⟨f, 0, none⟩)] w fun r w' => ∃ v, r = .returned v ∧ Star w0 w' (cellR v (G.cells c G.fs.length) :: fldR f G gl c :: L) := by
  have X0 := hid X
  have HF := hid hF
  clear X hF
  go_enter Tryd.func12, Tryd.ntmps12
  go_wp2_with fail
  refine (reckon_any X0.out HF.out).mono ?_
  rintro r w1 ⟨x, rfl, hX⟩
  have X1 := hid hX
  clear hX X0
  go_wp2_with fail
  refine (CloneC.clone_any _ _ _ _ (Reads.of_own (X1.out.row 3 rfl).1) (ceCs_one _) (by have := HF.out.ok.max; rw [Gr.cells_len]; omega)).mono ?_
  rintro r w2 ⟨v, rfl, hf, hs⟩
  have X2 : Hid (Star w0 w2 (cellR v (G.cells c G.fs.length) :: fldR f G gl c :: L)) := hid (((openL.shut HF.out.ok.max.2 (X1.out)).fresh hf hs))
  clear hf hs X1
  go_wp2
  go_ret
  exact ⟨_, rfl, X2.out⟩
set_option maxRecDepth 100000 in
set_option maxHeartbeats 4000000 in
theorem goals_any (X : Star w0 w (fldR f G gl c :: L)) (hF : FOk G gl c) :
    Calls Tryd.prog 31 #[.pointer (some ⟨f, 0, none⟩)] w fun r w' => ∃ v, r = .returned v ∧ Star w0 w' (Row 3 1 v gl.length (gl.map (Value.int .i64)) :: fldR f G gl c :: L) := by
  obtain ⟨x, hxb, hY⟩ := fldR.open X
  have hb := (hY.blk 0 rfl).1
  have d0 := cell_of hb 0
  have d1 := cell_of hb 1
  have dl := lt_of hb
  simp only [List.getElem?_toArray, List.getElem?_cons_zero, List.getElem?_cons_succ] at d0 d1
  have X0 := hid X
  have Y0 := hid hY
  have HF := hid hF
  clear X hF hY hb
  go_enter Tryd.func31, Tryd.ntmps31
  go_wp2_with fail
  refine (CloneI.clone_any _ _ _ _ (Reads.of_own (Y0.out.row 2 rfl).1) (nums_one _) (by have := HF.out.le; omega)).mono ?_
  rintro r w2 ⟨v, rfl, hf, hs⟩
  have X2 := hid (X0.out.fresh hf hs)
  clear hf hs
  go_wp2
  go_ret
  exact ⟨_, rfl, X2.out⟩
theorem sw {R S : Res} (X : Star w0 w (R :: S :: L)) : Star w0 w (S :: R :: L) := X.swap
set_option maxRecDepth 100000 in
set_option maxHeartbeats 4000000 in
theorem cell_out (X : Star w0 w (fldR f G gl c :: L)) (hF : FOk G gl c) (t : Int) (ht : t < 0 ∨ (G.fs.length : Int) ≤ t) (e : Value) (he : w0.cell? ⟨1, 0, none⟩ = some e) :
    Calls Tryd.prog 54 #[.pointer (some ⟨f, 0, none⟩), .int .i64 t] w fun r w' => r = .returned (.tuple #[.agg #[.int .i64 0, .int .i64 0], e]) ∧ Star w0 w' (fldR f G gl c :: L) := by
  have HF := hid hF
  have HE := hid he
  have X0 := hid (X.alloc #[.int .i64 0, .int .i64 0] 41).swap
  clear X hF he
  go_enter Tryd.func54, Tryd.ntmps54
  go_wp2_with fail
  generalize w.heap.size = q at *
  refine (reckon_any X0.out HF.out).mono ?_
  rintro r w1 ⟨x, rfl, hX⟩
  obtain ⟨xp, xg, xgc, xcv, xb⟩ := x
  have hrow := (hX.row 3 rfl).1
  obtain ⟨va, vc, hv, -⟩ := own_slice hrow
  rw [Gr.cells_len] at hv
  dsimp only at hv
  subst hv
  have X1 : Hid (Star w0 w1 (Blk q #[.int .i64 0, .int .i64 0] 41 :: fldR f G gl c :: L)) := hid (openL.shut HF.out.ok.max.2 hX).swap
  have hE := X1.out.same.keep HE.out
  have hEl := World.block_lt_of_cell? _ _ hE
  have hb := (X1.out.blk 0 rfl).1
  have q0 := cell_of hb 0
  have q1 := cell_of hb 1
  have qf0 := free_of hb 0
  have qf1 := free_of hb 1
  have ql := lt_of hb
  simp only [List.getElem?_toArray, List.getElem?_cons_zero, List.getElem?_cons_succ] at q0 q1
  have hq2 := (X1.out.blk 0 rfl).2
  have hg0 : 1 < w0.heap.size := World.block_lt_of_cell? _ _ HE.out
  have ne1 : ¬ q = 1 := by intro e; omega
  have ne2 : ¬ 1 = q := by intro e; omega
  clear hX hrow hb
  have X8 := hid ((((X1.out.go ((Chg.refl _).drew)).put 0 rfl 0 (.int .i64 0)).put 0 rfl 1 (.int .i64 0)))
  by_cases h0 : t < 0
  · go_wp2_with fail
    go_region
    all_goals
      go_wp2
      refine bodyPost_ret (v := .tuple #[.agg #[.int .i64 0, .int .i64 0], e]) (results_cell_tmp Tryd.results54 _ _ q _ _ _ _ rfl (X8.out.blk 0 rfl).1 Tryd.underlying41 rfl (cellSize _ _) _ rfl) rfl ⟨rfl, X8.out.drop⟩
  · have h1 : (G.fs.length : Int) ≤ t := by omega
    go_wp2_with fail
    go_region
    all_goals
      go_wp2
      refine bodyPost_ret (v := .tuple #[.agg #[.int .i64 0, .int .i64 0], e]) (results_cell_tmp Tryd.results54 _ _ q _ _ _ _ rfl (X8.out.blk 0 rfl).1 Tryd.underlying41 rfl (cellSize _ _) _ rfl) rfl ⟨rfl, X8.out.drop⟩
set_option maxRecDepth 100000 in
set_option maxHeartbeats 4000000 in
theorem cell_in (X : Star w0 w (fldR f G gl c :: L)) (hF : FOk G gl c) (t : Nat) (ht : t < G.fs.length) :
    Calls Tryd.prog 54 #[.pointer (some ⟨f, 0, none⟩), .int .i64 t] w fun r w' => r = .returned (.tuple #[.agg #[.int .i64 (cAt c t), .int .i64 (G.dirOf c t)], .nilIface]) ∧ ∃ x : Shape, Star w0 w' (openL f x G gl (G.cells c G.fs.length) L) := by
  have HF := hid hF
  have X0 := hid (X.alloc #[.int .i64 0, .int .i64 0] 41).swap
  clear X hF
  go_enter Tryd.func54, Tryd.ntmps54
  go_wp2_with fail
  generalize w.heap.size = q at *
  refine (reckon_any X0.out HF.out).mono ?_
  rintro r w1 ⟨x, rfl, hX⟩
  obtain ⟨xp, xg, xgc, xcv, xb⟩ := x
  have hrow := (hX.row 3 rfl).1
  obtain ⟨va, vc, hv⟩ := own_shape hrow (by rw [Gr.cells_len]; omega)
  rw [Gr.cells_len] at hv
  dsimp only at hv
  subst hv
  have X1 : Hid (Star w0 w1 (openL f ⟨xp, xg, xgc, .slice (some ⟨va, 0, none⟩) G.fs.length vc, true⟩ G gl (G.cells c G.fs.length) (Blk q #[.int .i64 0, .int .i64 0] 41 :: L))) := hid hX
  have hb := (X1.out.blk 4 rfl).1
  have q0 := cell_of hb 0
  have q1 := cell_of hb 1
  have qf0 := free_of hb 0
  have qf1 := free_of hb 1
  have ql := lt_of hb
  simp only [List.getElem?_toArray, List.getElem?_cons_zero, List.getElem?_cons_succ] at q0 q1
  rw [Gr.cells_len] at hrow
  dsimp only at hrow
  have g0 : w1.cell? ⟨va, t * 2, none⟩ = some (.int .i64 (cAt c t)) := (hrow.cellAt (t * 2) (by omega)).trans ((rows_get ceC ceC_len _ t 0 _ (Gr.cells_get G c ht) (by omega)).trans rfl)
  have g1 : w1.cell? ⟨va, t * 2 + 1, none⟩ = some (.int .i64 (G.dirOf c t)) := (hrow.cellAt (t * 2 + 1) (by omega)).trans ((rows_get ceC ceC_len _ t 1 _ (Gr.cells_get G c ht) (by omega)).trans rfl)
  have gvl := (hrow.lt va rfl).2
  have ht1 : ¬ (G.fs.length : Int) ≤ (t : Int) := by omega
  clear hX hrow hb
  have X8 := hid (((X1.out.put 4 rfl 0 (.int .i64 (cAt c t))).put 4 rfl 1 (.int .i64 (G.dirOf c t))).pull 4 rfl)
  go_wp2
  refine bodyPost_ret (v := .tuple #[.agg #[.int .i64 (cAt c t), .int .i64 (G.dirOf c t)], .nilIface]) (results_cell_tmp Tryd.results54 _ _ q _ _ _ _ rfl (X8.out.blk 0 rfl).1 Tryd.underlying41 rfl (cellSize _ _) _ rfl) rfl ⟨rfl, _, X8.out.drop⟩
end
end Go.Proofs.YtilobedihjkpjaaDoor.Fld

/-
  A field's numbers in a row.
-/
namespace Go.Proofs.YtilobedihjkpjaaDoor.Fld
open Go Go.RowKit Go.Proofs.YtilobedihjkpjaaDoor.Steps Go.Proofs.YtilobedihjkpjaaDoor.Ord Go.Proofs.YtilobedihjkpjaaDoor.Route
theorem flatI_len (l : List (Int × Int)) : (flatI l).length = l.length * 2 := by
  induction l with
  | nil => rfl
  | cons a l ih => simp only [flatI, List.flatMap_cons, List.length_append, List.length_cons] at ih ⊢; rw [ih]; simp; omega
theorem flatI_snoc (l : List (Int × Int)) (k : Nat) (a : Int × Int) (h : l[k]? = some a) : flatI (l.take (k + 1)) = flatI (l.take k) ++ [a.1, a.2] := by
  obtain ⟨hk, e⟩ := List.getElem?_eq_some_iff.1 h
  rw [List.take_succ_eq_append_getElem hk, e]
  simp [flatI]
section
variable {w0 w : World} {L : List Res} {f : Nat} {G : Gr} {gl c : List Int}
set_option maxRecDepth 100000 in
set_option maxHeartbeats 4000000 in
theorem flat_any (X : Star w0 w (fldR f G gl c :: L)) (hF : FOk G gl c) :
    Calls Tryd.prog 43 #[.pointer (some ⟨f, 0, none⟩)] w fun r w' => ∃ v, r = .returned v ∧ Star w0 w' (Row 3 1 v (flatI (G.cells c G.fs.length)).length ((flatI (G.cells c G.fs.length)).map (Value.int .i64)) :: fldR f G gl c :: L) := by
  obtain ⟨i0, hi0, hz0, hz1, hz2⟩ := info_parts infoInt
  have HF := hid hF
  have X0 := hid X
  have hN := hF.ok.max
  have hcl := Gr.cells_len G c G.fs.length
  obtain ⟨l, hl⟩ : ∃ l, l = G.cells c G.fs.length := ⟨_, rfl⟩
  have HL := hid hl
  rw [← hl] at hcl ⊢
  obtain ⟨n, hn⟩ : ∃ n, n = G.fs.length := ⟨_, rfl⟩
  rw [← hn] at hN hcl
  clear X hF hl hn
  go_enter Tryd.func43, Tryd.ntmps43
  go_wp2_with fail
  refine (reckon_any X0.out HF.out).mono ?_
  rintro r w1 ⟨x, rfl, hX⟩
  rw [← HL.out] at hX
  have hrow := (hX.row 3 rfl).1
  obtain ⟨va, vc, hv⟩ := own_shape hrow (by rw [hcl]; omega)
  rw [hcl] at hv
  have X1 := hid (hX.nilRow 3 1)
  rw [hv]
  clear hX hrow X0
  go_wp2_with fail
  go_loopw [3, 9] (fun ov iv wr => ∃ k : Nat, k ≤ n ∧ iv = .int .i64 k ∧ Star w0 wr (Row 3 1 ov (flatI (l.take k)).length ((flatI (l.take k)).map (Value.int .i64)) :: openL f x G gl l L)) (fun _ iv _ => n - (intOf iv).toNat)
  case atStart => exact ⟨0, by omega, rfl, X1.out⟩
  case round =>
    obtain ⟨k, hk, rfl, hX⟩ := hrel
    have X := hid hX
    clear X1 hX
    by_cases hkn : k < n
    · obtain ⟨a, ha⟩ : ∃ a, l[k]? = some a := ⟨_, List.getElem?_eq_getElem (by omega)⟩
      have hrow := (X.out.row 4 rfl).1
      rw [hv, hcl] at hrow
      have g0 : wr.cell? ⟨va, k * 2, none⟩ = some (.int .i64 a.1) := (hrow.cellAt (k * 2) (by omega)).trans ((rows_get ceC ceC_len _ k 0 _ ha (by omega)).trans rfl)
      have g1 : wr.cell? ⟨va, k * 2 + 1, none⟩ = some (.int .i64 a.2) := (hrow.cellAt (k * 2 + 1) (by omega)).trans ((rows_get ceC ceC_len _ k 1 _ ha (by omega)).trans rfl)
      have gvl := (hrow.lt va rfl).2
      have HS := hid (flatI_snoc l k a ha)
      have hfl : (flatI (l.take k)).length ≤ 4000 := by have := flatI_len (l.take k); rw [List.length_take] at this; omega
      obtain ⟨av, cv, rfl, -⟩ := own_slice (X.out.row 0 rfl).1
      obtain ⟨m, hm⟩ : ∃ m, m = (flatI (l.take k)).length := ⟨_, rfl⟩
      have HM := hid hm
      rw [← hm] at hfl X ⊢
      have XD := hid ((X.out.alloc #[.int .i64 a.1, .int .i64 a.2] 41).alloc #[.int .i64 a.1, .int .i64 a.2] 3)
      rw [World.size_alloc] at XD
      clear hrow ha X hm
      go_wp2_with (at_builtin; refine wpList_app rfl (.tmp 13) (.tmp 18) 24 rfl 3 i0 (.int .i64 0) 1 8 Tryd.underlying24 hi0 hz0 hz1 hz2 rfl (by decide) _ m ((flatI (l.take k)).map (Value.int .i64)) rfl (XD.out.row 2 rfl).1 (some ⟨wr.heap.size + 1, 0, none⟩) 2 2 [.int .i64 a.1, .int .i64 a.2] rfl (reads_blk (XD.out.blk 0 rfl).1 2 2 1 rfl) (by simp [Value.oneCell']) (by omega) (by omega) ?_; intro a5 c5 w5 ho5 hg5 hn5; have X5 := hid (XD.out.grown 2 rfl ho5 hg5 hn5).drop.drop; clear ho5 hg5 hn5)
      go_roundw
      case rel => exact ⟨k + 1, by omega, by go_num, by rw [HS.out, List.map_append, List.length_append, ← HM.out]; exact X5.out⟩
      case measure => simp [intOf]; omega
    · obtain rfl : k = n := by omega
      go_wp2
      go_ret
      have h := X.out
      rw [List.take_of_length_le (by omega)] at h
      rw [HL.out] at h ⊢
      exact ⟨_, rfl, (openL.shut HF.out.ok.max.2 ((((h.pull 4 rfl).pull 4 rfl).pull 4 rfl).pull 4 rfl)).swap⟩
end
end Go.Proofs.YtilobedihjkpjaaDoor.Fld
