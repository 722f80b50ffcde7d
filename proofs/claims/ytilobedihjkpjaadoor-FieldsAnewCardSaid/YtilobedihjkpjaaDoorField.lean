/-
  Package field: a field as it lies in memory; New.
-/
import Derived.Test.YtilobedihjkpjaaDoorOrdInts
import Derived.Test.YtilobedihjkpjaaDoorRouteCosts
import Derived.Test.YtilobedihjkpjaaDoorStepClone
namespace Go.Proofs.YtilobedihjkpjaaDoor
/-- A cell's direction, as the program finds it. -/
def Gr.dirB (c : List Int) (t : Nat) (s : Gr.St) : Bool := decide (0 < cAt c t) && decide (cAt c s.to = cAt c t - s.c)
def Gr.dirOf (G : Gr) (c : List Int) (t : Nat) : Int := match (G.around t).find? (Gr.dirB c t) with
  | some s => s.d
  | none => -1
/-- The cells of a ground's field. -/
def Gr.cells (G : Gr) (c : List Int) (k : Nat) : List (Int × Int) := (List.range k).map fun t => (cAt c t, G.dirOf c t)
theorem Gr.cells_len (G : Gr) (c : List Int) (k : Nat) : (G.cells c k).length = k := by simp [Gr.cells]
theorem Gr.cells_get (G : Gr) (c : List Int) {n t : Nat} (h : t < n) : (G.cells c n)[t]? = some (cAt c t, G.dirOf c t) := by simp [Gr.cells, h]
end Go.Proofs.YtilobedihjkpjaaDoor
namespace Go.Proofs.YtilobedihjkpjaaDoor.Fld
open Go Go.RowKit Go.Proofs.YtilobedihjkpjaaDoor.Steps Go.Proofs.YtilobedihjkpjaaDoor.Ord Go.Proofs.YtilobedihjkpjaaDoor.Route
/-- A cell's cells. -/
def ceC (p : Int × Int) : List Value := [.int .i64 p.1, .int .i64 p.2]
theorem ceC_len (p : Int × Int) : (ceC p).length = 2 := rfl
theorem ceC_one (p : Int × Int) : ∀ u ∈ ceC p, u.oneCell' = true := by intro u hu; simp [ceC] at hu; rcases hu with rfl | rfl <;> rfl
def ceCs (l : List (Int × Int)) : List Value := l.flatMap ceC
abbrev fldC (p g m gc : Nat) (cv : Value) : Array Value := #[.pointer (some ⟨p, 0, none⟩), .slice (some ⟨g, 0, none⟩) m gc, cv]
abbrev cellR (cv : Value) (l : List (Int × Int)) : Res := Row 41 2 cv l.length (ceCs l)
/-- Its goals as tiles. -/
def goalsOf (gl : List Int) : List Nat := gl.map Int.toNat
/-- A field: its ground, its goals; its cells, if they are reckoned already. -/
structure Shape where
  p : Nat
  g : Nat
  gc : Nat
  cv : Value
  b : Bool
def fldR (f : Nat) (G : Gr) (gl : List Int) (c : List Int) : Res := exR fun x : Shape =>
  sepR (Blk f (fldC x.p x.g gl.length x.gc x.cv) 89) (sepR (gndR 92 x.p G) (sepR (numR x.g gl.length x.gc gl) (sepR (cellR x.cv (if x.b then G.cells c G.fs.length else [])) (factR (x.b = true ∨ x.cv = .slice none 0 0)))))
section
variable {w0 w : World} {L : List Res} {f : Nat} {G : Gr} {gl c : List Int}
theorem fldR.open (X : Star w0 w (fldR f G gl c :: L)) : ∃ x : Shape, (x.b = true ∨ x.cv = .slice none 0 0) ∧ Star w0 w (Blk f (fldC x.p x.g gl.length x.gc x.cv) 89 :: gndR 92 x.p G :: numR x.g gl.length x.gc gl :: cellR x.cv (if x.b then G.cells c G.fs.length else []) :: L) := by
  obtain ⟨x, h⟩ := X.open_ex
  have h1 := h.open_sep
  have h2 := (h1.swap).open_sep
  have h3 : Star w0 w (sepR (numR x.g gl.length x.gc gl) (sepR (cellR x.cv (if x.b then G.cells c G.fs.length else [])) (factR (x.b = true ∨ x.cv = .slice none 0 0))) :: gndR 92 x.p G :: Blk f (fldC x.p x.g gl.length x.gc x.cv) 89 :: L) := h2.swap
  have h4 := h3.open_sep
  have h5 := (h4.swap).open_sep
  have h6 : Star w0 w (factR (x.b = true ∨ x.cv = .slice none 0 0) :: cellR x.cv (if x.b then G.cells c G.fs.length else []) :: numR x.g gl.length x.gc gl :: gndR 92 x.p G :: Blk f (fldC x.p x.g gl.length x.gc x.cv) 89 :: L) := h5.swap
  obtain ⟨hf, h7⟩ := h6.open_fact
  exact ⟨x, hf, ((h7.pull 1 rfl).pull 2 rfl).pull 3 rfl⟩
theorem fldR.close (x : Shape) (hf : x.b = true ∨ x.cv = .slice none 0 0) (X : Star w0 w (Blk f (fldC x.p x.g gl.length x.gc x.cv) 89 :: gndR 92 x.p G :: numR x.g gl.length x.gc gl :: cellR x.cv (if x.b then G.cells c G.fs.length else []) :: L)) : Star w0 w (fldR f G gl c :: L) := by
  have h1 := X.pull 3 rfl
  have h2 : Star w0 w (factR (x.b = true ∨ x.cv = .slice none 0 0) :: cellR x.cv (if x.b then G.cells c G.fs.length else []) :: Blk f (fldC x.p x.g gl.length x.gc x.cv) 89 :: gndR 92 x.p G :: numR x.g gl.length x.gc gl :: L) := Star.close_fact hf h1
  have h3 := (h2.swap).close_sep
  have h4 : Star w0 w (numR x.g gl.length x.gc gl :: sepR (cellR x.cv (if x.b then G.cells c G.fs.length else [])) (factR (x.b = true ∨ x.cv = .slice none 0 0)) :: Blk f (fldC x.p x.g gl.length x.gc x.cv) 89 :: gndR 92 x.p G :: L) := h3.pull 3 rfl
  have h5 := h4.close_sep
  have h6 : Star w0 w (gndR 92 x.p G :: sepR (numR x.g gl.length x.gc gl) (sepR (cellR x.cv (if x.b then G.cells c G.fs.length else [])) (factR (x.b = true ∨ x.cv = .slice none 0 0))) :: Blk f (fldC x.p x.g gl.length x.gc x.cv) 89 :: L) := h5.pull 2 rfl
  have h7 := h6.close_sep
  exact Star.close_ex x ((h7.swap).close_sep)
end
section
variable {w : World} {p pg pc : Nat} {G : Gr}
set_option maxRecDepth 100000 in
set_option maxHeartbeats 4000000 in
theorem new_ok (hG : Gnd 92 w p pg pc G) (xs : List Int) (v : Value) (hr : Ints w v xs) (h1 : 1 ≤ xs.length) (h8 : xs.length ≤ 8) (hin : ∀ x ∈ xs, 0 ≤ x ∧ x < G.fs.length) :
    Calls Tryd.prog 11 #[.pointer (some ⟨p, 0, none⟩), v] w fun r w' => ∃ f gl, OrdOf xs gl ∧ r = .returned (.tuple #[.pointer (some ⟨f, 0, none⟩), .nilIface]) ∧ ∀ c, Star w w' [fldR f G gl c] := by
  obtain ⟨av, cv, rfl⟩ := hr.slice
  have HG := hid hG
  have HR := hid hr
  have HIN := hid hin
  obtain ⟨n, hn⟩ : ∃ n, n = xs.length := ⟨_, rfl⟩
  have HN := hid hn
  rw [← hn] at HR h1 h8 ⊢
  have HB : Hid (∀ (j : Nat) (t : Int), xs[j]? = some t → ∃ b off cap, Value.slice av n cv = .slice (some ⟨b, off, none⟩) n cap ∧ w.cell? ⟨b, off + j, none⟩ = some (.int .i64 t) ∧ 0 ≤ t ∧ t < G.fs.length) := hid (fun j t ht => by
    obtain ⟨hj, e2⟩ := (List.getElem?_eq_some_iff.1 ht)
    obtain ⟨b, off, cap, e, _, hc⟩ := HR.out.cells (by omega)
    rw [← hn] at e
    exact ⟨b, off, cap, e, by rw [← e2]; exact hc j hj, HIN.out t (List.mem_of_getElem? ht)⟩)
  clear hr hn hG hin
  go_enter Tryd.func11, Tryd.ntmps11
  go_wp2_with fail
  go_loop [7, 19] (fun _ iv => ∃ j : Nat, j ≤ n ∧ iv = .int .i64 j) (fun _ iv => n - (intOf iv).toNat)
  case atStart => exact ⟨0, by omega, rfl⟩
  case round =>
    obtain ⟨j, hj, rfl⟩ := hrel
    by_cases hjn : j < n
    · obtain ⟨t, ht⟩ : ∃ t, xs[j]? = some t := ⟨_, List.getElem?_eq_getElem (by have := HN.out; omega)⟩
      obtain ⟨b, off, cap, e1, hc, ht0, ht1⟩ := HB.out j t ht
      cases e1
      have hbl := World.block_lt_of_cell? _ _ hc
      have hlt : ¬ (G.fs.length : Int) ≤ t := by omega
      clear ht
      go_wp2_with fail
      refine (len_any HG.out).mono ?_
      rintro r w' ⟨rfl, rfl⟩
      go_wp2
      go_round
      case rel => exact ⟨j + 1, by omega, by go_num⟩
      case measure => simp [intOf]; omega
    · go_wp2_with fail
      refine (clone_gnd HG.out).mono ?_
      rintro r w1 ⟨q, rfl, hX1⟩
      have X1 := hid hX1
      clear hX1
      go_wp2_with fail
      refine (ordInts_any w1 xs _ (HR.out.same X1.out.same) (by rw [← HN.out]; exact h1) (by rw [← HN.out]; exact h8)).mono ?_
      rintro r w2 ⟨g, cc, gl, ho, rfl, hX2⟩
      have X2 := hid ((X1.out.lift hX2).nilRow 41 2)
      have HO := hid ho
      clear hX2 ho X1
      go_wp2
      go_ret2
      refine ⟨w2.heap.size, gl, HO.out, rfl, fun c => ?_⟩
      have h := ((((X2.out.alloc (fldC q g gl.length cc (.slice none 0 0)) 89).pull 1 rfl).pull 2 rfl).pull 3 rfl).pull 3 rfl
      exact fldR.close ⟨q, g, cc, .slice none 0 0, false⟩ (.inr rfl) h
end
end Go.Proofs.YtilobedihjkpjaaDoor.Fld
namespace Go.Proofs.YtilobedihjkpjaaDoor.Fld
open Go Go.RowKit Go.Proofs.YtilobedihjkpjaaDoor.Steps Go.Proofs.YtilobedihjkpjaaDoor.Ord Go.Proofs.YtilobedihjkpjaaDoor.Route
section
variable {w : World} {p pg pc : Nat} {G : Gr}
set_option maxRecDepth 100000 in
set_option maxHeartbeats 4000000 in
theorem new_goal (v : Value) (xs : List Int) (hr : Ints w v xs) (hb : xs.length ≤ 9223372036854775807) (h : xs.length < 1 ∨ 8 < xs.length) (e : Value) (he : w.cell? ⟨0, 0, none⟩ = some e) :
    Calls Tryd.prog 11 #[.pointer (some ⟨p, 0, none⟩), v] w fun r w' => r = .returned (.tuple #[.pointer none, e]) ∧ Same w w' := by
  obtain ⟨av, cv, rfl⟩ := hr.slice
  have hEl := World.block_lt_of_cell? _ _ he
  generalize xs.length = n at *
  clear hr
  rcases Nat.lt_or_ge n 1 with h1 | h1
  · go_enter Tryd.func11, Tryd.ntmps11
    go_wp2_with fail
    go_quiet (fail)
    go_wp2
    go_ret2
    exact ⟨rfl, (Chg.refl _).drewN _⟩
  · have h8 : 8 < n := by omega
    go_enter Tryd.func11, Tryd.ntmps11
    go_wp2_with fail
    go_quiet (fail)
    go_wp2
    go_ret2
    exact ⟨rfl, (Chg.refl _).drewN _⟩
set_option maxRecDepth 100000 in
set_option maxHeartbeats 4000000 in
theorem new_range (hG : Gnd 92 w p pg pc G) (xs : List Int) (v : Value) (hr : Ints w v xs) (h1 : 1 ≤ xs.length) (h8 : xs.length ≤ 8) (hout : ∃ x ∈ xs, x < 0 ∨ (G.fs.length : Int) ≤ x) (e : Value) (he : w.cell? ⟨1, 0, none⟩ = some e) :
    Calls Tryd.prog 11 #[.pointer (some ⟨p, 0, none⟩), v] w fun r w' => r = .returned (.tuple #[.pointer none, e]) ∧ Same w w' := by
  obtain ⟨av, cv, rfl⟩ := hr.slice
  have HG := hid hG
  have hEl := World.block_lt_of_cell? _ _ he
  have HO : Hid (∃ (i : Nat) (x : Int), xs[i]? = some x ∧ (x < 0 ∨ (G.fs.length : Int) ≤ x)) := hid (by
    obtain ⟨x, hx, ho⟩ := hout
    obtain ⟨i, hi, e⟩ := List.getElem_of_mem hx
    exact ⟨i, x, by rw [← e]; exact List.getElem?_eq_getElem hi, ho⟩)
  obtain ⟨n, hn⟩ : ∃ n, n = xs.length := ⟨_, rfl⟩
  have HN := hid hn
  rw [← hn] at h1 h8 ⊢
  have HB : Hid (∀ (j : Nat) (t : Int), xs[j]? = some t → ∃ b off cap, Value.slice av n cv = .slice (some ⟨b, off, none⟩) n cap ∧ w.cell? ⟨b, off + j, none⟩ = some (.int .i64 t)) := hid (fun j t ht => by
    obtain ⟨hj, e2⟩ := (List.getElem?_eq_some_iff.1 ht)
    obtain ⟨b, off, cap, e, _, hc⟩ := hr.cells (by omega)
    rw [← hn] at e
    exact ⟨b, off, cap, e, by rw [← e2]; exact hc j hj⟩)
  clear hr hn hG hout
  go_enter Tryd.func11, Tryd.ntmps11
  go_wp2_with fail
  go_loop [7, 19] (fun _ iv => ∃ j : Nat, j ≤ n ∧ iv = .int .i64 j ∧ ∀ (i : Nat) (x : Int), i < j → xs[i]? = some x → 0 ≤ x ∧ x < G.fs.length) (fun _ iv => n - (intOf iv).toNat)
  case atStart => exact ⟨0, by omega, rfl, fun i x h => by omega⟩
  case round =>
    obtain ⟨j, hj, rfl, hall⟩ := hrel
    have HA := hid hall
    clear hall
    by_cases hjn : j < n
    · obtain ⟨t, ht⟩ : ∃ t, xs[j]? = some t := ⟨_, List.getElem?_eq_getElem (by have := HN.out; omega)⟩
      obtain ⟨b, off, cap, e1, hc⟩ := HB.out j t ht
      cases e1
      have hbl := World.block_lt_of_cell? _ _ hc
      have HT := hid ht
      clear ht
      by_cases ht0 : t < 0
      · go_wp2_with fail
        go_quiet (fail)
        go_wp2
        go_ret2
        exact ⟨rfl, (Chg.refl _).drewN _⟩
      · by_cases ht1 : (G.fs.length : Int) ≤ t
        · go_wp2_with fail
          refine (len_any HG.out).mono ?_
          rintro r w' ⟨rfl, rfl⟩
          go_wp2
          go_quiet (fail)
          go_wp2
          go_ret2
          exact ⟨rfl, (Chg.refl _).drewN _⟩
        · go_wp2_with fail
          refine (len_any HG.out).mono ?_
          rintro r w' ⟨rfl, rfl⟩
          go_wp2
          go_round
          case rel =>
            refine ⟨j + 1, by omega, by go_num, fun i x hi hx => ?_⟩
            by_cases e : i = j
            · subst e
              rw [HT.out] at hx
              cases hx
              omega
            · exact HA.out i x (by omega) hx
          case measure => simp [intOf]; omega
    · exfalso
      obtain ⟨i, x, hx, ho⟩ := HO.out
      have hi := (List.getElem?_eq_some_iff.1 hx).1
      have := HA.out i x (by have := HN.out; omega) hx
      omega
end
end Go.Proofs.YtilobedihjkpjaaDoor.Fld
