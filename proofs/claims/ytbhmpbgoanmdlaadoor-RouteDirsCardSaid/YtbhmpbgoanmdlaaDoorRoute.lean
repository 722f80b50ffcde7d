/-
  The finder of costs: reach.
-/
import Derived.Test.YtbhmpbgoanmdlaaDoorStepAround
import Derived.Test.YtbhmpbgoanmdlaaDoorHeapR
import Derived.Test.YtbhmpbgoanmdlaaDoorFol
namespace Go.Proofs.YtbhmpbgoanmdlaaDoor.Route
open Go Go.RowKit Go.Proofs.YtbhmpbgoanmdlaaDoor.Hp

/-- A finder's block: the ground's, the heap's, the costs. -/
abbrev finC (p h g n cc : Nat) : Array Value := #[.pointer (some ⟨p, 0, none⟩), .pointer (some ⟨h, 0, none⟩), .slice (some ⟨g, 0, none⟩) n cc]
abbrev costR (g n cc : Nat) (c : List Int) : Res := Row 3 1 (.slice (some ⟨g, 0, none⟩) n cc) n (c.map (Value.int .i64))
section
variable {w0 w : World} {L : List Res} {f p h g n cc : Nat} {c : List Int} {es : List (Int × Int)}
theorem cost_len (X : Star w0 w (Blk f (finC p h g n cc) 90 :: heapR h es :: costR g n cc c :: L)) : c.length = n := by
  have := (X.row 2 rfl).1.1
  simpa using this
theorem cost_cell (X : Star w0 w (Blk f (finC p h g n cc) 90 :: heapR h es :: costR g n cc c :: L)) (t : Nat) (ht : t < n) : w.cell? ⟨g, t, none⟩ = some (.int .i64 (cAt c t)) ∧ w.frozen? ⟨g, t, none⟩ = false ∧ g < w.heap.size ∧ ¬ f = g ∧ ¬ g = f := by
  have hl := cost_len X
  have hr := (X.row 2 rfl).1
  obtain ⟨n1, n2⟩ := X.neBR 0 2 rfl rfl (by omega)
  exact ⟨(hr.cellAt t (by omega)).trans (by rw [List.getElem?_map, cAt_get (by omega)]; rfl), hr.frozenAt t, (hr.lt g rfl).2, n1, n2⟩
theorem fin_cells (X : Star w0 w (Blk f (finC p h g n cc) 90 :: heapR h es :: costR g n cc c :: L)) : w.cell? ⟨f, 0, none⟩ = some (.pointer (some ⟨p, 0, none⟩)) ∧ w.cell? ⟨f, 1, none⟩ = some (.pointer (some ⟨h, 0, none⟩)) ∧ w.cell? ⟨f, 2, none⟩ = some (.slice (some ⟨g, 0, none⟩) n cc) ∧ f < w.heap.size := by
  have hb := (X.blk 0 rfl).1
  exact ⟨cell_of hb 0, cell_of hb 1, cell_of hb 2, lt_of hb⟩

set_option maxRecDepth 100000 in
theorem reach_no (X : Star w0 w (Blk f (finC p h g n cc) 90 :: heapR h es :: costR g n cc c :: L)) (t : Nat) (k : Int) (ht : t < n) (h1 : cAt c t ≠ -1) (h2 : cAt c t ≤ k) :
    Calls Tryd.prog 48 #[.pointer (some ⟨f, 0, none⟩), .int .i64 t, .int .i64 k] w fun r w' => r = .returned .nilIface ∧ w = w' := by
  obtain ⟨c0, c1, c2, cl⟩ := fin_cells X
  obtain ⟨e0, -, gl, -, -⟩ := cost_cell X t ht
  generalize cAt c t = x at *
  have h1' : (x != -1) = true := by simpa using h1
  clear X h1
  go_enter Tryd.func48, Tryd.ntmps48
  go_wp2
  go_ret
  exact ⟨rfl, rfl⟩

set_option maxRecDepth 100000 in
set_option maxHeartbeats 1000000 in
theorem reach_yes (X : Star w0 w (Blk f (finC p h g n cc) 90 :: heapR h es :: costR g n cc c :: L)) (t : Nat) (k : Int) (ht : t < n) (h1 : cAt c t = -1 ∨ k < cAt c t) (hf : 1 + es.length ≤ 16384) :
    Calls Tryd.prog 48 #[.pointer (some ⟨f, 0, none⟩), .int .i64 t, .int .i64 k] w fun r w' => r = .returned .nilIface ∧ ∃ es', es'.Perm (es ++ [(k, (t : Int))]) ∧ Star w0 w' (Blk f (finC p h g n cc) 90 :: heapR h es' :: costR g n cc (c.set t k) :: L) := by
  obtain ⟨c0, c1, c2, cl⟩ := fin_cells X
  obtain ⟨e0, ef, gl, n1, n2⟩ := cost_cell X t ht
  have hY := X.store 2 rfl t (.int .i64 k)
  simp only [List.set_cons_succ, List.set_cons_zero] at hY
  rw [← List.map_set] at hY
  have Y := hid hY
  have hA0 := (hY.alloc #[.int .i64 k, .int .i64 t] 112).pull 2 rfl
  rw [show (w.setCell ⟨g, t, none⟩ (.int .i64 k)).heap.size = w.heap.size by simp [World.setCell]] at hA0
  have hA := hid hA0
  clear X hY hA0
  generalize cAt c t = x at *
  go_enter Tryd.func48, Tryd.ntmps48
  by_cases hx : x = -1
  · have h1' : (x != -1) = false := by rw [hx]; rfl
    clear hx h1
    go_wp2_with fail
    refine (heap_push hA.out hf).mono ?_
    rintro r w' ⟨rfl, es', hp, hX⟩
    have HP := hid hp
    have HX := hid (hX.swap.drop.swap)
    clear hX hp hA Y
    go_wp2
    go_ret
    exact ⟨rfl, es', HP.out, HX.out⟩
  · have h1' : (x != -1) = true := by simpa using hx
    have h2 : k < x := by omega
    clear hx h1
    go_wp2_with fail
    refine (heap_push hA.out hf).mono ?_
    rintro r w' ⟨rfl, es', hp, hX⟩
    have HP := hid hp
    have HX := hid (hX.swap.drop.swap)
    clear hX hp hA Y
    go_wp2
    go_ret
    exact ⟨rfl, es', HP.out, HX.out⟩
end
end Go.Proofs.YtbhmpbgoanmdlaaDoor.Route
