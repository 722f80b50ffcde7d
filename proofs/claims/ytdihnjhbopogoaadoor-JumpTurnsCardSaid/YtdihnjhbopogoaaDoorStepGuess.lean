/-
  What a walk costs at least.
-/
import Derived.Lib.MinMax
import Derived.Test.YtdihnjhbopogoaaDoorSteps
namespace Go.Proofs.YtdihnjhbopogoaaDoor.Steps
open Go Go.RowKit

section
variable {w : World} {p g c : Nat} {G : Gr}
theorem has_nat {t : Nat} (h : t < G.fs.length) : G.has t = true := by unfold Gr.has; exact decide_eq_true (by omega)

set_option maxRecDepth 100000 in
set_option maxHeartbeats 4000000 in
theorem guess_in (h : Gnd 93 w p g c G) (a b : Nat) (ha : a < G.fs.length) (hb : b < G.fs.length) : Calls Tryd.prog 67 #[.pointer (some ⟨p, 0, none⟩), .int .i64 a, .int .i64 b] w fun r w' => r = .returned (.tuple #[.int .i64 (G.guess a b), .nilIface]) ∧ Same w w' := by
  have H := hid h
  obtain ⟨v, hv⟩ : ∃ v, v = G.guess a b := ⟨_, rfl⟩
  rw [← hv]
  have HV := hid hv
  have hA := has_nat ha
  have hB := has_nat hb
  clear hv
  go_enter Tryd.func67, Tryd.ntmps67
  go_wp2_with fail
  refine (has_any H.out _).mono ?_
  rintro r w' ⟨rfl, rfl⟩
  rw [hA]
  go_wp2_with fail
  refine (has_any H.out _).mono ?_
  rintro r w' ⟨rfl, rfl⟩
  rw [hB]
  have c0 := h.c0
  have hw1 := h.ok.w1
  have hw2 := h.ok.w2
  have hh2 := h.ok.h2
  obtain ⟨x1, x2, x3, -⟩ := Gr.XY h.ok a
  have x4 := Gr.Yin h.ok ha
  obtain ⟨y1, y2, y3, -⟩ := Gr.XY h.ok b
  have y4 := Gr.Yin h.ok hb
  have hXa : (a : Int).tmod (G.W : Int) = G.X a := (Int.ofNat_tmod a G.W).symm
  have hYa : (a : Int).tdiv (G.W : Int) = G.Y a := (Int.ofNat_tdiv a G.W).symm
  have hXb : (b : Int).tmod (G.W : Int) = G.X b := (Int.ofNat_tmod b G.W).symm
  have hYb : (b : Int).tdiv (G.W : Int) = G.Y b := (Int.ofNat_tdiv b G.W).symm
  unfold Gr.guess at HV
  generalize G.X a = xa at *
  generalize G.Y a = ya at *
  generalize G.X b = xb at *
  generalize G.Y b = yb at *
  clear h H hA hB
  go_wp2
  go_quiet (fail)
  have hx : -32 ≤ xa - xb ∧ xa - xb ≤ 32 := by omega
  have hy : -32 ≤ ya - yb ∧ ya - yb ≤ 32 := by omega
  generalize xa - xb = x at *
  generalize ya - yb = y at *
  clear c0 hXa hYa hXb hYb x1 x2 x3 x4 y1 y2 y3 y4
  have hn1 : IntKind.i64.wrap (-x) = -x := IntWalk.i64_in _ (by omega)
  have hn2 : IntKind.i64.wrap (-y) = -y := IntWalk.i64_in _ (by omega)
  go_wp2
  go_ret2
  refine ⟨?_, ((Chg.refl _).drewN _)⟩
  show Ending.returned (.tuple #[.int .i64 (14 * min (max x (-x)) (max y (-y)) + 10 * (max x (max (-x) (max y (-y))) - min (max x (-x)) (max y (-y)))), .nilIface]) = _
  rw [show (14 * min (max x (-x)) (max y (-y)) + 10 * (max x (max (-x) (max y (-y))) - min (max x (-x)) (max y (-y)))) = v from by rw [HV.out]; omega]

set_option maxRecDepth 100000 in
set_option maxHeartbeats 4000000 in
theorem guess_out (h : Gnd 93 w p g c G) (a b : Int) (hab : G.has a = false ∨ G.has b = false) (e : Value) (he : w.cell? ⟨1, 0, none⟩ = some e) : Calls Tryd.prog 67 #[.pointer (some ⟨p, 0, none⟩), .int .i64 a, .int .i64 b] w fun r w' => r = .returned (.tuple #[.int .i64 0, e]) ∧ Same w w' := by
  have H := hid h
  clear h
  go_enter Tryd.func67, Tryd.ntmps67
  cases hA : G.has a with
  | false =>
    go_wp2_with fail
    refine (has_any H.out _).mono ?_
    rintro r w' ⟨rfl, rfl⟩
    rw [hA]
    go_wp2
    go_quiet (fail)
    go_wp2
    go_ret2
    exact ⟨rfl, (Chg.refl _).drewN _⟩
  | true =>
    have hB : G.has b = false := by rcases hab with h | h; rw [hA] at h; cases h; exact h
    go_wp2_with fail
    refine (has_any H.out _).mono ?_
    rintro r w' ⟨rfl, rfl⟩
    rw [hA]
    go_wp2_with fail
    refine (has_any H.out _).mono ?_
    rintro r w' ⟨rfl, rfl⟩
    rw [hB]
    go_wp2
    go_quiet (fail)
    go_wp2
    go_ret2
    exact ⟨rfl, (Chg.refl _).drewN _⟩
end
end Go.Proofs.YtdihnjhbopogoaaDoor.Steps
