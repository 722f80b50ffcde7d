/-
  paddockref16's Guess, by its contract.
-/
import Derived.Test.YtnfobdonmkefdaaDoorRefIs
namespace Go.Proofs.YtnfobdonmkefdaaDoor.Steps
open Go Go.RowKit

section
variable {w : World} {p g c : Nat} {G : Gr}
set_option maxRecDepth 100000 in
theorem abs_any (x : Int) (hx : -1000000 ≤ x ∧ x ≤ 1000000) (w : World) : Calls Tryd.prog 43 #[.int .i64 x] w fun r w' => r = .returned (.int .i64 (x.natAbs : Int)) ∧ w' = w := by
  go_enter Tryd.func43, Tryd.ntmps43
  by_cases h0 : x < 0
  · go_wp2
    go_ret
    exact ⟨ret_int (by omega), rfl⟩
  · go_wp2
    go_ret
    exact ⟨ret_int (by omega), rfl⟩

set_option maxRecDepth 100000 in
set_option maxHeartbeats 8000000 in
theorem rguess_any (h : Gnd 63 w p g c G) (a b : Nat) (ha : a < G.fs.length) (hb : b < G.fs.length) : Calls Tryd.prog 26 #[.pointer (some ⟨p, 0, none⟩), .int .i64 a, .int .i64 b] w fun r w' => r = .returned (.int .i64 (G.guess a b)) ∧ Same w w' := by
  obtain ⟨v, hv⟩ : ∃ v, v = G.guess a b := ⟨_, rfl⟩
  rw [← hv]
  have HV := hid hv
  have c0 := h.c0
  have hw1 := h.ok.w1
  have hw2 := h.ok.w2
  have hh2 := h.ok.h2
  obtain ⟨x1, x2, x3, -⟩ := Gr.XY h.ok a
  have x4 := Gr.Yin h.ok ha
  obtain ⟨y1, y2, y3, -⟩ := Gr.XY h.ok b
  have y4 := Gr.Yin h.ok hb
  have hXa : (a : Int).tmod (G.W : Int) = G.X a := (Int.ofNat_tmod a G.W).symm
  have hYa : (a : Int).tdiv (G.W : Int) = G.Y a := (Int.ofNat_tdiv a G.W).symm
  have hXb : (b : Int).tmod (G.W : Int) = G.X b := (Int.ofNat_tmod b G.W).symm
  have hYb : (b : Int).tdiv (G.W : Int) = G.Y b := (Int.ofNat_tdiv b G.W).symm
  unfold Gr.guess at HV
  clear hv h
  generalize G.X a = xa at *
  generalize G.Y a = ya at *
  generalize G.X b = xb at *
  generalize G.Y b = yb at *
  have hwx : IntKind.i64.wrap (xa - xb) = xa - xb := IntWalk.i64_in _ (by omega)
  have hwy : IntKind.i64.wrap (ya - yb) = ya - yb := IntWalk.i64_in _ (by omega)
  have HX := hid (abs_any (xa - xb) (by omega))
  have HY := hid (abs_any (ya - yb) (by omega))
  have hx : (xa - xb).natAbs ≤ 32 := by omega
  have hy : (ya - yb).natAbs ≤ 32 := by omega
  go_enter Tryd.func26, Tryd.ntmps26
  go_wp2
  go_quiet (first
    | (go_at_call 43; exact Calls.quiet_of_same (HX.out _))
    | (go_at_call 43; exact Calls.quiet_of_same (HY.out _)))
  clear HX HY c0 hXa hYa hXb hYb x1 x2 x3 x4 y1 y2 y3 y4 hwx hwy
  generalize (xa - xb).natAbs = x at *
  generalize (ya - yb).natAbs = y at *
  by_cases hxy : (x : Int) < (y : Int)
  · go_wp2
    go_ret
    exact ⟨ret_int (by rw [HV.out]; omega), (Chg.refl _).drewN _⟩
  · go_wp2
    go_ret
    exact ⟨ret_int (by rw [HV.out]; omega), (Chg.refl _).drewN _⟩
end
end Go.Proofs.YtnfobdonmkefdaaDoor.Steps
