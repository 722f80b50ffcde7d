/-
  A ground's other small methods: Set.
-/
import Derived.Test.YtilobedihjkpjaaDoorSteps
import Derived.Test.YtilobedihjkpjaaDoorFlat
namespace Go.Proofs.YtilobedihjkpjaaDoor.Steps
open Go Go.RowKit

section
variable {w w0 : World} {L : List Res} {p g c : Nat} {G : Gr}
theorem infoB : (Tryd.prog.info? 4).map (fun i => (i.zero, i.size, i.bytes)) = some (some (.bool false), 1, 1) := by kernel_rfl

set_option maxRecDepth 100000 in
theorem set_out (h : Gnd 92 w p g c G) (t : Int) (b : Bool) (ht : G.has t = false) (e : Value) (he : w.cell? ⟨1, 0, none⟩ = some e) : Calls Tryd.prog 33 #[.pointer (some ⟨p, 0, none⟩), .int .i64 t, .bool b] w fun r w' => r = .returned e ∧ w = w' := by
  have H := hid h
  clear h
  go_enter Tryd.func33, Tryd.ntmps33
  go_wp2_with fail
  refine (has_any H.out _).mono ?_
  rintro r w' ⟨rfl, rfl⟩
  rw [ht]
  go_wp2
  go_ret
  exact ⟨rfl, rfl⟩

set_option maxRecDepth 100000 in
theorem set_in (X : Star w0 w (gndR 92 p G :: L)) (t : Nat) (b : Bool) (ht : t < G.fs.length) : Calls Tryd.prog 33 #[.pointer (some ⟨p, 0, none⟩), .int .i64 t, .bool b] w fun r w' => r = .returned .nilIface ∧ Star w0 w' (gndR 92 p (G.set t b) :: L) := by
  obtain ⟨g, c, h, -, -, hset⟩ := gnd_at X 0 rfl
  have H := hid h
  have HS := hid (hset t b)
  have ht' : G.has (t : Int) = true := by unfold Gr.has; exact decide_eq_true (by omega)
  have c2 := h.c2
  have hf := h.frozen t
  have hg := h.get t ht
  clear h hset X
  go_enter Tryd.func33, Tryd.ntmps33
  go_wp2_with fail
  refine (has_any H.out _).mono ?_
  rintro r w' ⟨rfl, rfl⟩
  rw [ht']
  go_wp2
  go_ret
  exact ⟨rfl, HS.out⟩


end
end Go.Proofs.YtilobedihjkpjaaDoor.Steps
