/-
  alive: the chapter's example.
-/
import Derived.Test.YtnfobdonmkefdaaDoorMade
namespace Go.Proofs.YtnfobdonmkefdaaDoor.Steps
open Go Go.RowKit Go.Proofs.YtnfobdonmkefdaaDoor.Err
section
variable {w : World}
def G3 : Gr := Gr.block 3 3 [1]
theorem g3_go : G3.goI 0 1 = none := by decide +kernel
theorem g3_cost : G3.cost [0, 3, 4] = (20, 0) := by decide +kernel

set_option maxRecDepth 100000 in
set_option maxHeartbeats 8000000 in
theorem alive_any (ad : Nat → Addr) (hE : Errs5 w ad) : Calls Tryd.prog 10 #[] w fun r w' => r = .returned (.bool true) ∧ Same w w' := by
  have HE := hid hE
  have Z := hid ((Star.new w).alloc #[.int .i64 1] 3)
  clear hE
  go_enter Tryd.func10, Tryd.ntmps10
  go_wp2_with fail
  generalize w.alloc _ = w1 at *
  generalize w.heap.size = q at *
  refine (of_any ⟨3, 3, 1, 0, 0⟩ (by decide) [1] _ (reads_blk (Z.out.blk 0 rfl).1 1 1 1 rfl) (by simp) ad (HE.out.same Z.out.same)).mono ?_
  rintro r w2 hcase
  rcases hcase with ⟨-, p, rfl, hX⟩ | ⟨⟨x, hx, hbad⟩, -⟩
  · have X2 : Hid (Star w w2 [gndR 65 p G3]) := hid (((Star.new w).go Z.out.same).lift hX)
    clear hX Z
    obtain ⟨g, c, h, -⟩ := gnd_at X2.out 0 rfl
    have H := hid h
    clear h
    go_wp2_with fail
    refine (go_any H.out 0 1).mono ?_
    rintro r w3 ⟨rfl, hs3⟩
    rw [g3_go]
    unfold goV
    have S3 := hid (X2.out.same.trans hs3 (fun _ _ f => f))
    have H3 := hid (H.out.same hs3)
    have Z4 := hid (((Star.new w3).alloc #[.int .i64 0, .int .i64 0, .int .i64 0] 34).alloc #[.int .i64 0, .int .i64 3, .int .i64 4] 3)
    rw [World.size_alloc] at Z4
    clear hs3 X2 H
    go_wp2_with fail
    refine (cost_any (H3.out.same Z4.out.same) _ 3 3 [0, 3, 4] (reads_blk (Z4.out.blk 0 rfl).1 3 3 1 rfl) (by omega) (by simp) ad (HE.out.same (S3.out.trans Z4.out.same (fun _ _ f => f)))).mono ?_
    rintro r w5 ⟨rfl, hs5⟩
    rw [g3_cost]
    unfold costV
    have S5 := hid ((S3.out.trans Z4.out.same (fun _ _ f => f)).trans hs5 (fun _ _ f => f))
    have e0 : errV ad (0 : Int).toNat = .nilIface := rfl
    simp only [e0]
    clear hs5
    go_wp2
    go_ret
    exact ⟨rfl, S5.out⟩
  · simp at hx; subst hx; exact absurd (by decide) hbad
end
end Go.Proofs.YtnfobdonmkefdaaDoor.Steps
