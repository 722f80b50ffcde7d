/-
  alive: the chapter's examples.
-/
import Derived.Test.YtbhmpbgoanmdlaaDoorRouteFind
import Derived.Test.YtbhmpbgoanmdlaaDoorG33
import Derived.Test.YtbhmpbgoanmdlaaDoorMadeOf
import Derived.Test.YtbhmpbgoanmdlaaDoorNum
import Derived.Test.YtbhmpbgoanmdlaaDoorErr
namespace Go.Proofs.YtbhmpbgoanmdlaaDoor.Route
open Go Go.RowKit Go.Proofs.YtbhmpbgoanmdlaaDoor.Err Go.Proofs.YtbhmpbgoanmdlaaDoor.Steps
theorem g33_of : Gr.block 3 3 [] = g33 true := by unfold g33 Gr.block Gr.ofF; rfl
theorem g33_set : (g33 true).set 4 false = g33 false := rfl
theorem readsNil (w : World) : Ints w (.slice none 0 0) [] := ⟨none, 0, rfl, rfl, fun _ => ⟨rfl, rfl⟩, fun a h => by cases h⟩
section
variable {w : World}
set_option maxRecDepth 100000 in
set_option maxHeartbeats 8000000 in
theorem alive_any (ad : Nat → Addr) (hE : Errs3 w ad) : Calls Tryd.prog 10 #[] w fun r w' => r = .returned (.bool true) ∧ Same w w' := by
  have HE := hid hE
  clear hE
  go_enter Tryd.func10, Tryd.ntmps10
  go_wp2_with fail
  refine (of_any ⟨3, 3, 1, 0, 0⟩ (by decide) [] _ (readsNil w) (by simp) ad HE.out).mono ?_
  rintro r w2 hcase
  rcases hcase with ⟨-, p, rfl, hX⟩ | ⟨⟨x, hx, hbad⟩, -⟩
  · have X2 : Hid (Star w w2 [gndR 72 p (g33 true)]) := hid (g33_of ▸ hX)
    clear hX
    obtain ⟨g, c, h, -⟩ := gnd_at X2.out 0 rfl
    have H := hid h
    clear h
    go_wp2_with fail
    refine (find_ok H.out 0 8 (by decide) (by decide) (g33_least true) (by decide +kernel) (g33_fol true) _ _ (HE.out.same X2.out.same).c8).mono ?_
    rintro r w3 ⟨v3, rfl, hX3⟩
    have e3 : cAt (c33 true) 0 = 28 := by decide +kernel
    rw [e3]
    have X3 := hid (X2.out.lift hX3).swap
    obtain ⟨va, vc, rfl, -⟩ := own_slice (hX3.row 0 rfl).1
    clear hX3 X2 H e3
    go_wp2_with fail
    refine (set_in X3.out 4 false (by decide)).mono ?_
    rintro r w4 ⟨rfl, hX4⟩
    rw [g33_set] at hX4
    have X4 := hid hX4
    clear hX4 X3
    obtain ⟨g, c, h, -⟩ := gnd_at X4.out 0 rfl
    have H := hid h
    clear h
    go_wp2_with fail
    refine (find_ok H.out 0 8 (by decide) (by decide) (g33_least false) (by decide +kernel) (g33_fol false) _ _ (HE.out.same X4.out.same).c8).mono ?_
    rintro r w5 ⟨v5, rfl, hX5⟩
    have e3 : cAt (c33 false) 0 = 40 := by decide +kernel
    rw [e3]
    have X5 := hid (X4.out.lift hX5)
    obtain ⟨vb, vd, rfl, -⟩ := own_slice (hX5.row 0 rfl).1
    clear hX5 X4 H e3
    have X6 := hid (X5.out.alloc #[.int .i64 0, .int .i64 4, .int .i64 8] 3)
    go_wp2_with fail
    refine (Num.sameInts _ _ [0, 4, 8] [0, 4, 8] _ (Reads.of_own (X6.out.row 3 rfl).1) (reads_blk (X6.out.blk 0 rfl).1 3 3 1 rfl) (by simp) (by simp)).mono ?_
    rintro r w7 ⟨rfl, hs7⟩
    have X7 := hid ((X6.out.go hs7).alloc #[.int .i64 0, .int .i64 1, .int .i64 2, .int .i64 5, .int .i64 8] 3)
    clear hs7 X6
    go_wp2_with fail
    refine (Num.sameInts _ _ [0, 1, 2, 5, 8] [0, 1, 2, 5, 8] _ (Reads.of_own (X7.out.row 2 rfl).1) (reads_blk (X7.out.blk 0 rfl).1 5 5 1 rfl) (by simp) (by simp)).mono ?_
    rintro r w8 ⟨rfl, hs8⟩
    have X8 := hid (X7.out.go hs8)
    clear hs8 X7
    go_wp2
    go_ret
    exact ⟨rfl, X8.out.same⟩
  · simp at hx
end
end Go.Proofs.YtbhmpbgoanmdlaaDoor.Route
