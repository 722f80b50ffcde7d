/-
  All steps from a tile.
-/
import Derived.Test.YtilobedihjkpjaaDoorStepGo
import Derived.Test.YtilobedihjkpjaaDoorFlat
namespace Go.Proofs.YtilobedihjkpjaaDoor.Steps
open Go Go.RowKit

/-- A step's cells. -/
def stC (s : Gr.St) : List Value := [.int .i64 s.d, .int .i64 s.to, .int .i64 s.c]
theorem stC_len (s : Gr.St) : (stC s).length = 3 := rfl
theorem stC_one (s : Gr.St) : ∀ u ∈ stC s, u.oneCell' = true := by intro u hu; simp [stC] at hu; rcases hu with rfl | rfl | rfl <;> rfl
def stCs (l : List Gr.St) : List Value := l.flatMap stC
theorem stCs_snoc (l : List Gr.St) (s : Gr.St) : stCs (l ++ [s]) = stCs l ++ stC s := by simp [stCs]
theorem infoS : (Tryd.prog.info? 47).map (fun i => (i.zero, i.size, i.bytes)) = some (some (.agg #[.int .i64 0, .int .i64 0, .int .i64 0]), 3, 24) := by kernel_rfl
section
variable {w : World} {p g c : Nat} {G : Gr}

set_option maxRecDepth 100000 in
set_option maxHeartbeats 4000000 in
theorem around_any (h : Gnd 92 w p g c G) (t : Int) : Calls Tryd.prog 15 #[.pointer (some ⟨p, 0, none⟩), .int .i64 t] w fun r w' => ∃ v, r = .returned v ∧ Star w w' [Row 47 3 v (G.aroundI t).length (stCs (G.aroundI t))] := by
  obtain ⟨i0, hi, hz0, hz1, hz2⟩ := info_parts infoS
  have H := hid h
  have X0 := hid ((Star.new w).nilRow 47 3)
  clear h
  go_enter Tryd.func15, Tryd.ntmps15
  go_wp2_with fail
  go_loopw [5, 9] (fun ov iv wr => ∃ k : Nat, k ≤ 8 ∧ iv = .int .i64 k ∧ Star w wr [Row 47 3 ov (G.aroundTo t k).length (stCs (G.aroundTo t k))]) (fun _ iv _ => 8 - (intOf iv).toNat)
  case atStart => exact ⟨0, by omega, rfl, X0.out⟩
  case round =>
    obtain ⟨k, hk, rfl, hX⟩ := hrel
    have X := hid hX
    clear hX X0
    have hl8 := G.aroundTo_len t k
    by_cases hk8 : k < 8
    · go_wp2_with fail
      refine (go_any (H.out.same X.out.same) t k).mono ?_
      rintro r w1 ⟨rfl, hs⟩
      have X1 := hid (X.out.go hs)
      clear hs X
      cases hgo : G.goI t k with
      | none =>
        have HG := hid (Gr.aroundTo_none hgo)
        clear hgo
        unfold goV
        go_wp2
        go_roundw
        case rel => exact ⟨k + 1, by omega, by go_num, by rw [HG.out]; exact (X1.out.alloc _ _).drop⟩
        case measure => simp [intOf]; omega
      | some p1 =>
        obtain ⟨u, cc⟩ := p1
        have HG := hid (Gr.aroundTo_some hgo)
        clear hgo
        unfold goV
        obtain ⟨av, cv, rfl, -⟩ := own_slice (X1.out.row 0 rfl).1
        have X2 := hid ((X1.out.alloc #[.int .i64 k, .int .i64 u, .int .i64 cc] 47).alloc #[.int .i64 k, .int .i64 u, .int .i64 cc] 47)
        rw [World.size_alloc] at X2
        clear X1
        go_wp2_with (at_builtin; refine wpList_app rfl (.tmp 20) (.tmp 22) 44 rfl 47 i0 (.agg #[.int .i64 0, .int .i64 0, .int .i64 0]) 3 24 Tryd.underlying44 hi hz0 hz1 hz2 rfl (by decide) _ (G.aroundTo t k).length (stCs (G.aroundTo t k)) rfl (X2.out.row 2 rfl).1 (some ⟨w1.heap.size + 1, 0, none⟩) 1 1 (stC ⟨k, u, cc⟩) rfl (reads_blk (X2.out.blk 0 rfl).1 1 1 3 rfl) (stC_one _) (by omega) (by omega) ?_; intro a3 c3 w3 ho3 hg3 hn3; have X3 := hid (X2.out.grown 2 rfl ho3 hg3 hn3).drop.drop; clear ho3 hg3 hn3)
        go_roundw
        case rel => exact ⟨k + 1, by omega, by go_num, by rw [HG.out, stCs_snoc, List.length_append]; exact X3.out⟩
        case measure => simp [intOf]; omega
    · obtain rfl : k = 8 := by omega
      go_wp2
      go_ret
      exact ⟨_, rfl, X.out⟩
end
end Go.Proofs.YtilobedihjkpjaaDoor.Steps
