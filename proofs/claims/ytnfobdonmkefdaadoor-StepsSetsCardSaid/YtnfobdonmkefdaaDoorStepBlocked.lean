/-
  All tiles that aren't free.
-/
import Derived.Test.YtnfobdonmkefdaaDoorSteps
namespace Go.Proofs.YtnfobdonmkefdaaDoor.Steps
open Go Go.RowKit

/-- Whole numbers as cells. -/
def nC (l : List Nat) : List Value := l.map (fun (t : Nat) => Value.int .i64 (t : Int))
theorem nC_one (l : List Nat) : ∀ u ∈ nC l, u.oneCell' = true := by intro u hu; simp [nC] at hu; obtain ⟨i, _, rfl⟩ := hu; rfl
theorem nC_len (l : List Nat) : (nC l).length = l.length := by simp [nC]
theorem nC_snoc (l : List Nat) (t : Nat) : nC (l ++ [t]) = nC l ++ [.int .i64 t] := by simp [nC]
theorem nC_ints (l : List Nat) : nC l = (l.map Int.ofNat).map (Value.int .i64) := by simp [nC]
theorem infoI2 : (Tryd.prog.info? 3).map (fun i => (i.zero, i.size, i.bytes)) = some (some (.int .i64 0), 1, 8) := by kernel_rfl
def blockedTo (G : Gr) (k : Nat) : List Nat := (List.range k).filter fun t => !G.free t
theorem blockedTo_succ (G : Gr) (k : Nat) : blockedTo G (k + 1) = if G.free k then blockedTo G k else blockedTo G k ++ [k] := by
  unfold blockedTo
  rw [List.range_succ, List.filter_append]
  cases h : G.free k <;> simp [h]
theorem blockedTo_len (G : Gr) (k : Nat) : (blockedTo G k).length ≤ k := by
  unfold blockedTo
  exact Nat.le_trans (List.length_filter_le _ _) (by simp)
section
variable {w : World} {p g c : Nat} {G : Gr}

set_option maxRecDepth 100000 in
set_option maxHeartbeats 4000000 in
theorem blocked_any (h : Gnd 65 w p g c G) : Calls Tryd.prog 20 #[.pointer (some ⟨p, 0, none⟩)] w fun r w' => ∃ v, r = .returned v ∧ Star w w' [Row 3 1 v G.blocked.length (nC G.blocked)] := by
  obtain ⟨i0, hi, hz0, hz1, hz2⟩ := info_parts infoI2
  have H := hid h
  have hmax := h.ok.max
  have c2 := h.c2
  have X0 := hid ((Star.new w).nilRow 3 1)
  clear h
  go_enter Tryd.func20, Tryd.ntmps20
  go_wp2_with fail
  go_loopw [3, 11] (fun ov iv wr => ∃ k : Nat, k ≤ G.fs.length ∧ iv = .int .i64 k ∧ Star w wr [Row 3 1 ov (blockedTo G k).length (nC (blockedTo G k))]) (fun _ iv _ => G.fs.length - (intOf iv).toNat)
  case atStart => exact ⟨0, by omega, rfl, X0.out⟩
  case round =>
    obtain ⟨k, hk, rfl, hX⟩ := hrel
    have X := hid hX
    clear hX X0
    have hl8 := blockedTo_len G k
    by_cases hkn : k < G.fs.length
    · have hg := (H.out.same X.out.same).get k hkn
      have hb := blockedTo_succ G k
      cases hf : G.free k with
      | true =>
        rw [hf] at hg hb
        rw [if_pos rfl] at hb
        have HB := hid hb
        clear hb
        go_wp2
        go_roundw
        case rel => exact ⟨k + 1, by omega, by go_num, by rw [HB.out]; exact X.out⟩
        case measure => simp [intOf]; omega
      | false =>
        rw [hf] at hg hb
        rw [if_neg (by simp)] at hb
        have HB := hid hb
        clear hb
        obtain ⟨av, cv, rfl, -⟩ := own_slice (X.out.row 0 rfl).1
        have X2 := hid (X.out.alloc #[.int .i64 k] 3)
        go_wp2_with (at_builtin; refine wpList_app rfl (.tmp 18) (.tmp 20) 24 rfl 3 i0 (.int .i64 0) 1 8 Tryd.underlying24 hi hz0 hz1 hz2 rfl (by decide) _ (blockedTo G k).length (nC (blockedTo G k)) rfl (X2.out.row 1 rfl).1 (some ⟨wr.heap.size, 0, none⟩) 1 1 [.int .i64 k] rfl (reads_blk (X2.out.blk 0 rfl).1 1 1 1 rfl) (by simp [Value.oneCell']) (by omega) (by omega) ?_; intro a3 c3 w3 ho3 hg3 hn3; have X3 := hid (X2.out.grown 1 rfl ho3 hg3 hn3).drop; clear ho3 hg3 hn3)
        go_roundw
        case rel => exact ⟨k + 1, by omega, by go_num, by rw [HB.out, nC_snoc, List.length_append]; exact X3.out⟩
        case measure => simp [intOf]; omega
    · obtain rfl : k = G.fs.length := by omega
      go_wp2
      go_ret
      exact ⟨_, rfl, X.out⟩
end
end Go.Proofs.YtnfobdonmkefdaaDoor.Steps
