/-
  Package table: the chapter's example.
-/
import Derived.Test.YtegcnkcjmebheaaDoorTabAdd
import Derived.Test.YtegcnkcjmebheaaDoorTabTake
namespace Go.Proofs.YtegcnkcjmebheaaDoor.Tab
open Go Go.RowKit Go.Maps Go.Proofs.YtegcnkcjmebheaaDoor.Mask
theorem bits1 : bitsOf 1 = [0] := by decide +kernel
theorem takes1 : Takes 1 [⟨0, 1, 0⟩] := by
  refine ⟨⟨fun i v hi hv => ?_, fun i u v hi hu hv => ?_⟩, by decide +kernel⟩
  · obtain rfl : i = 0 := by simp at hi; omega
    cases hv
    decide +kernel
  · simp at hi
theorem rowOf_le (vs : List Vl) (k : Nat) : (rowOf vs k).length ≤ vs.length := List.length_filter_le _ _
section
variable {w : World}
set_option maxRecDepth 100000 in
set_option maxHeartbeats 16000000 in
theorem alive_any (ad : Nat → Addr) (hE : Err.ErrsT w ad) (hT : Mask.Tab w) : Calls Tryd.prog 7 #[] w fun r w' => r = .returned (.bool true) ∧ Same w w' := by
  have HE := hid hE
  have HT := hid hT
  clear hE hT
  go_enter Tryd.func7, Tryd.ntmps7
  go_wp2_with fail
  refine (new_any (Star.new w) 1 (by omega) HT.out).mono ?_
  rintro r w1 ⟨t, kv, hok, rfl, hX⟩
  rw [bits1] at hok hX
  obtain ⟨c, hc⟩ := Option.isSome_iff_exists.1 ((hok 0).2 (by simp))
  have HC := hid hc
  have HOK := hid hok
  have X1 := hid (hX.alloc #[.int .i64 0, .int .i64 1, .int .i64 0] 37)
  clear hX hc hok
  have HCC : Hid (∀ x ∈ ([⟨0, 1, 0⟩] : List Vl), ∃ (k c : Nat), x.k = (k : Int) ∧ k < 10 ∧ t.cols k = some c) := hid (fun x hx => by
    simp only [List.mem_singleton] at hx
    subst hx
    exact ⟨0, c, rfl, by omega, HC.out⟩)
  have HONE : Hid (∀ (j k : Nat) (x : Vl), ([⟨0, 1, 0⟩] : List Vl)[j]? = some x → x.k = ((k : Nat) : Int) → rowOf (([⟨0, 1, 0⟩] : List Vl).take j) k = []) := hid (fun j k x hx _ => by
    have hj := (List.getElem?_eq_some_iff.1 hx).1
    obtain rfl : j = 0 := by simp at hj; omega
    rfl)
  go_wp2_with fail
  refine (add_ok X1.out (0, 1) _ [⟨0, 1, 0⟩] (fun h => reads_blk (h.blk 0 rfl).1 1 1 3 rfl) (by decide) ad HE.out takes1 (by decide) HCC.out (fun k => by simp) HONE.out).mono ?_
  rintro r w2 ⟨rfl, hX⟩
  have X2 := hid hX
  clear hX X1
  go_wp2_with fail
  refine (add_ok X2.out (1, 1) _ [⟨0, 1, 0⟩] (fun h => reads_blk (h.blk 0 rfl).1 1 1 3 rfl) (by decide) ad HE.out takes1 (by decide) HCC.out (fun k => by have := rowOf_le [⟨0, 1, 0⟩] k; simp at this ⊢; omega) HONE.out).mono ?_
  rintro r w3 ⟨rfl, hX⟩
  have X3 := hid hX.drop
  clear hX X2
  go_wp2_with fail
  refine (take_in X3.out HOK.out (by simp) (by decide) 0 (0, 1) rfl (by decide) (fun _ => ⟨0, 1, 0⟩) (fun k hk => by simp only [List.mem_singleton] at hk; subst hk; rfl) (fun k => by have := rowOf_le [⟨0, 1, 0⟩] k; simp at this ⊢; omega)).mono ?_
  rintro r w4 ⟨v, rfl, hX⟩
  obtain ⟨va, vcp, rfl, -⟩ := own_slice (hX.row 0 rfl).1
  dsimp only [enC, List.map_cons, List.map_nil, List.length_cons, List.length_nil] at hX ⊢
  have X4 : Hid (Star w (w4.alloc (.cells #[.int .i64 0, .int .i64 1, .slice va (0 + 1) vcp] 46)) (Blk w4.heap.size #[.int .i64 0, .int .i64 1, .slice va (0 + 1) vcp] 46 :: tabL t 1 kv [(1, 1)] (fun k => takeOut ([] ++ rowOf [⟨0, 1, 0⟩] k ++ rowOf [⟨0, 1, 0⟩] k) 0) [natRow kv [0]])) := hid (hX.drop.alloc #[.int .i64 0, .int .i64 1, .slice va (0 + 1) vcp] 46)
  clear hX X3
  go_upto_region 8 with (fail)
  generalize w4.alloc _ = w5 at *
  generalize w4.heap.size = e at *
  have XT := hid (tabIn X4.out)
  go_wp2_with fail
  refine (handles_any XT.out (by decide)).mono ?_
  rintro r w6 ⟨hv, rfl, hX⟩
  obtain ⟨g, gk, hg⟩ := own_shape (hX.row 0 rfl).1 (by decide)
  subst hg
  have hrow := (hX.row 0 rfl).1
  have g0 : w6.cell? ⟨g, 0, none⟩ = some (.int .i64 1) := hrow.cellAt 0 (by decide)
  have g1 : w6.cell? ⟨g, 1, none⟩ = some (.int .i64 1) := hrow.cellAt 1 (by decide)
  have gl := (hrow.lt g rfl).2
  have hb := (hX.blk 14 rfl).1
  have b0 := cell_of hb 0
  have b1 := cell_of hb 1
  have bl := lt_of hb
  simp only [List.getElem?_toArray, List.getElem?_cons_zero, List.getElem?_cons_succ] at b0 b1
  have SM := hid hX.same
  clear hX hrow hb XT X4
  go_wp2_with fail
  go_ret
  exact ⟨rfl, SM.out⟩
end
end Go.Proofs.YtegcnkcjmebheaaDoor.Tab
