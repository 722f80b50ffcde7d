/-
  paddocknum.KeptInts: a copy and its marks stand as they stood.
-/
import Derived.Test.YtminjgfobcnmhaaDoorNum
import Derived.Test.YtminjgfobcnmhaaDoorStar
namespace Go.Proofs.YtminjgfobcnmhaaDoor.Num
open Go Go.RowKit

theorem infoI : (Tryd.prog.info? 3).map (fun i => (i.zero, i.size, i.bytes)) = some (some (.int .i64 0), 1, 8) := by kernel_rfl
def marks : List Int := [-91, -92, -93, -94]
theorem ints_one (xs : List Int) : ∀ u ∈ xs.map (Value.int .i64), u.oneCell' = true := by intro u hu; simp at hu; obtain ⟨i, _, rfl⟩ := hu; rfl

/-- A copy of xs with the marks behind. -/
structure Copy (w0 w : World) (g cp : Nat) (xs : List Int) : Prop where
  own : w.ownsRow 0 3 1 (.slice (some ⟨g, 0, none⟩) (xs.length + 4) cp) (xs.length + 4) ((xs ++ marks).map (Value.int .i64))
  new : w0.heap.size ≤ g
theorem Copy.cap {w0 w : World} {g cp : Nat} {xs : List Int} (h : Copy w0 w g cp xs) : xs.length + 4 ≤ cp := own_cap h.own
theorem Copy.reads {w0 w : World} {g cp : Nat} {xs : List Int} (h : Copy w0 w g cp xs) : Ints w (.slice (some ⟨g, 0, none⟩) xs.length cp) xs := by
  have h1 := Reads.of_own (own_take h.own xs.length (by omega))
  rw [Nat.mul_one, ← List.map_take, List.take_left] at h1
  exact h1
theorem Copy.reads2 {w0 w : World} {g cp n : Nat} {xs : List Int} (h : Copy w0 w g cp xs) (hn : n = xs.length) : Reads w (.slice (some ⟨g, 0, none⟩) n cp) n 1 (xs.map (Value.int .i64)) := by rw [hn]; exact h.reads
theorem Copy.chg {S : Nat → Prop} {w0 w w' : World} {g cp : Nat} {xs : List Int} (h : Copy w0 w g cp xs) (hc : Chg S w w') (hn : ¬ S g) : Copy w0 w' g cp xs :=
  ⟨own_chg h.own hc (fun k e => by simp [Value.ownBlock] at e; subst e; exact hn), h.new⟩
theorem Copy.go {w0 w w' : World} {g cp : Nat} {xs : List Int} (h : Copy w0 w g cp xs) (hs : Same w w') : Copy w0 w' g cp xs := h.chg hs (fun f => f)

set_option maxRecDepth 100000 in
set_option maxHeartbeats 1000000 in
theorem ints_any (v : Value) (xs : List Int) (w : World) (hr : Ints w v xs) (hx : xs.length ≤ 8000000000000) :
    Calls Tryd.prog 35 #[v] w fun r w' => ∃ g cp, r = .returned (.slice (some ⟨g, 0, none⟩) xs.length cp) ∧ Copy w w' g cp xs ∧ Same w w' := by
  obtain ⟨i0, hi, hz0, hz1, hz2⟩ := info_parts infoI
  obtain ⟨ad, c, rfl⟩ := hr.slice
  have HR := hid hr
  have H1 := hid (ints_one xs)
  generalize hn : xs.length = n at *
  have HN := hid hn
  have hb1 : i0.bytes * (n + 4) ≤ 281474976710656 := by rw [hz2]; omega
  clear hr hn
  go_enter Tryd.func35, Tryd.ntmps35
  go_wp2_with (first
    | (at_make; refine wpList_make_own w rfl _ _ 53 rfl 0 3 i0 (.int .i64 0) 1 Tryd.underlying53 hi hz0 hz1 _ _ _ (n + 4) rfl rfl (by omega) hb1 (by unfold maxLen; omega) (Nat.zero_le _) ?_; intro w1 ho1 hg1; have O1 := hid ho1; have S1 := hid ((Chg.refl w).grown hg1 (fun k e _ => by cases e) : Same w w1); clear ho1 hg1)
    | (at_builtin; refine wpList_app rfl (.tmp 7) (.tmp 8) 53 rfl 3 i0 (.int .i64 0) 1 8 Tryd.underlying53 hi hz0 hz1 hz2 rfl (by decide) (.slice (some ⟨w.heap.size, 0, none⟩) 0 (n + 4)) 0 [] rfl O1.out ad n c (xs.map (Value.int .i64)) rfl (by have := HR.out.same S1.out; simpa [HN.out] using this) H1.out (by omega) (by omega) ?_; intro a2 c2 w2; rw [show 0 + n = n from Nat.zero_add n, List.nil_append]; intro ho2 hg2 hv2; have O2 := hid ho2; have G2 := hid hg2; have V2 := hid hv2; clear ho2 hg2 hv2)
    | (at_builtin; refine wpList_app rfl (.tmp 9) (.tmp 10) 53 rfl 3 i0 (.int .i64 0) 1 8 Tryd.underlying53 hi hz0 hz1 hz2 rfl (by decide) (.slice a2 n c2) n (xs.map (Value.int .i64)) rfl (own_chg (S := fun _ => False) O2.out ((Chg.refl _).alloc _) (fun _ _ f => f)) (some _) 4 4 (marks.map (Value.int .i64)) rfl (reads_blk (cs := #[.int .i64 (-91), .int .i64 (-92), .int .i64 (-93), .int .i64 (-94)]) (E := 3) (f := (0, 0)) (alloc_new _ _) 4 4 1 rfl) (ints_one marks) (by omega) (by omega) ?_; intro a3 c3 w3 ho3 hg3 hv3; have O3 := hid ho3; have G3 := hid hg3; have V3 := hid hv3; have hc3 := own_cap ho3; clear ho3 hg3 hv3))
  have hS : Same w w3 := by
    have h1 : Chg (fun k => w.heap.size ≤ k) w w2 := (S1.out.mono (fun _ _ f => f.elim)).grown G2.out (fun k e hk => by simp [Value.ownBlock] at e; omega)
    have h2 : Chg (fun k => w.heap.size ≤ k) w w3 := (h1.alloc _).grown G3.out (fun k e hk => by
      rcases V2.out with h | h
      · rw [h] at e; simp [Value.ownBlock] at e; omega
      · have := h k e; have := S1.out.size; omega)
    exact h2.mono (fun i hi h => by omega)
  obtain ⟨g3, c3', e3⟩ := own_shape O3.out (by omega)
  cases e3
  have hnew : w.heap.size ≤ g3 := by
    rcases V3.out with h | h
    · rcases V2.out with h' | h'
      · rw [h'] at h; simp [Value.ownBlock] at h; omega
      · have := h' g3 (by rw [← h]; rfl); have := S1.out.size; omega
    · have h1 := h g3 rfl
      have h2 := G2.out.size
      have h3 := S1.out.size
      simp at h1
      omega
  have HS := hid hS
  have HC := hid (Copy.mk (w0 := w) (xs := xs) (by rw [HN.out, List.map_append]; exact O3.out) hnew)
  clear hS
  go_wp2
  go_ret
  exact ⟨g3, c3, rfl, HC.out, HS.out⟩

end Go.Proofs.YtminjgfobcnmhaaDoor.Num
namespace Go.Proofs.YtminjgfobcnmhaaDoor.Num
open Go Go.RowKit

set_option maxRecDepth 100000 in
set_option maxHeartbeats 1000000 in
theorem kept_any (w0 : World) (g cp : Nat) (v : Value) (xs : List Int) (w : World) (hc : Copy w0 w g cp xs) (hr : Ints w v xs) (hx : xs.length ≤ 8000000000000) (_ : cp ≤ 9223372036854775807) :
    Calls Tryd.prog 37 #[.slice (some ⟨g, 0, none⟩) xs.length cp, v] w fun r w' => r = .returned (.bool true) ∧ Same w w' := by
  obtain ⟨ad, c, rfl⟩ := hr.slice
  have hcap := hc.cap
  have HR := hid hr
  have HC := hid hc
  have HI := hid hc.reads
  have hgl := (hc.own.lt g rfl).2
  have hcell : ∀ i, i < 4 → w.cell? ⟨g, xs.length + i, none⟩ = some (.int .i64 (-91 - (i : Int))) := by
    intro i hi
    refine (hc.own.cellAt _ (by omega)).trans ?_
    rw [List.map_append, List.getElem?_append_right (by simp), List.length_map, Nat.add_sub_cancel_left]
    rcases i with _ | _ | _ | _ | i
    · rfl
    · rfl
    · rfl
    · rfl
    · omega
  have HCL := hid hcell
  generalize hn : xs.length = n at *
  have HN := hid hn
  clear hr hn hc hcell
  go_enter Tryd.func37, Tryd.ntmps37
  go_wp2_with fail
  refine (sameInts _ _ xs xs _ HI.out HR.out (by have := HN.out; omega) (by have := HN.out; omega)).mono ?_
  rintro r w1 ⟨rfl, hs⟩
  rw [decide_eq_true (rfl : xs = xs)]
  have HS := hid hs
  have hgl1 : g < w1.heap.size := Nat.lt_of_lt_of_le hgl hs.size
  clear hs
  go_wp2
  go_loop [6] (fun iv => ∃ i : Nat, i ≤ 4 ∧ iv = .int .i64 i) (fun iv => 4 - (intOf iv).toNat)
  case atStart => exact ⟨0, by omega, rfl⟩
  case round =>
    obtain ⟨i, hi, rfl⟩ := hrel
    by_cases hlt : i < 4
    · have c0 := HS.out.keep (HCL.out i hlt)
      go_wp2
      go_round
      case rel => exact ⟨i + 1, by omega, by go_num⟩
      case measure => simp [intOf]; omega
    · go_wp2
      go_ret
      exact ⟨rfl, HS.out⟩
end Go.Proofs.YtminjgfobcnmhaaDoor.Num
