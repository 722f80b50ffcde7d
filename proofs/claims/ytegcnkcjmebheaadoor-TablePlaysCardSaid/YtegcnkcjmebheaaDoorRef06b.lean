/-
  paddockref06: Drop, Find.
-/
import Derived.Test.YtegcnkcjmebheaaDoorRef06
namespace Go.Proofs.YtegcnkcjmebheaaDoor.Tab
open Go Go.RowKit
/-- A row without a kind. -/
def dropK (vs : List Vl) (k : Int) : List Vl := vs.filter (fun v => v.k != k)
theorem dropK_snoc (vs : List Vl) (v : Vl) (k : Int) : dropK (vs ++ [v]) k = if v.k = k then dropK vs k else dropK vs k ++ [v] := by
  unfold dropK
  rw [List.filter_append]
  by_cases e : v.k = k
  · rw [if_pos e]; simp [e]
  · rw [if_neg e]; simp [e]
theorem dropK_le (vs : List Vl) (k : Int) : (dropK vs k).length ≤ vs.length := List.length_filter_le _ _
section
variable {w : World}
set_option maxRecDepth 100000 in
set_option maxHeartbeats 8000000 in
theorem ref_drop (v : Value) (vs : List Vl) (k : Int) (hr : Reads w v vs.length 3 (vs.flatMap vc)) (hn : vs.length ≤ 100000) :
    Calls Tryd.prog 49 #[v, .int .i64 k] w fun r w' => ∃ v', r = .returned v' ∧ Star w w' [Row 37 3 v' (dropK vs k).length ((dropK vs k).flatMap vc)] := by
  obtain ⟨i0, hi0, hz0, hz1, hz2⟩ := info_parts (show (Tryd.prog.info? 37).map (fun i => (i.zero, i.size, i.bytes)) = some (some (.agg #[.int .i64 0, .int .i64 0, .int .i64 0]), 3, 24) by kernel_rfl)
  obtain ⟨a, c, rfl⟩ := hr.slice
  obtain ⟨n, hnn⟩ : ∃ n, n = vs.length := ⟨_, rfl⟩
  have HN := hid hnn
  rw [← hnn] at hr hn ⊢
  have HR := hid hr
  clear hr hnn
  have X0 := hid ((Star.new w).add (w' := w.alloc (.cells #[] 37)) ((Chg.refl _).alloc _) (R := Row 37 3 (.slice (some ⟨w.heap.size, 0, none⟩) 0 0) 0 (([] : List Vl).flatMap vc)) ⟨World.ownsRow_lit w #[] 0 (Nat.zero_le _) (by unfold maxLen; omega) rfl, rfl⟩ (fun k h => by simp [Value.ownBlock] at h; omega))
  go_enter Tryd.func49, Tryd.ntmps49
  go_wp2_with fail
  go_loopw [5, 11] (fun lv iv wr => ∃ (j ln : Nat), j ≤ n ∧ ln ≤ j ∧ ln = (dropK (vs.take j) k).length ∧ iv = .int .i64 j ∧ Star w wr [Row 37 3 lv ln ((dropK (vs.take j) k).flatMap vc)]) (fun _ iv _ => n - (intOf iv).toNat)
  case atStart => exact ⟨0, 0, by omega, by omega, rfl, rfl, X0.out⟩
  case round =>
    obtain ⟨j, ln, hj, hln, hll, rfl, hX⟩ := hrel
    rename World => wz
    obtain ⟨sa, sc, rfl, -⟩ := own_slice (hX.row 0 rfl).1
    have X := hid hX
    have HLL := hid hll
    clear hX X0 hll
    by_cases hjn : j < n
    · obtain ⟨x, hx⟩ : ∃ x, vs[j]? = some x := ⟨_, List.getElem?_eq_getElem (by have := HN.out; omega)⟩
      obtain ⟨b, off, cap, e1, hb, hcl⟩ := HR.out.open (by omega)
      cases e1
      have g0 := X.out.same.keep (hcl (j * 3 + 0) _ ((rows_get vc vc_len vs j 0 x hx (by omega)).trans rfl))
      have g1 := X.out.same.keep (hcl (j * 3 + 1) _ ((rows_get vc vc_len vs j 1 x hx (by omega)).trans rfl))
      have g2 := X.out.same.keep (hcl (j * 3 + 2) _ ((rows_get vc vc_len vs j 2 x hx (by omega)).trans rfl))
      rw [Nat.add_zero] at g0
      rw [← Nat.add_assoc] at g1 g2
      have gl : b < wz.heap.size := Nat.lt_of_lt_of_le hb X.out.same.size
      have HTK := hid (show dropK (vs.take (j + 1)) k = if x.k = k then dropK (vs.take j) k else dropK (vs.take j) k ++ [x] from by
        obtain ⟨h1, h2⟩ := List.getElem?_eq_some_iff.1 hx
        rw [List.take_succ_eq_append_getElem h1, h2, dropK_snoc])
      obtain ⟨vk, va, vb⟩ := x
      dsimp only at g0 g1 g2
      clear hcl hx hb
      by_cases e : vk = k
      · subst e
        have HT2 := hid (HTK.out.trans (if_pos rfl))
        have X1 := hid (X.out.alloc #[.int .i64 vk, .int .i64 va, .int .i64 vb] 37).drop
        go_wp2_with fail
        go_roundw
        case rel => exact ⟨j + 1, ln, by omega, by omega, by rw [HT2.out]; exact HLL.out, by go_num, by rw [HT2.out]; exact X1.out⟩
        case measure => simp [intOf]; omega
      · have HT2 := hid (HTK.out.trans (if_neg e))
        have hne : (vk == k) = false := by simpa using e
        have hne2 : (vk != k) = true := by simpa using e
        have h6 := (X.out.alloc #[.int .i64 vk, .int .i64 va, .int .i64 vb] 37).alloc #[.int .i64 vk, .int .i64 va, .int .i64 vb] 37
        rw [show (wz.alloc (.cells #[.int .i64 vk, .int .i64 va, .int .i64 vb] 37)).heap.size = wz.heap.size + 1 from by simp] at h6
        have R6 := hid (reads_blk (h6.blk 0 rfl).1 1 1 3 rfl)
        have Y6 := hid h6
        clear h6 e HTK
        go_wp2_with (at_builtin; refine wpList_app rfl (.tmp 19) (.tmp 21) 38 rfl 37 i0 (.agg #[.int .i64 0, .int .i64 0, .int .i64 0]) 3 24 Tryd.underlying38 hi0 hz0 hz1 hz2 rfl (by decide) _ ln ((dropK (vs.take j) k).flatMap vc) rfl (Y6.out.row 2 rfl).1 (some ⟨wz.heap.size + 1, 0, none⟩) 1 1 [.int .i64 vk, .int .i64 va, .int .i64 vb] rfl R6.out (vc_one ⟨vk, va, vb⟩) (by omega) (by omega) ?_; intro a' c' w' ho hg hn'; have Y7 := hid ((Y6.out.grown 2 rfl ho hg hn').drop.drop); clear ho hg hn' Y6 R6)
        go_roundw
        case rel => exact ⟨j + 1, ln + 1, by omega, by omega, by rw [HT2.out, List.length_append, ← HLL.out]; rfl, by go_num, by rw [HT2.out, List.flatMap_append]; exact Y7.out⟩
        case measure => simp [intOf]; omega
    · go_wp2
      go_ret
      have h := X.out
      have h2 := HLL.out
      rw [List.take_of_length_le (by have := HN.out; omega)] at h h2
      refine ⟨.slice sa ln sc, rfl, ?_⟩
      rw [← h2]
      exact h
theorem vlS (a b c : Int) : (Tryd.prog.info? 37).map (·.size) = some (#[Value.int .i64 a, Value.int .i64 b, Value.int .i64 c] : Array Value).size := by kernel_rfl
/-- A row's component of a kind. -/
def findK (vs : List Vl) (k : Int) : Option Vl := vs.find? (fun v => v.k == k)
set_option maxRecDepth 100000 in
set_option maxHeartbeats 8000000 in
theorem ref_find (v : Value) (vs : List Vl) (k : Int) (hr : Reads w v vs.length 3 (vs.flatMap vc)) (hn : vs.length ≤ 100000) :
    Calls Tryd.prog 18 #[v, .int .i64 k] w fun r w' => (match findK vs k with | some x => r = .returned (.tuple #[vV x, .bool true]) | none => r = .returned (.tuple #[vV ⟨0, 0, 0⟩, .bool false])) ∧ Same w w' := by
  obtain ⟨a, c, rfl⟩ := hr.slice
  obtain ⟨n, hnn⟩ : ∃ n, n = vs.length := ⟨_, rfl⟩
  have HN := hid hnn
  rw [← hnn] at hr hn ⊢
  have HR := hid hr
  clear hr hnn
  have X0 := hid ((Star.new w).alloc #[.int .i64 0, .int .i64 0, .int .i64 0] 37)
  obtain ⟨F, hF⟩ : ∃ F, F = findK vs k := ⟨_, rfl⟩
  rw [← hF]
  have HF := hid hF
  clear hF
  go_enter Tryd.func18, Tryd.ntmps18
  go_wp2_with fail
  generalize w.alloc _ = w1 at *
  generalize w.heap.size = q at *
  go_loopw [10] (fun iv wr => ∃ j : Nat, j ≤ n ∧ iv = .int .i64 j ∧ (∀ x ∈ vs.take j, x.k ≠ k) ∧ Star w wr [Blk q #[.int .i64 0, .int .i64 0, .int .i64 0] 37]) (fun iv _ => n - (intOf iv).toNat)
  case atStart => exact ⟨0, by omega, rfl, by simp, X0.out⟩
  case round =>
    obtain ⟨j, hj, rfl, hall, hX⟩ := hrel
    rename World => wz
    have X := hid hX
    have HA := hid hall
    have hb4 := (X.out.blk 0 rfl).1
    have q0 := cell_of hb4 0
    have q1 := cell_of hb4 1
    have q2 := cell_of hb4 2
    have qf0 := free_of hb4 0
    have qf1 := free_of hb4 1
    have qf2 := free_of hb4 2
    have ql := lt_of hb4
    simp only [List.getElem?_toArray, List.getElem?_cons_zero, List.getElem?_cons_succ] at q0 q1 q2
    clear hX X0 hall hb4
    by_cases hjn : j < n
    · obtain ⟨x, hx⟩ : ∃ x, vs[j]? = some x := ⟨_, List.getElem?_eq_getElem (by have := HN.out; omega)⟩
      obtain ⟨b, off, cap, e1, hb, hcl⟩ := HR.out.open (by omega)
      cases e1
      have g0 := X.out.same.keep (hcl (j * 3 + 0) _ ((rows_get vc vc_len vs j 0 x hx (by omega)).trans rfl))
      have g1 := X.out.same.keep (hcl (j * 3 + 1) _ ((rows_get vc vc_len vs j 1 x hx (by omega)).trans rfl))
      have g2 := X.out.same.keep (hcl (j * 3 + 2) _ ((rows_get vc vc_len vs j 2 x hx (by omega)).trans rfl))
      rw [Nat.add_zero] at g0
      rw [← Nat.add_assoc] at g1 g2
      have gl : b < wz.heap.size := Nat.lt_of_lt_of_le hb X.out.same.size
      have HX := hid hx
      obtain ⟨vk, va, vb⟩ := x
      dsimp only at g0 g1 g2
      clear hcl hx hb
      by_cases e : vk = k
      · subst e
        have hfind : F = some ⟨vk, va, vb⟩ := by
          rw [HF.out]
          unfold findK
          rw [List.find?_eq_some_iff_getElem]
          obtain ⟨h1, h2⟩ := List.getElem?_eq_some_iff.1 HX.out
          refine ⟨by simp, j, h1, h2, fun i hi => ?_⟩
          have := HA.out vs[i] (List.mem_take_iff_getElem.2 ⟨i, by omega, rfl⟩)
          simpa using this
        subst hfind
        have X8 := hid (((((X.out.put 0 rfl 0 (.int .i64 vk)).put 0 rfl 1 (.int .i64 va)).put 0 rfl 2 (.int .i64 vb)).alloc #[.int .i64 vk, .int .i64 va, .int .i64 vb] 37).drop)
        clear X
        go_wp2
        refine bodyPost_ret (v := .tuple #[.agg #[.int .i64 vk, .int .i64 va, .int .i64 vb], .bool true]) (results_cell_tmp Tryd.results18 _ _ q _ _ _ _ rfl (X8.out.blk 0 rfl).1 Tryd.underlying37 rfl (vlS _ _ _) _ rfl) rfl ⟨rfl, X8.out.same⟩
      · have hne : (vk == k) = false := by simpa using e
        have E := hid e
        have X1 := hid (X.out.alloc #[.int .i64 vk, .int .i64 va, .int .i64 vb] 37).drop
        clear e
        go_wp2_with fail
        go_roundw
        case rel => exact ⟨j + 1, by omega, by go_num, fun y hy => by
          obtain ⟨h1, h2⟩ := List.getElem?_eq_some_iff.1 HX.out
          rw [List.take_succ_eq_append_getElem h1, h2, List.mem_append, List.mem_singleton] at hy
          rcases hy with hy | rfl
          · exact HA.out y hy
          · exact E.out, X1.out⟩
        case measure => simp [intOf]; omega
    · have hfind : F = none := by
        rw [HF.out]
        unfold findK
        rw [List.find?_eq_none]
        intro x hx
        have := HA.out x (by rw [List.take_of_length_le (by have := HN.out; omega)]; exact hx)
        simpa using this
      subst hfind
      have X8 := hid (((X.out.put 0 rfl 0 (.int .i64 0)).put 0 rfl 1 (.int .i64 0)).put 0 rfl 2 (.int .i64 0))
      clear X
      go_wp2
      refine bodyPost_ret (v := .tuple #[.agg #[.int .i64 0, .int .i64 0, .int .i64 0], .bool false]) (results_cell_tmp Tryd.results18 _ _ q _ _ _ _ rfl (X8.out.blk 0 rfl).1 Tryd.underlying37 rfl (vlS _ _ _) _ rfl) rfl ⟨rfl, X8.out.same⟩
end
end Go.Proofs.YtegcnkcjmebheaaDoor.Tab
