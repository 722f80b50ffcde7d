/-
  paddockref07: Add.
-/
import Derived.Test.YtegcnkcjmebheaaDoorRef07
import Derived.Deep.RegionHeld3
namespace Go.Proofs.YtegcnkcjmebheaaDoor.Tab
open Go Go.RowKit Go.Maps Go.Proofs.YtegcnkcjmebheaaDoor.Mask Go.Proofs.YtegcnkcjmebheaaDoor.TableSets
section
variable {w0 w : World} {L : List Res} {G : List En} {p m : Nat} {sl : Value} {es : List En}
/-- What its first look tells. -/
theorem rlook (w : World) (v : Value) (vs : List Vl) (hr : Reads w v vs.length 3 (vs.flatMap vc)) (hn : vs.length ≤ 10000) :
    (∃ B : Bool, (B = true ↔ RefRight vs) ∧ ∀ n : SameW w, Calls Tryd.prog 14 #[v] n.w fun r w' => r = .returned (.bool B) ∧ Same n.w w') ∧ (RefRight vs → ∀ n : SameW w, Calls Tryd.prog 45 #[v] n.w fun r w' => r = .returned (mk (rowMask vs)) ∧ Same n.w w') := by
  refine ⟨?_, fun h n => ref_mask v vs (kinds_ok h) (hr.same n.same) (by omega)⟩
  by_cases h : RefRight vs
  · refine ⟨true, by simp [h], fun n => (ref_right v vs (hr.same n.same) hn).mono ?_⟩
    rintro r w' ⟨B, rfl, hB, hs⟩
    cases B with
    | true => exact ⟨rfl, hs⟩
    | false => exact absurd (hB.2 h) (by simp)
  · refine ⟨false, by simp [h], fun n => (ref_right v vs (hr.same n.same) hn).mono ?_⟩
    rintro r w' ⟨B, rfl, hB, hs⟩
    cases B with
    | false => exact ⟨rfl, hs⟩
    | true => exact absurd (hB.1 rfl) h
set_option maxRecDepth 100000 in
set_option maxHeartbeats 8000000 in
theorem radd_form (X : Star w0 w (rfB p m sl :: rfE sl es :: L)) (h : Hd) (v : Value) (vs : List Vl) (hr : Reads w v vs.length 3 (vs.flatMap vc)) (hn : vs.length ≤ 10000) (hno : ¬ RTakes m vs) :
    Calls Tryd.prog 22 #[.pointer (some ⟨p, 0, none⟩), hV h, v] w fun r w' => r = .returned (.tuple #[.int .i64 0, .int .i64 7]) ∧ Star w0 w' (rfB p m sl :: rfE sl es :: L) := by
  obtain ⟨h1, h2⟩ := h
  have Y0 := hid ((X.alloc #[.int .i64 h1, .int .i64 h2] 35))
  have hbk := (Y0.out.blk 1 rfl).1
  have c0 := SameW.cell (show (w.alloc (.cells #[.int .i64 h1, .int .i64 h2] 35)).cell? ⟨p, 0, none⟩ = some (mk m) from cell_of hbk 0)
  have cl := lt_of hbk
  obtain ⟨⟨B, hB, hR⟩, hM⟩ := rlook _ v vs (hr.same ((Chg.refl w).alloc (.cells #[.int .i64 h1, .int .i64 h2] 35))) hn
  have HR := hid hR
  have HM := hid hM
  have HB := hid hB
  have HNO := hid hno
  clear X hr hbk hno hn hR hM hB
  go_enter Tryd.func22, Tryd.ntmps22
  go_upto_region 1 with (fail)
  generalize w.alloc _ = w1 at *
  generalize w.heap.size = q at *
  cases B with
  | true =>
    have hrt := HB.out.1 rfl
    have MT := hid (HM.out hrt)
    have hne : (((rowMask vs : Nat) : Int) != (m : Int)) = true := by
      have : rowMask vs ≠ m := fun e => HNO.out ⟨hrt, e⟩
      simp; omega
    clear hrt
    refine wp_region_same (by kernel_rfl) (by kernel_rfl) ?_
    repeat (go_big_quiet_step (first | (go_at_call 14; with_reducible exact Calls.same_of (HR.out _)) | (go_at_call 45; with_reducible exact Calls.same_of (MT.out _))))
    with_reducible refine wpQuiet_nil ?_
    rintro w8 ⟨n8, rfl⟩
    go_wp2
    go_ret2
    exact ⟨rfl, (Y0.out.go n8.same).drop⟩
  | false =>
    refine wp_region_same (by kernel_rfl) (by kernel_rfl) ?_
    repeat (go_big_quiet_step (first | (go_at_call 14; with_reducible exact Calls.same_of (HR.out _))))
    with_reducible refine wpQuiet_nil ?_
    rintro w8 ⟨n8, rfl⟩
    go_wp2
    go_ret2
    exact ⟨rfl, (Y0.out.go n8.same).drop⟩
set_option maxRecDepth 100000 in
set_option maxHeartbeats 8000000 in
theorem radd_full (X : Star w0 w (rfB p m sl :: rfE sl es :: L)) (h : Hd) (v : Value) (vs : List Vl) (hr : Reads w v vs.length 3 (vs.flatMap vc)) (hn : vs.length ≤ 10000) (ht : RTakes m vs) (hl : 128 ≤ es.length) :
    Calls Tryd.prog 22 #[.pointer (some ⟨p, 0, none⟩), hV h, v] w fun r w' => r = .returned (.tuple #[.int .i64 0, .int .i64 2]) ∧ Star w0 w' (rfB p m sl :: rfE sl es :: L) := by
  obtain ⟨h1, h2⟩ := h
  have Y0 := hid ((X.alloc #[.int .i64 h1, .int .i64 h2] 35))
  have hbk := (Y0.out.blk 1 rfl).1
  have c0 := SameW.cell (show (w.alloc (.cells #[.int .i64 h1, .int .i64 h2] 35)).cell? ⟨p, 0, none⟩ = some (mk m) from cell_of hbk 0)
  have cl := lt_of hbk
  obtain ⟨⟨B, hB, hR⟩, hM⟩ := rlook _ v vs (hr.same ((Chg.refl w).alloc (.cells #[.int .i64 h1, .int .i64 h2] 35))) hn
  obtain rfl : B = true := hB.2 ht.1
  have hM2 := hM ht.1
  rw [ht.2] at hM2
  have HR := hid hR
  have MT := hid hM2
  obtain ⟨n, hnn⟩ : ∃ n, n = es.length := ⟨_, rfl⟩
  have HN := hid hnn
  rw [← hnn] at hl
  clear X hr hbk hn hR hM hM2 hB ht hnn
  go_enter Tryd.func22, Tryd.ntmps22
  go_upto_region 1 with (fail)
  generalize w.alloc _ = w1 at *
  generalize w.heap.size = q at *
  refine wp_region_same (by kernel_rfl) (by kernel_rfl) ?_
  repeat (go_big_quiet_step (first | (go_at_call 14; with_reducible exact Calls.same_of (HR.out _)) | (go_at_call 45; with_reducible exact Calls.same_of (MT.out _))))
  with_reducible refine wpQuiet_nil ?_
  rintro w8 ⟨n8, rfl⟩
  have Y8 := hid (Y0.out.go n8.same)
  clear Y0 c0 cl HR MT
  generalize n8.w = w8 at *
  have hrow := (Y8.out.row 2 rfl).1
  rw [← HN.out] at hrow
  obtain ⟨a, c, e1, -⟩ := own_slice hrow
  subst e1
  have hbk := (Y8.out.blk 1 rfl).1
  have b1 := cell_of hbk 1
  have bl := lt_of hbk
  simp only [List.getElem?_toArray, List.getElem?_cons_zero, List.getElem?_cons_succ] at b1
  clear hbk hrow
  go_wp2
  go_ret2
  exact ⟨rfl, Y8.out.drop⟩
set_option maxRecDepth 100000 in
set_option maxHeartbeats 8000000 in
theorem radd_ok (X : Star w0 w (rfB p m sl :: rfE sl es :: poolR G :: L)) (h : Hd) (v : Value) (vs : List Vl) (hr : Reads w0 v vs.length 3 (vs.flatMap vc)) (hn : vs.length ≤ 10000) (ht : RTakes m vs) (hl : es.length < 128) :
    Calls Tryd.prog 22 #[.pointer (some ⟨p, 0, none⟩), hV h, v] w fun r w' => ∃ (sl' : Value) (a : Option Addr) (c : Nat), r = .returned (.tuple #[.int .i64 es.length, .int .i64 0]) ∧ Star w0 w' (rfB p m sl' :: rfE sl' (es ++ [⟨h, a, c, vs⟩]) :: poolR (⟨h, a, c, vs⟩ :: G) :: L) := by
  obtain ⟨i0, hi0, hz0, hz1, hz2⟩ := info_parts (show (Tryd.prog.info? 37).map (fun i => (i.zero, i.size, i.bytes)) = some (some (.agg #[.int .i64 0, .int .i64 0, .int .i64 0]), 3, 24) by kernel_rfl)
  obtain ⟨i1, hj0, hj1, hj2, hj3⟩ := info_parts (show (Tryd.prog.info? 46).map (fun i => (i.zero, i.size, i.bytes)) = some (some (.agg #[.int .i64 0, .int .i64 0, .slice none 0 0]), 3, 40) by kernel_rfl)
  obtain ⟨h1, h2⟩ := h
  obtain ⟨av, cv, rfl⟩ := hr.slice
  have Y0 := hid ((X.alloc #[.int .i64 h1, .int .i64 h2] 35))
  have hbk := (Y0.out.blk 1 rfl).1
  have c0 := SameW.cell (show (w.alloc (.cells #[.int .i64 h1, .int .i64 h2] 35)).cell? ⟨p, 0, none⟩ = some (mk m) from cell_of hbk 0)
  have cl := lt_of hbk
  obtain ⟨⟨B, hB, hR⟩, hM⟩ := rlook _ _ vs ((X.reads hr).same ((Chg.refl w).alloc (.cells #[.int .i64 h1, .int .i64 h2] 35))) hn
  obtain rfl : B = true := hB.2 ht.1
  have hM2 := hM ht.1
  rw [ht.2] at hM2
  have HR := hid hR
  have MT := hid hM2
  obtain ⟨n, hnn⟩ : ∃ n, n = es.length := ⟨_, rfl⟩
  have HN := hid hnn
  obtain ⟨vl, hvl⟩ : ∃ vl, vl = vs.length := ⟨_, rfl⟩
  have HVL := hid hvl
  have HRD := hid hr
  rw [← hvl] at HR MT HRD hn ⊢
  rw [← hnn] at hl ⊢
  clear X hr hbk hR hM hM2 hB ht hnn hvl
  go_enter Tryd.func22, Tryd.ntmps22
  go_upto_region 1 with (fail)
  generalize w.alloc _ = w1 at *
  generalize w.heap.size = q at *
  refine wp_region_same (by kernel_rfl) (by kernel_rfl) ?_
  repeat (go_big_quiet_step (first | (go_at_call 14; with_reducible exact Calls.same_of (HR.out _)) | (go_at_call 45; with_reducible exact Calls.same_of (MT.out _))))
  with_reducible refine wpQuiet_nil ?_
  rintro w8 ⟨n8, rfl⟩
  have Y8 : Hid (Star w0 n8.w (Blk q #[.int .i64 h1, .int .i64 h2] 35 :: rfB p m sl :: Row 46 3 sl n (es.flatMap ec) :: poolR G :: L)) := hid (by rw [HN.out]; exact Y0.out.go n8.same)
  clear Y0 c0 cl HR MT
  generalize n8.w = w8 at *
  obtain ⟨a, c, rfl, -⟩ := own_slice (Y8.out.row 2 rfl).1
  have hbk := (Y8.out.blk 1 rfl).1
  have b1 := cell_of hbk 1
  have bl := lt_of hbk
  have hbq := (Y8.out.blk 0 rfl).1
  have q0 := cell_of hbq 0
  have q1 := cell_of hbq 1
  have ql := lt_of hbq
  simp only [List.getElem?_toArray, List.getElem?_cons_zero, List.getElem?_cons_succ] at b1 q0 q1
  clear hbk hbq
  go_upto_region 5 with (fail)
  have Y9 : Hid (Star w0 ((w8.alloc (.cells #[] 37)).drew) (Row 37 3 (.slice (some ⟨w8.heap.size, 0, none⟩) 0 0) 0 [] :: Blk q #[.int .i64 h1, .int .i64 h2] 35 :: rfB p m (.slice a n c) :: Row 46 3 (.slice a n c) n (es.flatMap ec) :: poolR G :: L)) := hid ((Y8.out.add (w' := w8.alloc (.cells #[] 37)) ((Chg.refl _).alloc _) (R := Row 37 3 (.slice (some ⟨w8.heap.size, 0, none⟩) 0 0) 0 []) ⟨World.ownsRow_lit w8 #[] 0 (Nat.zero_le _) (by unfold maxLen; omega) rfl, rfl⟩ (fun k h => by simp [Value.ownBlock] at h; omega)).go ((Chg.refl _).drew))
  go_cut [37] (fun s37 wx => ∃ (a2 : Option Addr) (c2 : Nat) (a' : Option Addr) (c' : Nat), s37 = .slice a2 (n + 1) c2 ∧ Star w0 wx (Row 37 3 (.slice a' vl c') vl (vs.flatMap vc) :: Blk q #[.int .i64 h1, .int .i64 h2] 35 :: rfB p m (.slice a2 (n + 1) c2) :: Row 46 3 (.slice a2 (n + 1) c2) (n + 1) (es.flatMap ec ++ [.int .i64 h1, .int .i64 h2, .slice a' vl c']) :: poolR G :: L))
  case first =>
    go_region_law (first
      | (refine step_app rfl (.tmp 32) (.tmp 33) 38 rfl 37 i0 (.agg #[.int .i64 0, .int .i64 0, .int .i64 0]) 3 24 Tryd.underlying38 hi0 hz0 hz1 hz2 rfl (by decide) (.slice (some ⟨w8.heap.size, 0, none⟩) 0 0) 0 [] rfl (Y9.out.row 0 rfl).1 av vl cv (vs.flatMap vc) rfl (Y9.out.reads HRD.out) (fun u hu => by obtain ⟨x, _, hx⟩ := List.mem_flatMap.1 hu; exact vc_one x u hx) (by omega) (by omega) ?_; rw [Nat.zero_add, List.nil_append]; intro a' c' w6 ho hg hn'; have YA := hid (Y9.out.grown 0 rfl ho hg hn'); have hbk := (YA.out.blk 2 rfl).1; have k0 := cell_of hbk 1; have kpl := lt_of hbk; have hbq := (YA.out.blk 1 rfl).1; have kql := lt_of hbq; have k1 := cell_of hbq 0; have k2 := cell_of hbq 1; simp only [List.getElem?_toArray, List.getElem?_cons_zero, List.getElem?_cons_succ] at k0 k1 k2; clear hbk hbq ho hg hn' Y9; have YB := hid (YA.out.alloc #[.int .i64 h1, .int .i64 h2, .slice a' vl c'] 46); have RB := hid (reads_blk (YB.out.blk 0 rfl).1 1 1 3 rfl))
      | (refine step_app rfl (.tmp 30) (.tmp 36) 66 rfl 46 i1 (.agg #[.int .i64 0, .int .i64 0, .slice none 0 0]) 3 40 Tryd.underlying66 hj0 hj1 hj2 hj3 rfl (by decide) (.slice a n c) n (es.flatMap ec) rfl (YB.out.row 4 rfl).1 (some _) 1 _ [.int .i64 h1, .int .i64 h2, .slice a' vl c'] rfl RB.out (fun u hu => by simp at hu; rcases hu with rfl | rfl | rfl <;> rfl) (by omega) (by omega) ?_; intro a2 c2 w7 ho hg hn'; have YC := hid (YB.out.grown 4 rfl ho hg hn').drop; clear ho hg hn' YB RB; have hbk := (YC.out.blk 2 rfl).1; have k3 := cell_of hbk 1; have k5 := free_of hbk 1; have k6 := lt_of hbk; have hbq := (YC.out.blk 1 rfl).1; have k7 := cell_of hbq 0; have k8 := cell_of hbq 1; simp only [List.getElem?_toArray, List.getElem?_cons_zero, List.getElem?_cons_succ] at k3 k7 k8; clear hbk hbq))
    all_goals
      have YD := hid (YC.out.put 2 rfl 1 (.slice a2 (n + 1) c2))
      clear YA YC Y8
      go_wp2
      go_meet
      exact ⟨a2, c2, a', c', rfl, YD.out⟩
  case rest =>
    obtain ⟨a2, c2, a', c', rfl, hX⟩ := hcut
    rename World => wz
    have Z := hid hX
    have hbk := (hX.blk 2 rfl).1
    have d1 := cell_of hbk 1
    have dl := lt_of hbk
    simp only [List.getElem?_toArray, List.getElem?_cons_zero, List.getElem?_cons_succ] at d1
    clear hX hbk Y8 Y9 b1 q0 q1 bl ql
    go_wp2
    go_ret2
    refine ⟨.slice a2 (n + 1) c2, a', c', rfl, ?_⟩
    have h := Z.out
    obtain rfl := HVL.out
    obtain rfl := HN.out
    have hh := ((h.pull 1 rfl).drop.pull 3 rfl).swap
    have h3 := pool_add (e := ⟨(h1, h2), a', c', vs⟩) hh
    have h4 := (h3.pull 2 rfl).pull 2 rfl
    have e : rfE (.slice a2 (es.length + 1) c2) (es ++ [⟨(h1, h2), a', c', vs⟩]) = Row 46 3 (.slice a2 (es.length + 1) c2) (es.length + 1) (es.flatMap ec ++ [.int .i64 h1, .int .i64 h2, .slice a' vs.length c']) := by
      unfold rfE
      rw [List.length_append, List.flatMap_append]
      rfl
    rw [e]
    exact h4
end
end Go.Proofs.YtegcnkcjmebheaaDoor.Tab
