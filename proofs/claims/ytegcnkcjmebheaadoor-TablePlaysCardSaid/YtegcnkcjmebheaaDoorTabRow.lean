/-
  Package table: Mask, Handles, Handle, Entity.
-/
import Derived.Test.YtegcnkcjmebheaaDoorTabNew
namespace Go.Proofs.YtegcnkcjmebheaaDoor.Tab
open Go Go.RowKit Go.Maps Go.Proofs.YtegcnkcjmebheaaDoor.Mask
theorem hdSize (a b : Int) : (Tryd.prog.info? 35).map (·.size) = some (#[Value.int .i64 a, Value.int .i64 b] : Array Value).size := by kernel_rfl
theorem enSize (a b : Int) (v : Value) : (Tryd.prog.info? 46).map (·.size) = some (#[Value.int .i64 a, Value.int .i64 b, v] : Array Value).size := by kernel_rfl
section
variable {w0 w : World} {L : List Res} {t : Pl} {m : Nat} {kv : Value} {ks : List Nat} {H : List Hd} {X : Nat → List Vl}
set_option maxRecDepth 100000 in
theorem mask_any (Y : Star w0 w (tabL t m kv H X L)) : Calls Tryd.prog 21 #[.pointer (some ⟨t.p, 0, none⟩)] w fun r w' => r = .returned (mk m) ∧ w = w' := by
  have hbk := (Y.blk 0 rfl).1
  have b1 := cell_of hbk 1
  have bl := lt_of hbk
  simp only [List.getElem?_toArray, List.getElem?_cons_zero, List.getElem?_cons_succ] at b1
  clear hbk Y
  go_enter Tryd.func21, Tryd.ntmps21
  go_wp2
  go_ret
  exact ⟨rfl, rfl⟩
set_option maxRecDepth 100000 in
theorem handles_any (Y : Star w0 w (tabL t m kv H X L)) (hH : H.length ≤ 1000000) : Calls Tryd.prog 29 #[.pointer (some ⟨t.p, 0, none⟩)] w fun r w' => ∃ v, r = .returned v ∧ Star w0 w' (Row 35 2 v H.length (H.flatMap hc) :: tabL t m kv H X L) := by
  have hbk := (Y.blk 0 rfl).1
  have b0 := cell_of hbk 0
  have bl := lt_of hbk
  simp only [List.getElem?_toArray, List.getElem?_cons_zero] at b0
  have HY := hid Y
  have CHX := hid (Y.pull 1 rfl)
  have HH := hid hH
  clear hbk Y hH
  go_enter Tryd.func29, Tryd.ntmps29
  go_wp2_with fail
  refine (CH.all_any CHX.out HH.out).mono ?_
  rintro r w1 ⟨v, rfl, hf, hs⟩
  have Y1 := hid (HY.out.fresh hf hs)
  clear hf hs
  go_wp2
  go_ret
  exact ⟨v, rfl, Y1.out⟩
set_option maxRecDepth 100000 in
set_option maxHeartbeats 4000000 in
theorem handle_in (Y : Star w0 w (tabL t m kv H X L)) (i : Nat) (x : Hd) (hi : H[i]? = some x) (hH : H.length ≤ 1000000) :
    Calls Tryd.prog 30 #[.pointer (some ⟨t.p, 0, none⟩), .int .i64 i] w fun r w' => r = .returned (.tuple #[hV x, .nilIface]) ∧ Star w0 w' (tabL t m kv H X L) := by
  obtain ⟨x1, x2⟩ := x
  have Y0 := hid (Y.alloc #[.int .i64 0, .int .i64 0] 35)
  have hbk := (Y0.out.blk 1 rfl).1
  have b0 := cell_of hbk 0
  have bl := lt_of hbk
  simp only [List.getElem?_toArray, List.getElem?_cons_zero] at b0
  have CHX := hid (Y0.out.pull 2 rfl)
  have hbk1 := (Y.blk 0 rfl).1
  have d0 := cell_of hbk1 0
  have dl := lt_of hbk1
  simp only [List.getElem?_toArray, List.getElem?_cons_zero] at d0
  have HH := hid hH
  have HI := hid hi
  clear hbk hbk1 Y hH hi
  go_enter Tryd.func30, Tryd.ntmps30
  go_wp2_with fail
  refine (CH.get_in CHX.out i (x1, x2) HI.out HH.out).mono ?_
  rintro r w1 ⟨rfl, hs⟩
  have Y1 := hid (Y0.out.go hs)
  have hbq := (Y1.out.blk 0 rfl).1
  have q0 := cell_of hbq 0
  have q1 := cell_of hbq 1
  have qf0 := free_of hbq 0
  have qf1 := free_of hbq 1
  have ql := lt_of hbq
  simp only [List.getElem?_toArray, List.getElem?_cons_zero, List.getElem?_cons_succ] at q0 q1
  generalize w.heap.size = q at *
  have Y8 := hid ((Y1.out.put 0 rfl 0 (.int .i64 x1)).put 0 rfl 1 (.int .i64 x2))
  clear hs hbq b0 bl d0 dl CHX
  go_wp2
  refine bodyPost_ret (v := .tuple #[.agg #[.int .i64 x1, .int .i64 x2], .nilIface]) (results_cell_tmp Tryd.results30 _ _ q _ _ _ _ rfl (Y8.out.blk 0 rfl).1 Tryd.underlying35 rfl (hdSize _ _) _ rfl) rfl ⟨rfl, Y8.out.drop⟩
set_option maxRecDepth 100000 in
set_option maxHeartbeats 4000000 in
theorem handle_out (Y : Star w0 w (tabL t m kv H X L)) (i : Int) (hi : i < 0 ∨ (H.length : Int) ≤ i) (hH : H.length ≤ 1000000) (e : Value) (he : w0.cell? ⟨2, 0, none⟩ = some e) :
    Calls Tryd.prog 30 #[.pointer (some ⟨t.p, 0, none⟩), .int .i64 i] w fun r w' => r = .returned (.tuple #[hV (0, 0), e]) ∧ Star w0 w' (tabL t m kv H X L) := by
  have Y0 := hid (Y.alloc #[.int .i64 0, .int .i64 0] 35)
  have CHX := hid (Y0.out.pull 2 rfl)
  have hbk1 := (Y.blk 0 rfl).1
  have d0 := cell_of hbk1 0
  have dl := lt_of hbk1
  simp only [List.getElem?_toArray, List.getElem?_cons_zero] at d0
  have HH := hid hH
  have HI := hid hi
  have HE := hid he
  clear hbk1 Y hH hi he
  go_enter Tryd.func30, Tryd.ntmps30
  go_wp2_with fail
  refine (CH.get_out CHX.out i HI.out HH.out _ HE.out).mono ?_
  rintro r w1 ⟨rfl, hs⟩
  have Y1 := hid (Y0.out.go hs)
  have hbq := (Y1.out.blk 0 rfl).1
  have q0 := cell_of hbq 0
  have q1 := cell_of hbq 1
  have qf0 := free_of hbq 0
  have qf1 := free_of hbq 1
  have ql := lt_of hbq
  simp only [List.getElem?_toArray, List.getElem?_cons_zero, List.getElem?_cons_succ] at q0 q1
  generalize w.heap.size = q at *
  have Y8 := hid ((Y1.out.put 0 rfl 0 (.int .i64 0)).put 0 rfl 1 (.int .i64 0))
  clear hs hbq d0 dl CHX
  go_wp2
  refine bodyPost_ret (v := .tuple #[.agg #[.int .i64 0, .int .i64 0], e]) (results_cell_tmp Tryd.results30 _ _ q _ _ _ _ rfl (Y8.out.blk 0 rfl).1 Tryd.underlying35 rfl (hdSize _ _) _ rfl) rfl ⟨rfl, Y8.out.drop⟩
end
end Go.Proofs.YtegcnkcjmebheaaDoor.Tab
