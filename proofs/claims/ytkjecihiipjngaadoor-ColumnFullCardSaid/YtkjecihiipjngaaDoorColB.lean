/-
  The methods of column.Column[byte], each by its contract.
-/
import Derived.Test.YtkjecihiipjngaaDoorCol
namespace Go.Proofs.YtkjecihiipjngaaDoor.ColB
open Go Go.RowKit

theorem info : (Tryd.prog.info? 5).map (fun i => (i.zero, i.size, i.bytes)) = some (some (.int .u8 0), 1, 1) := by kernel_rfl
theorem zeroE : ∀ w, (zeroValue 5).run Tryd.prog w = .ok (.int .u8 0) w := by intro w; kernel_rfl

theorem new_any (m : Int) (w : World) :
    Calls Tryd.prog 19 #[.int .i64 m] w fun r w' => r = .returned (.pointer (some ⟨w.heap.size, 0, none⟩)) ∧ Col 88 5 w' w.heap.size (.slice none 0 0) [] (max m 0) ∧ Same w w' ∧ w'.heap.size = w.heap.size + 1 := by
  go_enter Tryd.func19, Tryd.ntmps19
  go_wp2
  · go_ret
    refine ⟨rfl, ⟨?_, World.ownsRow_nil _ _ _ _, by simp [Value.ownBlock]⟩, (Chg.refl _).alloc _, by simp⟩
    rw [show max m 0 = 0 by omega]; exact alloc_new _ _
  · go_ret
    refine ⟨rfl, ⟨?_, World.ownsRow_nil _ _ _ _, by simp [Value.ownBlock]⟩, (Chg.refl _).alloc _, by simp⟩
    rw [show max m 0 = m by omega]; exact alloc_new _ _

set_option maxRecDepth 100000 in
theorem push_full (p : Nat) (v : Value) (xs : List Value) (m : Int) (ad : Option Addr) (n c : Nat) (w : World) (h : Col 88 5 w p v xs m) (hm : 0 ≤ m ∧ m ≤ 9223372036854775807) (hn : n ≤ 9223372036854775807) (hf : m - xs.length < n) (e : Value) (he : w.cell? ⟨0, 0, none⟩ = some e) :
    Calls Tryd.prog 20 #[.pointer (some ⟨p, 0, none⟩), .slice ad n c] w fun r w' => r = .returned e ∧ Same w w' := by
  obtain ⟨a, cp, rfl⟩ := h.shape
  have h0 := h.c0
  have h1 := h.c1
  have hx := h.max
  clear h
  go_enter Tryd.func20, Tryd.ntmps20
  go_wp2
  go_quiet (fail)
  go_wp2
  go_ret
  exact ⟨rfl, (Chg.refl _).drewN _⟩

set_option maxRecDepth 100000 in
theorem push_ok (p : Nat) (v : Value) (xs ys : List Value) (m : Int) (ad : Option Addr) (n c : Nat) (w : World) (h : Col 88 5 w p v xs m) (hm : 0 ≤ m ∧ m ≤ 9223372036854775807)
    (hr : Reads w (.slice ad n c) n 1 ys) (h1y : ∀ u ∈ ys, u.oneCell' = true) (hf : n ≤ m - xs.length) (hb : (xs.length + n) * 1 ≤ 140737488355328) :
    Calls Tryd.prog 20 #[.pointer (some ⟨p, 0, none⟩), .slice ad n c] w fun r w' => r = .returned .nilIface ∧ ∃ v', Col 88 5 w' p v' (xs ++ ys) m ∧ Chg (ColS p v) w w' ∧ NewOr w v v' := by
  obtain ⟨i0, hi, hz0, hz1, hz2⟩ := info_parts info
  obtain ⟨a, cp, rfl⟩ := h.shape
  have h0 := h.c0
  have h1 := h.c1
  have hf0 := h.f 0
  have hx := h.max
  have hl : ys.length = n := by obtain ⟨_, _, _, hl, _⟩ := hr; omega
  have hlt := h.lt
  have H := hid h
  have HR := hid hr
  have HL := hid hl
  clear h hr hl
  go_enter Tryd.func20, Tryd.ntmps20
  go_wp2
  go_quiet (fail)
  go_wp2_with (at_builtin; refine wpList_app rfl _ _ 40 rfl 5 i0 (.int .u8 0) 1 1 Tryd.underlying40 hi hz0 hz1 hz2 rfl (by decide) _ _ _ rfl H.out.own ad n c ys rfl HR.out h1y (by omega) hb ?_)
  intro a' c' w1 hown hg hv
  have hch : Chg (fun k => some k = (Value.slice a xs.length cp).ownBlock) w w1 := ((Chg.refl w).drewN nq).grown hg (fun k e _ => e.symm)
  have hb := hch.heap H.out.blk (fun e => H.out.ne e.symm)
  have g0 := cell_of hb 0
  have gf := free_of hb 0
  have hst := hid (H.out.store (xs' := xs ++ ys) hch (by rw [List.length_append, HL.out]; exact hown) hv)
  have HV := hid hv
  clear hv hb hown hg hch
  go_wp2
  go_ret
  exact ⟨rfl, _, hst.out.1, hst.out.2, HV.out⟩

theorem len_any (p : Nat) (v : Value) (xs : List Value) (m : Int) (w : World) (h : Col 88 5 w p v xs m) :
    Calls Tryd.prog 21 #[.pointer (some ⟨p, 0, none⟩)] w fun r w' => r = .returned (.int .i64 xs.length) ∧ w = w' := by
  obtain ⟨a, cp, rfl⟩ := h.shape
  have h0 := h.c0
  clear h
  go_enter Tryd.func21, Tryd.ntmps21
  go_wp2
  go_ret
  exact ⟨rfl, rfl⟩
end Go.Proofs.YtkjecihiipjngaaDoor.ColB
