/-
  Package heap: ahead and swap, each by its contract.
-/
import Derived.Test.YtilobedihjkpjaaDoorHeap
namespace Go.Proofs.YtilobedihjkpjaaDoor.Hp
open Go Go.RowKit

theorem ahead_any (a b : Int × Int) (w : World) :
    Calls Tryd.prog 134 #[.agg #[.int .i64 a.1, .int .i64 a.2], .agg #[.int .i64 b.1, .int .i64 b.2]] w fun r w' => r = .returned (.bool (ah a b)) ∧
      w' = (w.alloc (.cells #[.int .i64 a.1, .int .i64 a.2] 172)).alloc (.cells #[.int .i64 b.1, .int .i64 b.2] 172) := by
  obtain ⟨x, y⟩ := a
  obtain ⟨z, u⟩ := b
  rcases Int.lt_trichotomy x z with h | h | h
  · have e : ah (x, y) (z, u) = true := by simp [ah, h]
    rw [e]
    clear e
    go_enter Tryd.func134, Tryd.ntmps134
    go_wp2
    go_ret
    exact ⟨rfl, rfl⟩
  · subst h
    by_cases h : y < u
    · have e : ah (x, y) (x, u) = true := by simp [ah, h]
      rw [e]
      clear e
      go_enter Tryd.func134, Tryd.ntmps134
      go_wp2
      go_ret
      exact ⟨rfl, rfl⟩
    · have e : ah (x, y) (x, u) = false := by simp [ah, h]
      rw [e]
      clear e
      go_enter Tryd.func134, Tryd.ntmps134
      go_wp2
      go_ret
      exact ⟨rfl, rfl⟩
  · have e : ah (x, y) (z, u) = false := by simp only [ah]; simp; omega
    have h' : ¬ x < z := by omega
    have h2 : (x == z) = false := by simp; omega
    rw [e]
    clear e
    go_enter Tryd.func134, Tryd.ntmps134
    go_wp2
    go_ret
    exact ⟨rfl, rfl⟩
set_option maxRecDepth 100000 in
theorem swap_no (p : Nat) (v : Value) (es : List (Int × Int)) (i j : Nat) (a b : Int × Int) (w : World) (h : Hp w p v es) (hi : es[i]? = some a) (hj : es[j]? = some b) (hn : ah b a = false) :
    Calls Tryd.prog 133 #[.pointer (some ⟨p, 0, none⟩), .int .i64 i, .int .i64 j] w fun r w' => r = .returned (.bool false) ∧ Same w w' := by
  have hil := (List.getElem?_eq_some_iff.1 hi).1
  have hjl := (List.getElem?_eq_some_iff.1 hj).1
  have hx := h.max
  obtain ⟨g, c, rfl⟩ := own_shape h.own (by omega)
  have h0 := h.c0
  obtain ⟨e1, e2, _, _⟩ := h.entry i a hi
  obtain ⟨e3, e4, _, _⟩ := h.entry j b hj
  have HN := hid hn
  have hpl := h.lt
  have hgl := (h.own.lt g rfl).2
  clear h hi hj hn
  go_enter Tryd.func133, Tryd.ntmps133
  go_wp2_with fail
  go_region
  all_goals
    go_wp2_with (go_at_call 134; refine (ahead_any b a _).mono ?_; rintro r w' ⟨rfl, rfl⟩; rw [HN.out])
    go_ret
    refine ⟨rfl, ?_⟩
    repeat (first | exact Chg.refl _ | refine Chg.drew ?_ | refine Chg.alloc _ ?_)

set_option maxRecDepth 100000 in
set_option maxHeartbeats 1000000 in
theorem swap_yes (p : Nat) (v : Value) (es : List (Int × Int)) (i j : Nat) (a b : Int × Int) (w : World) (h : Hp w p v es) (hi : es[i]? = some a) (hj : es[j]? = some b) (hn : ah b a = true) (hij : i ≠ j) :
    Calls Tryd.prog 133 #[.pointer (some ⟨p, 0, none⟩), .int .i64 i, .int .i64 j] w fun r w' => r = .returned (.bool true) ∧ Hp w' p v ((es.set i b).set j a) ∧ Chg (HpS p v) w w' := by
  have hil := (List.getElem?_eq_some_iff.1 hi).1
  have hjl := (List.getElem?_eq_some_iff.1 hj).1
  have hx := h.max
  obtain ⟨g, c, rfl⟩ := own_shape h.own (by omega)
  have h0 := h.c0
  obtain ⟨e1, e2, f1, f2⟩ := h.entry i a hi
  obtain ⟨e3, e4, f3, f4⟩ := h.entry j b hj
  have HN := hid hn
  have hpl := h.lt
  have hgl := (h.own.lt g rfl).2
  have hpg : ¬ p = g := fun e => h.ne (by simp [Value.ownBlock, e])
  have hgp : ¬ g = p := fun e => hpg e.symm
  have H := hid h
  clear h hi hj hn
  go_enter Tryd.func133, Tryd.ntmps133
  go_wp2_with fail
  go_region
  all_goals
    go_wp2_with fail
    refine (ahead_any b a _).mono ?_
    rintro r w1 ⟨rfl, hw1⟩
    rw [HN.out]
  · have hs : Same w w1 := by
      rw [hw1]
      repeat (first | exact Chg.refl _ | refine Chg.drew ?_ | refine Chg.alloc _ ?_)
    have k0 := hs.keep h0
    have k1 := hs.keep e1
    have k2 := hs.keep e2
    have k3 := hs.keep e3
    have k4 := hs.keep e4
    have l1 := hs.keepF hgl f1
    have l2 := hs.keepF hgl f2
    have l3 := hs.keepF hgl f3
    have l4 := hs.keepF hgl f4
    have b1 : w1.heap[w.heap.size]? = some (.cells #[.int .i64 a.1, .int .i64 a.2] 172) := by
      rw [hw1]; exact alloc_old _ (alloc_old _ (show (World.alloc _ _).heap[w.heap.size]? = _ from alloc_old _ (alloc_new w _)))
    have b2 : w1.heap[w.heap.size + 1]? = some (.cells #[.int .i64 b.1, .int .i64 b.2] 172) := by
      rw [hw1]; exact alloc_old _ (alloc_old _ (show (World.alloc _ _).heap[w.heap.size + 1]? = _ by rw [← World.size_alloc w (.cells #[.int .i64 a.1, .int .i64 a.2] 172)]; exact alloc_new _ _))
    have x1 := cell_of b1 0
    have x2 := cell_of b1 1
    have x3 := cell_of b2 0
    have x4 := cell_of b2 1
    simp only [List.getElem?_toArray, List.getElem?_cons_zero, List.getElem?_cons_succ] at x1 x2 x3 x4
    have HS := hid hs
    clear hw1 hs b1 b2 h0 e1 e2 e3 e4 f1 f2 f3 f4
    go_wp2_with fail
    go_region
    go_wp2
    go_ret
    have H1 := H.out.chg HS.out (fun _ _ f => f)
    have H2 := (H1.set i b).set j a
    exact ⟨rfl, H2.chg (S := fun _ => False) ((Chg.refl _).drew) (fun _ _ f => f), Chg.after HS.out (by refine Chg.drew (Chg.setCell _ _ (Chg.setCell _ _ (Chg.setCell _ _ (Chg.setCell _ _ (Chg.refl _) ?_) ?_) ?_) ?_) <;> exact fun _ => .inr rfl)⟩
  · have hs : Same w w1 := by
      rw [hw1]
      repeat (first | exact Chg.refl _ | refine Chg.drew ?_ | refine Chg.alloc _ ?_)
    have k0 := hs.keep h0
    have k1 := hs.keep e1
    have k2 := hs.keep e2
    have k3 := hs.keep e3
    have k4 := hs.keep e4
    have l1 := hs.keepF hgl f1
    have l2 := hs.keepF hgl f2
    have l3 := hs.keepF hgl f3
    have l4 := hs.keepF hgl f4
    have b1 : w1.heap[w.heap.size]? = some (.cells #[.int .i64 b.1, .int .i64 b.2] 172) := by
      rw [hw1]; exact alloc_old _ (alloc_old _ (show (World.alloc _ _).heap[w.heap.size]? = _ from alloc_old _ (alloc_new w _)))
    have b2 : w1.heap[w.heap.size + 1]? = some (.cells #[.int .i64 a.1, .int .i64 a.2] 172) := by
      rw [hw1]; exact alloc_old _ (alloc_old _ (show (World.alloc _ _).heap[w.heap.size + 1]? = _ by rw [← World.size_alloc w (.cells #[.int .i64 b.1, .int .i64 b.2] 172)]; exact alloc_new _ _))
    have x1 := cell_of b1 0
    have x2 := cell_of b1 1
    have x3 := cell_of b2 0
    have x4 := cell_of b2 1
    simp only [List.getElem?_toArray, List.getElem?_cons_zero, List.getElem?_cons_succ] at x1 x2 x3 x4
    have HS := hid hs
    clear hw1 hs b1 b2 h0 e1 e2 e3 e4 f1 f2 f3 f4
    go_wp2_with fail
    go_region
    go_wp2
    go_ret
    have H1 := H.out.chg HS.out (fun _ _ f => f)
    have H2 := (H1.set i b).set j a
    exact ⟨rfl, H2.chg (S := fun _ => False) ((Chg.refl _).drew) (fun _ _ f => f), Chg.after HS.out (by refine Chg.drew (Chg.setCell _ _ (Chg.setCell _ _ (Chg.setCell _ _ (Chg.setCell _ _ (Chg.refl _) ?_) ?_) ?_) ?_) <;> exact fun _ => .inr rfl)⟩
end Go.Proofs.YtilobedihjkpjaaDoor.Hp
