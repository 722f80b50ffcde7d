/-
  Package heap: ahead and swap, each by its contract.
-/
import Derived.Test.YtilobedihjkpjaaDoorProg
import Derived.Test.YtilobedihjkpjaaDoorLib
namespace Go.Proofs.YtilobedihjkpjaaDoor.Hp
open Go Go.RowKit

/-- An entry's cells. -/
def fl (e : Int × Int) : List Value := [.int .i64 e.1, .int .i64 e.2]
def flat (es : List (Int × Int)) : List Value := es.flatMap fl
/-- Does an entry come ahead of another one? -/
def ah (a b : Int × Int) : Bool := decide (a.1 < b.1) || (decide (a.1 = b.1) && decide (a.2 < b.2))

theorem flat_length (es : List (Int × Int)) : (flat es).length = es.length * 2 := by
  induction es with
  | nil => rfl
  | cons e es ih => simp [flat, fl] at ih ⊢; omega
theorem flat_0 (es : List (Int × Int)) (i : Nat) (e : Int × Int) (h : es[i]? = some e) : (flat es)[i * 2]? = some (.int .i64 e.1) := by
  induction es generalizing i with
  | nil => simp at h
  | cons x es ih =>
    cases i with
    | zero => simp at h; subst h; rfl
    | succ i => simp at h; have := ih i h; simp only [flat, List.flatMap_cons, fl] at this ⊢; rw [show (i + 1) * 2 = i * 2 + 2 by omega]; simpa using this
theorem flat_1 (es : List (Int × Int)) (i : Nat) (e : Int × Int) (h : es[i]? = some e) : (flat es)[i * 2 + 1]? = some (.int .i64 e.2) := by
  induction es generalizing i with
  | nil => simp at h
  | cons x es ih =>
    cases i with
    | zero => simp at h; subst h; rfl
    | succ i => simp at h; have := ih i h; simp only [flat, List.flatMap_cons, fl] at this ⊢; rw [show (i + 1) * 2 + 1 = i * 2 + 1 + 2 by omega]; simpa using this
theorem flat_set (es : List (Int × Int)) (i : Nat) (e : Int × Int) : flat (es.set i e) = ((flat es).set (i * 2) (.int .i64 e.1)).set (i * 2 + 1) (.int .i64 e.2) := by
  induction es generalizing i with
  | nil => simp [flat]
  | cons x es ih =>
    cases i with
    | zero => rfl
    | succ i =>
      have := ih i
      simp only [flat, List.set_cons_succ, List.flatMap_cons, fl] at this ⊢
      rw [show (i + 1) * 2 = i * 2 + 2 by omega, show i * 2 + 2 + 1 = i * 2 + 1 + 2 by omega, this]
      simp
theorem flat_append (a b : List (Int × Int)) : flat (a ++ b) = flat a ++ flat b := by simp [flat]
theorem flat_take (es : List (Int × Int)) (k : Nat) : (flat es).take (k * 2) = flat (es.take k) := by
  induction es generalizing k with
  | nil => simp [flat]
  | cons x es ih =>
    cases k with
    | zero => simp [flat]
    | succ k => have := ih k; simp only [flat, List.take_succ_cons, List.flatMap_cons, fl] at this ⊢; rw [show (k + 1) * 2 = k * 2 + 2 by omega]; simpa using this
theorem flat_one (es : List (Int × Int)) : ∀ u ∈ flat es, u.oneCell' = true := by
  intro u hu
  simp only [flat, List.mem_flatMap, fl] at hu
  obtain ⟨e, _, h⟩ := hu
  simp at h
  rcases h with rfl | rfl <;> rfl

/-- A heap: its block holds the slice v; v owns the entries es. -/
structure Hp (w : World) (p : Nat) (v : Value) (es : List (Int × Int)) : Prop where
  blk : w.heap[p]? = some (.cells #[v] 169 (0, 0))
  own : w.ownsRow 0 172 2 v es.length (flat es)
  ne : v.ownBlock ≠ some p

abbrev HpS (p : Nat) (v : Value) (k : Nat) : Prop := k = p ∨ some k = v.ownBlock
theorem HpS.new {w : World} {p : Nat} {v : Value} (hp : w.heap.size ≤ p) (hv : After w v) : ∀ i, HpS p v i → w.heap.size ≤ i := by
  rintro i (rfl | h)
  · exact hp
  · exact hv i h.symm

theorem HpS.back {w : World} {p : Nat} {v v' : Value} (h : NewOr w v v') (k : Nat) (hk : k < w.heap.size) (hs : HpS p v' k) : HpS p v k := by
  rcases hs with rfl | hs
  · exact .inl rfl
  · rcases h with h | h
    · exact .inr (hs.trans h)
    · have := h k hs.symm; omega

section
variable {w : World} {p : Nat} {v : Value} {es : List (Int × Int)}
theorem Hp.c0 (h : Hp w p v es) : w.cell? ⟨p, 0, none⟩ = some v := by simp [World.cell?, h.blk]
theorem Hp.f (h : Hp w p v es) (j : Nat) : w.frozen? ⟨p, j, none⟩ = false := by simp [World.frozen?, h.blk]
theorem Hp.lt (h : Hp w p v es) : p < w.heap.size := (Array.getElem?_eq_some_iff.1 h.blk).1
theorem Hp.shape (h : Hp w p v es) : ∃ a c, v = .slice a es.length c := by obtain ⟨a, c, h, _⟩ := own_slice h.own; exact ⟨a, c, h⟩
theorem Hp.max (h : Hp w p v es) : es.length ≤ 9223372036854775807 := own_max h.own
theorem Hp.chg {S : Nat → Prop} {w' : World} (h : Hp w p v es) (hc : Chg S w w') (hn : ∀ k, HpS p v k → ¬ S k) : Hp w' p v es :=
  ⟨hc.heap h.blk (hn p (.inl rfl)), own_chg h.own hc (fun k e => hn k (.inr e.symm)), h.ne⟩
/-- Behind a change elsewhere, and a store of the new slice. -/
theorem Hp.store {w1 : World} {v' : Value} {es' : List (Int × Int)} (h : Hp w p v es) (hc : Chg (fun k => some k = v.ownBlock) w w1) (ho : w1.ownsRow 0 172 2 v' es'.length (flat es'))
    (hv : NewOr w v v') : Hp (w1.setCell ⟨p, 0, none⟩ v') p v' es' ∧ Chg (HpS p v) w (w1.setCell ⟨p, 0, none⟩ v') := by
  have hne : v'.ownBlock ≠ some p := by
    rcases hv with hv | hv
    · rw [hv]; exact h.ne
    · intro e; have := hv p e; have := h.lt; omega
  have hb := hc.heap h.blk (fun e => h.ne e.symm)
  refine ⟨⟨?_, ?_, hne⟩, (hc.mono (fun k _ h => .inr h)).setCell _ _ (fun _ => .inl rfl)⟩
  · rw [set_same hb]; simp
  · exact own_chg (S := fun k => k = p) ho ((Chg.refl _).setCell _ _ (fun _ => rfl)) (fun k e f => hne (by rw [e, f]))
/-- An entry is stored. -/
theorem Hp.set {g c n : Nat} (h : Hp w p (.slice (some ⟨g, 0, none⟩) n c) es) (i : Nat) (e : Int × Int) : Hp ((w.setCell ⟨g, i * 2, none⟩ (.int .i64 e.1)).setCell ⟨g, i * 2 + 1, none⟩ (.int .i64 e.2)) p (.slice (some ⟨g, 0, none⟩) n c) (es.set i e) := by
  obtain ⟨_, _, hv, _⟩ := own_slice h.own
  cases hv
  refine ⟨?_, ?_, h.ne⟩
  · rw [set_other, set_other]
    · exact h.blk
    · intro e; exact h.ne (by simp [Value.ownBlock, e])
    · intro e; exact h.ne (by simp [Value.ownBlock, e])
  · have := ((h.own.stored (i * 2) (.int .i64 e.1)).1.stored (i * 2 + 1) (.int .i64 e.2)).1
    rw [flat_set]
    simpa using this
/-- An entry's cells in memory. -/
theorem Hp.entry {g c n : Nat} (h : Hp w p (.slice (some ⟨g, 0, none⟩) n c) es) (i : Nat) (e : Int × Int) (hi : es[i]? = some e) : w.cell? ⟨g, i * 2, none⟩ = some (.int .i64 e.1) ∧ w.cell? ⟨g, i * 2 + 1, none⟩ = some (.int .i64 e.2) ∧ w.frozen? ⟨g, i * 2, none⟩ = false ∧ w.frozen? ⟨g, i * 2 + 1, none⟩ = false := by
  have hl := (List.getElem?_eq_some_iff.1 hi).1
  obtain ⟨_, _, hv, _⟩ := own_slice h.own
  cases hv
  exact ⟨(h.own.cellAt _ (by omega)).trans (flat_0 es i e hi), (h.own.cellAt _ (by omega)).trans (flat_1 es i e hi), h.own.frozenAt _, h.own.frozenAt _⟩
end

end Go.Proofs.YtilobedihjkpjaaDoor.Hp
namespace Go.Proofs.YtilobedihjkpjaaDoor.Hp
open Go Go.RowKit

theorem ahead_any (a b : Int × Int) (w : World) :
    Calls Tryd.prog 134 #[.agg #[.int .i64 a.1, .int .i64 a.2], .agg #[.int .i64 b.1, .int .i64 b.2]] w fun r w' => r = .returned (.bool (ah a b)) ∧
      w' = (w.alloc (.cells #[.int .i64 a.1, .int .i64 a.2] 172)).alloc (.cells #[.int .i64 b.1, .int .i64 b.2] 172) := by
  obtain ⟨x, y⟩ := a
  obtain ⟨z, u⟩ := b
  rcases Int.lt_trichotomy x z with h | h | h
  · have e : ah (x, y) (z, u) = true := by simp [ah, h]
    rw [e]
    clear e
    go_enter Tryd.func134, Tryd.ntmps134
    go_wp2
    go_ret
    exact ⟨rfl, rfl⟩
  · subst h
    by_cases h : y < u
    · have e : ah (x, y) (x, u) = true := by simp [ah, h]
      rw [e]
      clear e
      go_enter Tryd.func134, Tryd.ntmps134
      go_wp2
      go_ret
      exact ⟨rfl, rfl⟩
    · have e : ah (x, y) (x, u) = false := by simp [ah, h]
      rw [e]
      clear e
      go_enter Tryd.func134, Tryd.ntmps134
      go_wp2
      go_ret
      exact ⟨rfl, rfl⟩
  · have e : ah (x, y) (z, u) = false := by simp only [ah]; simp; omega
    have h' : ¬ x < z := by omega
    have h2 : (x == z) = false := by simp; omega
    rw [e]
    clear e
    go_enter Tryd.func134, Tryd.ntmps134
    go_wp2
    go_ret
    exact ⟨rfl, rfl⟩
set_option maxRecDepth 100000 in
theorem swap_no (p : Nat) (v : Value) (es : List (Int × Int)) (i j : Nat) (a b : Int × Int) (w : World) (h : Hp w p v es) (hi : es[i]? = some a) (hj : es[j]? = some b) (hn : ah b a = false) :
    Calls Tryd.prog 133 #[.pointer (some ⟨p, 0, none⟩), .int .i64 i, .int .i64 j] w fun r w' => r = .returned (.bool false) ∧ Same w w' := by
  have hil := (List.getElem?_eq_some_iff.1 hi).1
  have hjl := (List.getElem?_eq_some_iff.1 hj).1
  have hx := h.max
  obtain ⟨g, c, rfl⟩ := own_shape h.own (by omega)
  have h0 := h.c0
  obtain ⟨e1, e2, _, _⟩ := h.entry i a hi
  obtain ⟨e3, e4, _, _⟩ := h.entry j b hj
  have HN := hid hn
  have hpl := h.lt
  have hgl := (h.own.lt g rfl).2
  clear h hi hj hn
  go_enter Tryd.func133, Tryd.ntmps133
  go_wp2_with fail
  go_region
  all_goals
    go_wp2_with (go_at_call 134; refine (ahead_any b a _).mono ?_; rintro r w' ⟨rfl, rfl⟩; rw [HN.out])
    go_ret
    refine ⟨rfl, ?_⟩
    repeat (first | exact Chg.refl _ | refine Chg.drew ?_ | refine Chg.alloc _ ?_)

set_option maxRecDepth 100000 in
set_option maxHeartbeats 1000000 in
theorem swap_yes (p : Nat) (v : Value) (es : List (Int × Int)) (i j : Nat) (a b : Int × Int) (w : World) (h : Hp w p v es) (hi : es[i]? = some a) (hj : es[j]? = some b) (hn : ah b a = true) (hij : i ≠ j) :
    Calls Tryd.prog 133 #[.pointer (some ⟨p, 0, none⟩), .int .i64 i, .int .i64 j] w fun r w' => r = .returned (.bool true) ∧ Hp w' p v ((es.set i b).set j a) ∧ Chg (HpS p v) w w' := by
  have hil := (List.getElem?_eq_some_iff.1 hi).1
  have hjl := (List.getElem?_eq_some_iff.1 hj).1
  have hx := h.max
  obtain ⟨g, c, rfl⟩ := own_shape h.own (by omega)
  have h0 := h.c0
  obtain ⟨e1, e2, f1, f2⟩ := h.entry i a hi
  obtain ⟨e3, e4, f3, f4⟩ := h.entry j b hj
  have HN := hid hn
  have hpl := h.lt
  have hgl := (h.own.lt g rfl).2
  have hpg : ¬ p = g := fun e => h.ne (by simp [Value.ownBlock, e])
  have hgp : ¬ g = p := fun e => hpg e.symm
  have H := hid h
  clear h hi hj hn
  go_enter Tryd.func133, Tryd.ntmps133
  go_wp2_with fail
  go_region
  all_goals
    go_wp2_with fail
    refine (ahead_any b a _).mono ?_
    rintro r w1 ⟨rfl, hw1⟩
    rw [HN.out]
  · have hs : Same w w1 := by
      rw [hw1]
      repeat (first | exact Chg.refl _ | refine Chg.drew ?_ | refine Chg.alloc _ ?_)
    have k0 := hs.keep h0
    have k1 := hs.keep e1
    have k2 := hs.keep e2
    have k3 := hs.keep e3
    have k4 := hs.keep e4
    have l1 := hs.keepF hgl f1
    have l2 := hs.keepF hgl f2
    have l3 := hs.keepF hgl f3
    have l4 := hs.keepF hgl f4
    have b1 : w1.heap[w.heap.size]? = some (.cells #[.int .i64 a.1, .int .i64 a.2] 172) := by
      rw [hw1]; exact alloc_old _ (alloc_old _ (show (World.alloc _ _).heap[w.heap.size]? = _ from alloc_old _ (alloc_new w _)))
    have b2 : w1.heap[w.heap.size + 1]? = some (.cells #[.int .i64 b.1, .int .i64 b.2] 172) := by
      rw [hw1]; exact alloc_old _ (alloc_old _ (show (World.alloc _ _).heap[w.heap.size + 1]? = _ by rw [← World.size_alloc w (.cells #[.int .i64 a.1, .int .i64 a.2] 172)]; exact alloc_new _ _))
    have x1 := cell_of b1 0
    have x2 := cell_of b1 1
    have x3 := cell_of b2 0
    have x4 := cell_of b2 1
    simp only [List.getElem?_toArray, List.getElem?_cons_zero, List.getElem?_cons_succ] at x1 x2 x3 x4
    have HS := hid hs
    clear hw1 hs b1 b2 h0 e1 e2 e3 e4 f1 f2 f3 f4
    go_wp2_with fail
    go_region
    go_wp2
    go_ret
    have H1 := H.out.chg HS.out (fun _ _ f => f)
    have H2 := (H1.set i b).set j a
    exact ⟨rfl, H2.chg (S := fun _ => False) ((Chg.refl _).drew) (fun _ _ f => f), Chg.after HS.out (by refine Chg.drew (Chg.setCell _ _ (Chg.setCell _ _ (Chg.setCell _ _ (Chg.setCell _ _ (Chg.refl _) ?_) ?_) ?_) ?_) <;> exact fun _ => .inr rfl)⟩
  · have hs : Same w w1 := by
      rw [hw1]
      repeat (first | exact Chg.refl _ | refine Chg.drew ?_ | refine Chg.alloc _ ?_)
    have k0 := hs.keep h0
    have k1 := hs.keep e1
    have k2 := hs.keep e2
    have k3 := hs.keep e3
    have k4 := hs.keep e4
    have l1 := hs.keepF hgl f1
    have l2 := hs.keepF hgl f2
    have l3 := hs.keepF hgl f3
    have l4 := hs.keepF hgl f4
    have b1 : w1.heap[w.heap.size]? = some (.cells #[.int .i64 b.1, .int .i64 b.2] 172) := by
      rw [hw1]; exact alloc_old _ (alloc_old _ (show (World.alloc _ _).heap[w.heap.size]? = _ from alloc_old _ (alloc_new w _)))
    have b2 : w1.heap[w.heap.size + 1]? = some (.cells #[.int .i64 a.1, .int .i64 a.2] 172) := by
      rw [hw1]; exact alloc_old _ (alloc_old _ (show (World.alloc _ _).heap[w.heap.size + 1]? = _ by rw [← World.size_alloc w (.cells #[.int .i64 b.1, .int .i64 b.2] 172)]; exact alloc_new _ _))
    have x1 := cell_of b1 0
    have x2 := cell_of b1 1
    have x3 := cell_of b2 0
    have x4 := cell_of b2 1
    simp only [List.getElem?_toArray, List.getElem?_cons_zero, List.getElem?_cons_succ] at x1 x2 x3 x4
    have HS := hid hs
    clear hw1 hs b1 b2 h0 e1 e2 e3 e4 f1 f2 f3 f4
    go_wp2_with fail
    go_region
    go_wp2
    go_ret
    have H1 := H.out.chg HS.out (fun _ _ f => f)
    have H2 := (H1.set i b).set j a
    exact ⟨rfl, H2.chg (S := fun _ => False) ((Chg.refl _).drew) (fun _ _ f => f), Chg.after HS.out (by refine Chg.drew (Chg.setCell _ _ (Chg.setCell _ _ (Chg.setCell _ _ (Chg.setCell _ _ (Chg.refl _) ?_) ?_) ?_) ?_) <;> exact fun _ => .inr rfl)⟩
end Go.Proofs.YtilobedihjkpjaaDoor.Hp
