/-
  FieldMore: the texts HeapPop, HeapR, Dij, Fol, joined.
-/
import Derived.Test.YtilobedihjkpjaaDoorFieldMoreQ6
import Derived.Test.YtilobedihjkpjaaDoorFieldMoreQ2
import Derived.Test.YtilobedihjkpjaaDoorFieldMoreQ4

/-
  Package heap: Peek, Pop, each by its contract.
-/
namespace Go.Proofs.YtilobedihjkpjaaDoor.Hp
open Go Go.RowKit

/-- An entry as a value. -/
abbrev ev (e : Int × Int) : Value := .agg #[.int .i64 e.1, .int .i64 e.2]

set_option maxRecDepth 100000 in
theorem peek_none (p : Nat) (v : Value) (w : World) (h : Hp w p v []) (e : Value) (he : w.cell? ⟨3, 0, none⟩ = some e) :
    Calls Tryd.prog 123 #[.pointer (some ⟨p, 0, none⟩)] w fun r w' => r = .returned (.tuple #[ev (0, 0), e]) ∧ Same w w' := by
  obtain ⟨a, cp, rfl⟩ := h.shape
  have h0 := h.c0
  have hl := h.lt
  have hle := World.block_lt_of_cell? w _ he
  simp only [List.length_nil] at h0
  clear h
  go_enter Tryd.func123, Tryd.ntmps123
  go_wp2_with fail
  go_region
  all_goals
    (go_wp2
     refine bodyPost_ret (v := .tuple #[ev (0, 0), e]) (by simp [results, Tryd.results123, go_sem]) rfl ⟨rfl, ?_⟩
     repeat (first | exact Chg.refl _ | refine Chg.drew ?_ | refine Chg.drewN _ ?_ | refine Chg.alloc _ ?_ | refine Chg.setCell _ _ ?_ (by simp)))

set_option maxRecDepth 100000 in
theorem peek_some (p : Nat) (v : Value) (es : List (Int × Int)) (e : Int × Int) (w : World) (h : Hp w p v es) (he : es[0]? = some e) :
    Calls Tryd.prog 123 #[.pointer (some ⟨p, 0, none⟩)] w fun r w' => r = .returned (.tuple #[ev e, .nilIface]) ∧ Same w w' := by
  have hn := (List.getElem?_eq_some_iff.1 he).1
  obtain ⟨g, cp, rfl⟩ := own_shape h.own hn
  have h0 := h.c0
  have hl := h.lt
  have hx := h.max
  obtain ⟨e0, e1, -, -⟩ := h.entry 0 e he
  have hg := World.block_lt_of_cell? w _ e0
  rw [Nat.zero_mul] at e0 e1
  generalize es.length = n at *
  clear h he
  go_enter Tryd.func123, Tryd.ntmps123
  go_wp2
  refine bodyPost_ret (v := .tuple #[ev e, .nilIface]) (by simp [results, Tryd.results123, go_sem]) rfl ⟨rfl, ?_⟩
  repeat (first | exact Chg.refl _ | refine Chg.drew ?_ | refine Chg.drewN _ ?_ | refine Chg.alloc _ ?_ | refine Chg.setCell _ _ ?_ (by simp))

/-- A variable of two cells, written. -/
theorem put2 {w : World} {q : Nat} {T : TypeId} {f : Nat × Nat} {x y : Value} (h : w.heap[q]? = some (.cells #[x, y] T f)) (a b : Value) : ((w.setCell ⟨q, 0, none⟩ a).setCell ⟨q, 1, none⟩ b).heap[q]? = some (.cells #[a, b] T f) := by
  rw [set_same (set_same h 0 a) 1 b]; rfl

set_option maxRecDepth 100000 in
theorem pop_none (p : Nat) (v : Value) (w : World) (h : Hp w p v []) (T : TypeId) (x : Addr) (he : w.cell? ⟨3, 0, none⟩ = some (.iface T (.pointer (some x)))) :
    Calls Tryd.prog 102 #[.pointer (some ⟨p, 0, none⟩)] w fun r w' => r = .returned (.tuple #[ev (0, 0), .iface T (.pointer (some x))]) ∧ Same w w' := by
  have H := hid h
  have hs0 : ∀ o, Same w (w.alloc o) := fun o => (Chg.refl _).alloc o
  have HS0 := hid hs0
  have HE := hid he
  clear h he hs0
  go_enter Tryd.func102, Tryd.ntmps102
  go_wp2_with fail
  refine (peek_none p v _ (H.out.chg (HS0.out _) (fun _ _ f => f)) _ ((HS0.out _).keep HE.out)).mono ?_
  rintro r w1 ⟨rfl, hs⟩
  have q2 := cell_of (hs.heap (alloc_new _ _) (fun f => f)) 0
  have q3 := cell_of (hs.heap (alloc_new _ _) (fun f => f)) 1
  have f2 := free_of (hs.heap (alloc_new _ _) (fun f => f)) 0
  have f3 := free_of (hs.heap (alloc_new _ _) (fun f => f)) 1
  have hlt := lt_of (hs.heap (alloc_new _ _) (fun f => f))
  have HB := hid (fun o => alloc_old o (put2 (hs.heap (alloc_new _ _) (fun f => f)) (.int .i64 0) (.int .i64 0)))
  have HS := hid ((HS0.out _).trans hs (fun _ _ f => f))
  have hq : w.heap.size ≤ w.heap.size := Nat.le_refl _
  clear hs
  generalize hqe : w.heap.size = q at *
  have HQ := hid hqe
  clear hqe
  go_wp2
  refine bodyPost_ret (v := .tuple #[ev (0, 0), .iface T (.pointer (some x))]) (by simp [results, Tryd.results102, go_sem, cell_of (HB.out _)]) rfl ⟨rfl, ?_⟩
  exact ((HS.out.setCell _ _ (fun h => by have := HQ.out; simp at h; omega)).setCell _ _ (fun h => by have := HQ.out; simp at h; omega)).alloc _

set_option maxRecDepth 100000 in
theorem pop_some (p : Nat) (v : Value) (es : List (Int × Int)) (w : World) (h : Hp w p v es) (hh : IsHeap es) (hn : 0 < es.length) (hm : es.length ≤ 1000000) :
    Calls Tryd.prog 102 #[.pointer (some ⟨p, 0, none⟩)] w fun r w' => r = .returned (.tuple #[ev (at_ es 0), .nilIface]) ∧ ∃ v' es', Hp w' p v' es' ∧ IsHeap es' ∧ (at_ es 0 :: es').Perm es ∧ Chg (HpS p v) w w' ∧ NewOr w v v' := by
  have H := hid h
  have HH := hid hh
  have hs0 : ∀ o, Same w (w.alloc o) := fun o => (Chg.refl _).alloc o
  have HS0 := hid hs0
  have hpl := h.lt
  clear h hh hs0
  go_enter Tryd.func102, Tryd.ntmps102
  go_wp2_with fail
  refine (peek_some p v es (at_ es 0) _ (H.out.chg (HS0.out _) (fun _ _ f => f)) (at_eq hn)).mono ?_
  rintro r w1 ⟨rfl, hs⟩
  have hb := hs.heap (alloc_new w _) (fun f => f)
  have hlt := lt_of hb
  have HS := hid ((HS0.out _).trans hs (fun _ _ f => f))
  have HB := hid hb
  clear hs hb
  generalize hqe : w.heap.size = q at *
  have HQ := hid hqe
  clear hqe
  have H1 := hid (H.out.chg HS.out (fun _ _ f => f))
  obtain ⟨g, cp, rfl⟩ := own_shape H.out.own hn
  have h0 := H1.out.c0
  have hp1 := H1.out.lt
  have hx := H1.out.max
  have hsa : Same w (w1.alloc (.cells #[.int .i64 (at_ es 0).1, .int .i64 (at_ es 0).2] 172)) := HS.out.alloc _
  have hb4 := alloc_new w1 (.cells #[.int .i64 (at_ es 0).1, .int .i64 (at_ es 0).2] 172)
  have hb2 := alloc_old (.cells #[.int .i64 (at_ es 0).1, .int .i64 (at_ es 0).2] 172) HB.out
  have H2 := hid (H.out.chg hsa (fun _ _ f => f))
  have HSA := hid hsa
  have HB4 := hid hb4
  have HB2 := hid hb2
  clear hsa hb4 hb2
  go_wp2_with fail
  generalize (w1.alloc (.cells #[.int .i64 (at_ es 0).1, .int .i64 (at_ es 0).2] 172)) = w2 at *
  have hqq : q < w1.heap.size := hlt
  generalize w1.heap.size = q4 at *
  have h2 := H2.out.c0
  have hf2 := H2.out.f 0
  have hp2 := H2.out.lt
  obtain ⟨n, hne⟩ : ∃ n, es.length = n + 1 := ⟨es.length - 1, by omega⟩
  obtain ⟨l0, l1, lf, lf1⟩ := H2.out.entry n (at_ es n) (at_eq (by omega))
  obtain ⟨z0, z1, zf, zf1⟩ := H2.out.entry 0 (at_ es 0) (at_eq hn)
  rw [Nat.zero_mul] at z0 z1 zf zf1
  have hgp : g ≠ p := fun e => H2.out.ne (by simp [Value.ownBlock, e])
  have hw1 : (es.length : Int) - 1 = (n : Int) := by omega
  rw [hw1]
  have hH3 := H2.out.set 0 (at_ es n)
  rw [Nat.zero_mul] at hH3
  have H3 := hid hH3
  have HNE := hid hne
  have hnl : n < es.length := by omega
  have hcap := own_cap H2.out.own
  have hnc : n ≤ cp := by omega
  clear hH3 h0 hne hw1 hcap
  generalize hme : es.length = m at *
  have HME := hid hme
  clear hme
  go_region
  all_goals go_wp2_with fail
  have hgq : g < q := by
    have := World.block_lt_of_cell? w _ (H.out.entry 0 (at_ es 0) (at_eq (by have := HME.out; omega))).1
    have := HQ.out
    simp at *
    omega
  have hlp : (popped es).length = n := by simp [popped]; have := HME.out; have := HNE.out; omega
  have hpo : popped es = (es.set 0 (at_ es n)).take n := by unfold popped; rw [HME.out, HNE.out, Nat.add_sub_cancel]
  have hst := Hp.store (es' := popped es) (v' := .slice (some ⟨g, 0, none⟩) n cp) H3.out (Chg.refl _) (by
    have h := H3.out.own
    rw [List.length_set, HME.out] at h
    have := own_take h n (by omega)
    rw [flat_take, ← hpo, ← hlp] at this
    rw [hlp] at this ⊢
    exact this) (.inl rfl)
  have hc1 : Chg (HpS p (.slice (some ⟨g, 0, none⟩) m cp)) w ((((w2.setCell ⟨g, 0, none⟩ (.int .i64 (at_ es n).1)).setCell ⟨g, 1, none⟩ (.int .i64 (at_ es n).2)).setCell ⟨p, 0, none⟩ (.slice (some ⟨g, 0, none⟩) n cp)).drew) :=
    ((((HSA.out.mono (fun _ _ f => f.elim)).setCell _ _ (fun _ => .inr rfl)).setCell _ _ (fun _ => .inr rfl)).setCell _ _ (fun _ => .inl rfl)).drew
  have hh3 := hst.1.chg (((Chg.refl _).drew : Same _ _)) (fun _ _ f => f)
  have hk : ∀ (j : Nat) cs (t : TypeId) f, j ≠ p → j ≠ g → w2.heap[j]? = some (.cells cs t f) → ((((w2.setCell ⟨g, 0, none⟩ (.int .i64 (at_ es n).1)).setCell ⟨g, 1, none⟩ (.int .i64 (at_ es n).2)).setCell ⟨p, 0, none⟩ (.slice (some ⟨g, 0, none⟩) n cp)).drew).heap[j]? = some (.cells cs t f) := fun j cs t f hjp hjg h =>
    Chg.heap (S := HpS p (.slice (some ⟨g, 0, none⟩) m cp)) ((((((Chg.refl _).setCell _ _ (fun _ => .inr rfl)).setCell _ _ (fun _ => .inr rfl)).setCell _ _ (fun _ => .inl rfl)).drew)) h (by rintro (e | e); exact hjp e; simp [Value.ownBlock] at e; exact hjg e)
  have HC1 := hid hc1
  have HB4' := hid (hk q4 _ _ _ (by omega) (by omega) HB4.out)
  have HB2' := hid (hk q _ _ _ (by omega) (by omega) HB2.out)
  refine (down_any p _ (popped es) _ hh3 (by omega) (pop_down es HH.out)).mono ?_
  rintro r w5 ⟨rfl, es5, x1, x2, x3, x4⟩
  have hb4 := x4.heap HB4'.out (by rintro (e | e); omega; simp [Value.ownBlock] at e; omega)
  have hb2 := x4.heap HB2'.out (by rintro (e | e); omega; simp [Value.ownBlock] at e; omega)
  have a0 := cell_of hb4 0
  have a1 := cell_of hb4 1
  have b0 := cell_of hb2 0
  have b1 := cell_of hb2 1
  have c0 := free_of hb2 0
  have c1 := free_of hb2 1
  have HF := hid (put2 hb2 (.int .i64 (at_ es 0).1) (.int .i64 (at_ es 0).2))
  have X1 := hid x1
  have X2 := hid x2
  have X3 := hid x3
  have X4 := hid (HC1.out.trans x4 (HpS.back (.inl rfl)))
  clear x1 x2 x3 x4 hk hh3 hst hc1 hb4 hb2 hpo hlp l0 l1 lf lf1 z0 z1 zf zf1 h2 hf2
  go_wp2
  refine bodyPost_ret (v := .tuple #[ev (at_ es 0), .nilIface]) (by simp [results, Tryd.results102, go_sem, cell_of HF.out]) rfl ⟨rfl, _, es5, X1.out.chg (S := fun k => k = q) (Chg.setCell (S := fun k => k = q) _ _ (Chg.setCell (S := fun k => k = q) _ _ (Chg.refl _) (fun _ => rfl)) (fun _ => rfl)) ?_, X2.out, (X3.out.cons _).trans (popped_perm es (by have := HME.out; omega)), ?_, .inl rfl⟩
  · rintro k (rfl | h)
    · intro e; omega
    · intro e; simp [Value.ownBlock] at h; omega
  · exact (X4.out.setCell _ _ (fun h => by have := HQ.out; simp at h; omega)).setCell _ _ (fun h => by have := HQ.out; simp at h; omega)
end Go.Proofs.YtilobedihjkpjaaDoor.Hp

/-
  A heap as a thing of the call's own: New, Len, Push of one entry, Pop, so told.
-/
namespace Go.Proofs.YtilobedihjkpjaaDoor.Hp
open Go Go.RowKit

def heapR (p : Nat) (es : List (Int × Int)) : Res where
  rel w F := ∃ v, Hp w p v es ∧ IsHeap es ∧ F = HpS p v
  here := by
    rintro w F ⟨v, h, _, rfl⟩ k (rfl | hk)
    · exact h.lt
    · exact (h.own.lt k hk.symm).2
  keep := by
    rintro w w' F ⟨v, h, hh, rfl⟩ hk
    refine ⟨v, ⟨(hk p (.inl rfl)).trans h.blk, ⟨h.own.1, ?_⟩, h.ne⟩, hh, rfl⟩
    rcases h.own.2 with hn' | ⟨g, cap, cur, rfl, hb, hg, r⟩
    · exact .inl hn'
    · exact .inr ⟨g, cap, cur, rfl, hb, (hk g (.inr rfl)).trans hg, r⟩

section
variable {w0 w : World} {L : List Res} {p : Nat} {es : List (Int × Int)}
theorem NewOr.hps {a : World} {v v' : Value} (h : NewOr a v v') (k : Nat) (hk : HpS p v' k) : HpS p v k ∨ a.heap.size ≤ k := by
  rcases hk with rfl | hk
  · exact .inl (.inl rfl)
  · rcases h with e | e
    · exact .inl (.inr (hk.trans e))
    · exact .inr (e k hk.symm)
theorem heap_new (X : Star w0 w L) : Calls Tryd.prog 90 #[] w fun r w' => ∃ p, r = .returned (.pointer (some ⟨p, 0, none⟩)) ∧ Star w0 w' (heapR p [] :: L) ∧ w.heap.size ≤ p := by
  refine (new_any w).mono ?_
  rintro r w' ⟨rfl, h, hs, -⟩
  refine ⟨_, rfl, X.add hs (F := HpS w.heap.size (.slice none 0 0)) ⟨_, h, ?_, rfl⟩ ?_, Nat.le_refl _⟩
  · intro k hk hl; simp at hl
  · rintro k (rfl | hk)
    · exact Nat.le_refl _
    · simp [Value.ownBlock] at hk
theorem heap_len (X : Star w0 w (heapR p es :: L)) : Calls Tryd.prog 101 #[.pointer (some ⟨p, 0, none⟩)] w fun r w' => r = .returned (.int .i64 es.length) ∧ w = w' := by
  obtain ⟨F, ⟨v, h, -, -⟩, -, -⟩ := X.at 0 rfl
  exact len_any p v es w h
theorem heap_le (X : Star w0 w (heapR p es :: L)) : w0.heap.size ≤ p ∧ p < w.heap.size := by
  obtain ⟨F, ⟨v, h, -, rfl⟩, h2, -⟩ := X.at 0 rfl
  exact ⟨h2 p (.inl rfl), h.lt⟩
theorem heap_push {q : Nat} {T : TypeId} {a b : Int} (X : Star w0 w (heapR p es :: Blk q #[.int .i64 a, .int .i64 b] T :: L)) (hf : 1 + es.length ≤ 16384) :
    Calls Tryd.prog 100 #[.pointer (some ⟨p, 0, none⟩), .slice (some ⟨q, 0, none⟩) 1 1] w fun r w' => r = .returned .nilIface ∧ ∃ es', es'.Perm (es ++ [(a, b)]) ∧ Star w0 w' (heapR p es' :: Blk q #[.int .i64 a, .int .i64 b] T :: L) := by
  obtain ⟨F, ⟨v, h, hh, rfl⟩, h2, h3⟩ := X.at 0 rfl
  obtain ⟨F1, F2, ⟨v1, h1, -, rfl⟩, ⟨hb, rfl⟩, hap⟩ := X.apart 0 1 rfl rfl (by omega)
  have e : v1 = v := by have a1 := h1.c0; have a2 := h.c0; rw [a1] at a2; exact Option.some.inj a2
  subst e
  refine (push_ok p v1 es [(a, b)] _ 1 1 w h hh rfl (reads_blk hb 1 1 2 rfl) (fun c hc _ hs => by cases hc; exact hap q hs rfl) hf).mono ?_
  rintro r w' ⟨rfl, v', es', hP⟩
  exact ⟨rfl, es', hP.perm, h3 w' (heapR p es') (HpS p v') ⟨v', hP.hp, hP.heap, rfl⟩ hP.chg (NewOr.hps hP.new)⟩
theorem heap_pop (X : Star w0 w (heapR p es :: L)) (hn : 0 < es.length) (hm : es.length ≤ 1000000) :
    Calls Tryd.prog 102 #[.pointer (some ⟨p, 0, none⟩)] w fun r w' => ∃ e es', r = .returned (.tuple #[ev e, .nilIface]) ∧ (e :: es').Perm es ∧ (∀ b ∈ es', e.1 ≤ b.1) ∧ Star w0 w' (heapR p es' :: L) := by
  obtain ⟨F, ⟨v, h, hh, rfl⟩, h2, h3⟩ := X.at 0 rfl
  refine (pop_some p v es w h hh hn hm).mono ?_
  rintro r w' ⟨rfl, v', es', k1, k2, k3, k4, k5⟩
  refine ⟨_, es', rfl, k3, fun b hb => ?_, h3 w' (heapR p es') (HpS p v') ⟨v', k1, k2, rfl⟩ k4 (NewOr.hps k5)⟩
  have := least_mem es hh b (k3.subset (List.mem_cons_of_mem _ hb))
  rw [le_iff] at this
  omega
end
end Go.Proofs.YtilobedihjkpjaaDoor.Hp

/-
  Least costs to goals, what they are; Dijkstra's invariant, step by step.
-/
namespace Go.Proofs.YtilobedihjkpjaaDoor

/-- A walk from a tile to a free goal costs k. -/
inductive Gr.To (G : Gr) (gs : List Nat) : Nat → Int → Prop
  | goal {t : Nat} : t ∈ gs → G.free t = true → Gr.To G gs t 0
  | step {t d u : Nat} {c k : Int} : G.go t d = some (u, c) → Gr.To G gs u k → Gr.To G gs t (c + k)
/-- A tile's cost. -/
def cAt (c : List Int) (t : Nat) : Int := c.getD t (-1)
theorem cAt_get {c : List Int} {t : Nat} (h : t < c.length) : c[t]? = some (cAt c t) := by simp [cAt, h]
theorem cAt_in {c : List Int} {t : Nat} (h : 0 ≤ cAt c t) : t < c.length := by
  by_cases ht : t < c.length
  · exact ht
  · unfold cAt at h; rw [List.getD_eq_getElem?_getD, List.getElem?_eq_none (by omega)] at h; simp at h
theorem cAt_set (c : List Int) (t u : Nat) (k : Int) (ht : t < c.length) : cAt (c.set t k) u = if t = u then k else cAt c u := by
  unfold cAt
  simp only [List.getD_eq_getElem?_getD, List.getElem?_set]
  by_cases e : t = u
  · subst e; simp [ht]
  · simp [e]
/-- The least costs. -/
structure Least (G : Gr) (gs : List Nat) (c : List Int) : Prop where
  len : c.length = G.fs.length
  low : ∀ t, cAt c t = -1 ∨ 0 ≤ cAt c t
  real : ∀ t, 0 ≤ cAt c t → Gr.To G gs t (cAt c t)
  min : ∀ t k, Gr.To G gs t k → 0 ≤ cAt c t ∧ cAt c t ≤ k
section
variable {G : Gr} {gs : List Nat}
theorem Gr.go_pos {t d u : Nat} {c : Int} (h : G.go t d = some (u, c)) : c = 10 ∨ c = 14 := by
  obtain ⟨_, _, _, _, h, _⟩ := Gr.go_some h
  split at h <;> simp [h]
theorem Gr.To.free {t : Nat} {k : Int} (h : Gr.To G gs t k) : G.free t = true ∧ 0 ≤ k := by
  induction h with
  | goal _ h => exact ⟨h, Int.le_refl _⟩
  | step h _ ih => have := Gr.go_pos h; exact ⟨(Gr.go_some h).1, by omega⟩
theorem Least.unique {c c' : List Int} (h : Least G gs c) (h' : Least G gs c') : c = c' := by
  apply List.ext_getElem?
  intro t
  by_cases ht : t < G.fs.length
  · rw [cAt_get (by rw [h.len]; exact ht), cAt_get (by rw [h'.len]; exact ht)]
    congr 1
    rcases h.low t with a | a <;> rcases h'.low t with b | b
    · rw [a, b]
    · have := (h.min t _ (h'.real t b)).1; omega
    · have := (h'.min t _ (h.real t a)).1; omega
    · have h1 := (h.min t _ (h'.real t b)).2
      have h2 := (h'.min t _ (h.real t a)).2
      omega
  · rw [List.getElem?_eq_none (by rw [h.len]; omega), List.getElem?_eq_none (by rw [h'.len]; omega)]
/-- Costs that a check shows to be the least. -/
theorem Least.check {c : List Int} (hl : c.length = G.fs.length) (hlow : ∀ t, t < c.length → cAt c t = -1 ∨ 0 ≤ cAt c t) (hgoal : ∀ t ∈ gs, G.free t = true → cAt c t = 0)
    (hrel : ∀ t, t < c.length → ∀ s ∈ G.around t, 0 ≤ cAt c s.to → 0 ≤ cAt c t ∧ cAt c t ≤ cAt c s.to + s.c)
    (hreal : ∀ t, t < c.length → 0 ≤ cAt c t → (t ∈ gs ∧ G.free t = true ∧ cAt c t = 0) ∨ ∃ s ∈ G.around t, 0 ≤ cAt c s.to ∧ cAt c t = cAt c s.to + s.c) : Least G gs c := by
  refine ⟨hl, fun t => ?_, ?_, ?_⟩
  · by_cases ht : t < c.length
    · exact hlow t ht
    · exact .inl (by unfold cAt; rw [List.getD_eq_getElem?_getD, List.getElem?_eq_none (by omega)]; rfl)
  · have key : ∀ (n : Nat) (t : Nat), cAt c t ≤ n → 0 ≤ cAt c t → Gr.To G gs t (cAt c t) := by
      intro n
      induction n with
      | zero =>
        intro t hn h0
        rcases hreal t (cAt_in h0) h0 with ⟨h1, h2, h3⟩ | ⟨s, hs, h1, h2⟩
        · rw [h3]; exact .goal h1 h2
        · have := Gr.go_pos (Gr.mem_around.1 hs); omega
      | succ n ih =>
        intro t hn h0
        rcases hreal t (cAt_in h0) h0 with ⟨h1, h2, h3⟩ | ⟨s, hs, h1, h2⟩
        · rw [h3]; exact .goal h1 h2
        · have hp := Gr.go_pos (Gr.mem_around.1 hs)
          rw [h2, Int.add_comm]
          exact .step (Gr.mem_around.1 hs) (ih s.to (by omega) h1)
    intro t h0
    exact key (cAt c t).toNat t (by omega) h0
  · intro t k h
    induction h with
    | goal h1 h2 => rw [hgoal _ h1 h2]; omega
    | @step t d u c' k h _ ih =>
      have hm : (⟨d, u, c'⟩ : Gr.St) ∈ G.around t := Gr.mem_around.2 h
      have := hrel t (by rw [hl]; exact Gr.free_in (Gr.go_some h).1) _ hm ih.1
      simp only at this
      omega

/-- Dijkstra's state: D's tiles are gone from (P: along which of their steps), the entries es wait. -/
structure Dij (G : Gr) (gs gp : List Nat) (P : Nat → Gr.St → Prop) (c : List Int) (es : List (Int × Int)) (D : List Nat) (m : Int) : Prop where
  len : c.length = G.fs.length
  low : ∀ t, cAt c t = -1 ∨ 0 ≤ cAt c t
  real : ∀ t, 0 ≤ cAt c t → Gr.To G gs t (cAt c t)
  goal : ∀ t ∈ gp, G.free t = true → cAt c t = 0
  nodD : D.Nodup
  inD : ∀ t ∈ D, 0 ≤ cAt c t ∧ cAt c t ≤ m
  rel : ∀ t ∈ D, ∀ s ∈ G.around t, P t s → 0 ≤ cAt c s.to ∧ cAt c s.to ≤ cAt c t + s.c
  pend : ∀ t, t ∉ D → 0 ≤ cAt c t → (cAt c t, (t : Int)) ∈ es
  ent : ∀ e ∈ es, m ≤ e.1 ∧ ∃ t : Nat, e.2 = (t : Int) ∧ 0 ≤ cAt c t ∧ cAt c t ≤ e.1 ∧ (t ∈ D → cAt c t < e.1)
  nod : es.Nodup

variable {gp : List Nat} {P : Nat → Gr.St → Prop} {c : List Int} {es es' : List (Int × Int)} {D : List Nat} {m : Int}
theorem Dij.start (c : List Int) (hl : c.length = G.fs.length) (h : ∀ t, cAt c t = -1) : Dij G gs [] P c [] [] 0 :=
  ⟨hl, fun t => .inl (h t), fun t h0 => by rw [h t] at h0; omega, by simp, List.nodup_nil, by simp, by simp, fun t _ h0 => by rw [h t] at h0; omega, by simp, List.nodup_nil⟩
theorem Dij.perm (h : Dij G gs gp P c es D m) (hp : es'.Perm es) : Dij G gs gp P c es' D m :=
  ⟨h.len, h.low, h.real, h.goal, h.nodD, h.inD, h.rel, fun t h1 h2 => hp.mem_iff.2 (h.pend t h1 h2), fun e he => h.ent e (hp.mem_iff.1 he), hp.nodup_iff.2 h.nod⟩
/-- A tile is reached at less. -/
theorem Dij.reach (h : Dij G gs gp P c es D m) {t : Nat} {k : Int} (hT : Gr.To G gs t k) (hD : t ∉ D) (hm : m ≤ k) (hk : 0 ≤ k) (ht : t < c.length) (hlt : cAt c t = -1 ∨ k < cAt c t) (hg : t ∈ gp → G.free t = true → k = 0) :
    Dij G gs gp P (c.set t k) (es ++ [(k, (t : Int))]) D m := by
  have hs := fun u => cAt_set c t u k ht
  refine ⟨by simpa using h.len, fun u => ?_, fun u => ?_, fun u h1 h2 => ?_, h.nodD, fun u hu => ?_, fun u hu s hs' hp => ?_, fun u hu => ?_, fun e he => ?_, ?_⟩
  · rw [hs]; split
    · exact .inr hk
    · exact h.low u
  · rw [hs]; split
    · rename_i e; subst e; exact fun _ => hT
    · exact h.real u
  · rw [hs]; split
    · rename_i e; subst e; exact hg h1 h2
    · exact h.goal u h1 h2
  · rw [hs, if_neg (fun e : t = u => hD (e ▸ hu))]; exact h.inD u hu
  · have h1 := h.rel u hu s hs' hp
    rw [hs, hs, if_neg (fun e : t = u => hD (e ▸ hu))]
    split
    · rename_i e; subst e; omega
    · exact h1
  · rw [hs]; split
    · rename_i e; subst e; intro _; simp
    · intro h0; exact List.mem_append_left _ (h.pend u hu h0)
  · rcases List.mem_append.1 he with he | he
    · obtain ⟨h1, u, h2, h3, h4, h5⟩ := h.ent e he
      refine ⟨h1, u, h2, ?_⟩
      rw [hs]
      split
      · rename_i e'; subst e'; exact ⟨hk, by omega, fun hd => absurd hd hD⟩
      · exact ⟨h3, h4, h5⟩
    · simp only [List.mem_singleton] at he
      subst he
      refine ⟨hm, t, rfl, ?_⟩
      rw [hs, if_pos rfl]
      exact ⟨hk, Int.le_refl _, fun hd => absurd hd hD⟩
  · rw [List.nodup_append]
    refine ⟨h.nod, by simp, fun a ha b hb => ?_⟩
    simp only [List.mem_singleton] at hb
    subst hb
    rintro rfl
    obtain ⟨_, u, h2, h3, h4, _⟩ := h.ent _ ha
    simp only at h2 h4
    obtain rfl : t = u := by omega
    omega
/-- One goal more is done. -/
theorem Dij.goalMore (h : Dij G gs gp P c es D m) {t : Nat} (hg : G.free t = true → cAt c t = 0) : Dij G gs (gp ++ [t]) P c es D m :=
  ⟨h.len, h.low, h.real, fun u h1 h2 => by rcases List.mem_append.1 h1 with h1 | h1; exact h.goal u h1 h2; simp only [List.mem_singleton] at h1; subst h1; exact hg h2, h.nodD, h.inD, h.rel, h.pend, h.ent, h.nod⟩
/-- An entry that is out of date comes out. -/
theorem Dij.stale {e : Int × Int} (h : Dij G gs gp P c (e :: es) D m) {t : Nat} (ht : e.2 = (t : Int)) (hle : ∀ e' ∈ es, e.1 ≤ e'.1) (hst : cAt c t < e.1) : Dij G gs gp P c es D e.1 := by
  have hme := (h.ent e List.mem_cons_self).1
  refine ⟨h.len, h.low, h.real, h.goal, h.nodD, fun u hu => ⟨(h.inD u hu).1, Int.le_trans (h.inD u hu).2 hme⟩, h.rel, fun u hu h0 => ?_, fun e' he' => ⟨hle e' he', (h.ent e' (List.mem_cons_of_mem _ he')).2⟩, (List.nodup_cons.1 h.nod).2⟩
  rcases List.mem_cons.1 (h.pend u hu h0) with he | he
  · rw [← he] at ht hst
    simp only at ht hst
    obtain rfl : u = t := by omega
    omega
  · exact he
/-- An entry that is right comes out: its tile is gone from. -/
theorem Dij.valid {e : Int × Int} (h : Dij G gs gp (fun _ _ => True) c (e :: es) D m) {t : Nat} (ht : e.2 = (t : Int)) (hle : ∀ e' ∈ es, e.1 ≤ e'.1) (hst : ¬ cAt c t < e.1) :
    t ∉ D ∧ cAt c t = e.1 ∧ Dij G gs gp (fun u _ => u ≠ t) c es (t :: D) e.1 := by
  obtain ⟨hme, t', h1, h2, h3, h4⟩ := h.ent e List.mem_cons_self
  obtain rfl : t = t' := by omega
  have hnD : t ∉ D := fun hd => hst (h4 hd)
  have hc : cAt c t = e.1 := by omega
  have hn := List.nodup_cons.1 h.nod
  refine ⟨hnD, hc, h.len, h.low, h.real, h.goal, List.nodup_cons.2 ⟨hnD, h.nodD⟩, fun u hu => ?_, fun u hu s hs hp => ?_, fun u hu h0 => ?_, fun e' he' => ⟨hle e' he', ?_⟩, hn.2⟩
  · rcases List.mem_cons.1 hu with rfl | hu
    · omega
    · exact ⟨(h.inD u hu).1, Int.le_trans (h.inD u hu).2 hme⟩
  · rcases List.mem_cons.1 hu with rfl | hu
    · exact absurd rfl hp
    · exact h.rel u hu s hs trivial
  · rcases List.mem_cons.1 (h.pend u (fun hd => hu (List.mem_cons_of_mem _ hd)) h0) with he | he
    · rw [← he] at h1
      simp only at h1
      obtain rfl : u = t := by omega
      exact absurd List.mem_cons_self hu
    · exact he
  · obtain ⟨_, u, k1, k2, k3, k4⟩ := h.ent e' (List.mem_cons_of_mem _ he')
    refine ⟨u, k1, k2, k3, fun hu => ?_⟩
    rcases List.mem_cons.1 hu with rfl | hu
    · have hne : e' ≠ e := fun e => hn.1 (e ▸ he')
      have : e'.1 ≠ e.1 := fun e1 => hne (Prod.ext e1 (by omega))
      omega
    · exact k4 hu
/-- .. along the next of its steps, where nothing is reached. -/
theorem Dij.pass {Q : Nat → Gr.St → Prop} (h : Dij G gs gp P c es D m) (hQ : ∀ t ∈ D, ∀ s ∈ G.around t, Q t s → P t s ∨ (0 ≤ cAt c s.to ∧ cAt c s.to ≤ cAt c t + s.c)) : Dij G gs gp Q c es D m :=
  ⟨h.len, h.low, h.real, h.goal, h.nodD, h.inD, fun t ht s hs hq => by rcases hQ t ht s hs hq with h1 | h1; exact h.rel t ht s hs h1; exact h1, h.pend, h.ent, h.nod⟩
/-- At the end. -/
theorem Dij.done (hG : G.Ok) (h : Dij G gs gs (fun _ _ => True) c [] D m) : Least G gs c := by
  refine ⟨h.len, h.low, h.real, fun t k hT => ?_⟩
  induction hT with
  | goal h1 h2 => rw [h.goal _ h1 h2]; omega
  | @step t d u c' k hg _ ih =>
    have hD : u ∈ D := by
      by_cases hd : u ∈ D
      · exact hd
      · have := h.pend u hd ih.1; simp at this
    have hb := Gr.go_back hG hg
    have hm : (⟨(d + 4) % 8, t, c'⟩ : Gr.St) ∈ G.around u := Gr.mem_around.2 hb
    have := h.rel u hD _ hm trivial
    simp only at this
    omega
/-- Not more tiles are gone from than there are. -/
theorem Dij.card (h : Dij G gs gp P c es D m) : D.length ≤ G.fs.length := by
  have key : ∀ (n : Nat) {f : List Nat} (_ : f.Nodup) (_ : ∀ i ∈ f, i < n), f.length ≤ n := by
    intro n
    induction n with
    | zero =>
      intro f _ hb
      cases f with
      | nil => simp
      | cons x f => have := hb x List.mem_cons_self; omega
    | succ n ih =>
      intro f h hb
      by_cases hn : n ∈ f
      · have h1 := ih (h.erase n) (fun i hi => by
          have h2 := hb i (List.mem_of_mem_erase hi)
          have h3 := (h.mem_erase_iff).1 hi
          have := h3.1
          omega)
        rw [List.length_erase_of_mem hn] at h1
        omega
      · have := ih h (fun i hi => by have := hb i hi; have : i ≠ n := fun e => hn (e ▸ hi); omega)
        omega
  refine key _ h.nodD (fun t ht => ?_)
  have := cAt_in (h.inD t ht).1
  rw [h.len] at this
  exact this
/-- A step along which a tile is reached. -/
theorem Dij.along (hG : G.Ok) (h : Dij G gs gp P c es D m) {t : Nat} {s : Gr.St} (_ : t ∈ D) (hc : cAt c t = m) (hs : s ∈ G.around t) (hlt : cAt c s.to = -1 ∨ m + s.c < cAt c s.to) :
    s.to ∉ D ∧ s.to < c.length ∧ Dij G gs gp P (c.set s.to (m + s.c)) (es ++ [(m + s.c, (s.to : Int))]) D m ∧ cAt (c.set s.to (m + s.c)) t = m := by
  have hg := Gr.mem_around.1 hs
  have hp := Gr.go_pos hg
  have hD : s.to ∉ D := fun hd => by have := h.inD _ hd; omega
  have hend := (Gr.go_end hG hg).1
  have hl : s.to < c.length := by rw [h.len]; exact Gr.free_in hend
  have hm0 : 0 ≤ m := by have := h.inD t ‹_›; omega
  have hT : Gr.To G gs s.to (m + s.c) := by
    have := h.real t (by omega)
    rw [hc] at this
    rw [Int.add_comm]
    exact .step (Gr.go_back hG hg) this
  refine ⟨hD, hl, h.reach hT hD (by omega) (by omega) hl hlt (fun h1 h2 => ?_), ?_⟩
  · have := h.goal _ h1 h2; omega
  · rw [cAt_set _ _ _ _ hl, if_neg (fun e : s.to = t => hD (e ▸ ‹t ∈ D›))]; exact hc
end
end Go.Proofs.YtilobedihjkpjaaDoor

/-
  The walk along costs, in plain Lean.
-/
namespace Go.Proofs.YtilobedihjkpjaaDoor

/-- The next tile along costs. -/
def Gr.nxt (G : Gr) (c : List Int) (s : Nat) : Option Gr.St := (G.around s).find? fun x => decide (0 ≤ cAt c x.to) && decide (cAt c x.to = cAt c s - x.c)
/-- Where the walk along costs goes from a tile; none: it doesn't come to an end. -/
inductive Gr.Fol (G : Gr) (c : List Int) : Nat → Option (List Nat) → Prop
  | done {s : Nat} : ¬ 0 < cAt c s → Gr.Fol G c s (some [s])
  | stuck {s : Nat} : 0 < cAt c s → G.nxt c s = none → Gr.Fol G c s none
  | go {s : Nat} {x : Gr.St} {r : Option (List Nat)} : 0 < cAt c s → G.nxt c s = some x → Gr.Fol G c x.to r → Gr.Fol G c s (r.map (s :: ·))
/-- A row of tiles, each the next one of that before it. -/
def Gr.chain (G : Gr) (c : List Int) : List Nat → Prop
  | a :: b :: l => 0 < cAt c a ∧ (∃ x, G.nxt c a = some x ∧ x.to = b) ∧ Gr.chain G c (b :: l)
  | _ => True
section
variable {G : Gr} {c : List Int} {gs : List Nat}
theorem Gr.Fol.det {s : Nat} {r r' : Option (List Nat)} (h : Gr.Fol G c s r) (h' : Gr.Fol G c s r') : r = r' := by
  induction h generalizing r' with
  | done h => cases h' with
    | done => rfl
    | stuck k _ => exact absurd k h
    | go k _ _ => exact absurd k h
  | stuck h hn => cases h' with
    | done k => exact absurd h k
    | stuck => rfl
    | go _ k _ => rw [hn] at k; cases k
  | go h hn _ ih => cases h' with
    | done k => exact absurd h k
    | stuck _ k => rw [hn] at k; cases k
    | go _ k hf => rw [hn] at k; cases k; rw [ih hf]
theorem Gr.nxt_some {s : Nat} {x : Gr.St} (h : G.nxt c s = some x) : x ∈ G.around s ∧ 0 ≤ cAt c x.to ∧ cAt c x.to = cAt c s - x.c := by
  unfold Gr.nxt at h
  have := List.find?_some h
  simp only [Bool.and_eq_true, decide_eq_true_eq] at this
  exact ⟨List.mem_of_find?_eq_some h, this⟩
theorem Gr.nxt_less {s : Nat} {x : Gr.St} (h : G.nxt c s = some x) : cAt c x.to < cAt c s := by
  obtain ⟨h1, _, h2⟩ := Gr.nxt_some h
  have := Gr.go_pos (Gr.mem_around.1 h1)
  omega
/-- Along least costs the walk comes to its end: a goal; it costs what the costs tell. -/
theorem Least.nxt (hG : G.Ok) (h : Least G gs c) {s : Nat} (hs : 0 < cAt c s) : ∃ x, G.nxt c s = some x := by
  have h1 := h.real s (by omega)
  obtain ⟨k, hk⟩ : ∃ k, k = cAt c s := ⟨_, rfl⟩
  rw [← hk] at h1
  cases h1 with
  | goal _ _ => omega
  | @step _ d u c' k' hg hT =>
    have hm := h.min _ _ hT
    have hb := Gr.go_back hG hg
    have hp := Gr.go_pos hg
    have hr := h.min s (c' + cAt c u) (.step hg (h.real u hm.1))
    cases hn : G.nxt c s with
    | some x => exact ⟨x, rfl⟩
    | none =>
      unfold Gr.nxt at hn
      have := List.find?_eq_none.1 hn _ (show (⟨d, u, c'⟩ : Gr.St) ∈ G.around s from Gr.mem_around.2 hg)
      simp only [Bool.and_eq_true, decide_eq_true_eq, not_and] at this
      have := this hm.1
      omega
/-- A walk along: its tiles are free, its steps cost c's fall. -/
theorem Gr.Fol.walk (hG : G.Ok) {s : Nat} {r : Option (List Nat)} (hf : Gr.Fol G c s r) (hfree : G.free s = true) (h0 : 0 ≤ cAt c s) : ∀ w, r = some w → (∃ l, w = s :: l) ∧ (∀ t ∈ w, G.free t = true) ∧ G.walkC w = some (cAt c s) ∧ (∃ e, w.getLast? = some e ∧ cAt c e = 0) := by
  induction hf with
  | @done s h =>
    rintro w e
    cases e
    have : cAt c s = 0 := by omega
    exact ⟨⟨[], rfl⟩, by simpa using hfree, by rw [this]; rfl, _, rfl, this⟩
  | stuck _ _ => rintro w e; cases e
  | @go s x r hp hn hr ih =>
    rintro w e
    obtain ⟨h1, h2, h3⟩ := Gr.nxt_some hn
    have hg := Gr.mem_around.1 h1
    cases r with
    | none => cases e
    | some l =>
      simp only [Option.map_some, Option.some.injEq] at e
      subst e
      obtain ⟨⟨l', rfl⟩, a2, a3, z, a4, a5⟩ := ih (Gr.go_end hG hg).1 h2 l rfl
      refine ⟨⟨_, rfl⟩, ?_, ?_, z, ?_, a5⟩
      · intro t ht
        rcases List.mem_cons.1 ht with rfl | ht
        · exact hfree
        · exact a2 t ht
      · rw [Gr.walkC_cons a3 (Gr.edge_of hG hg)]
        congr 1
        omega
      · rw [List.getLast?_cons_cons]; exact a4
theorem Least.fol (hG : G.Ok) (h : Least G gs c) {s : Nat} (h0 : 0 ≤ cAt c s) : ∃ w, Gr.Fol G c s (some w) := by
  obtain ⟨n, hn⟩ : ∃ n : Nat, cAt c s ≤ n := ⟨(cAt c s).toNat, by omega⟩
  induction n generalizing s with
  | zero => exact ⟨_, .done (by omega)⟩
  | succ n ih =>
    by_cases hp : 0 < cAt c s
    · obtain ⟨x, hx⟩ := h.nxt hG hp
      obtain ⟨h1, h2, h3⟩ := Gr.nxt_some hx
      have := Gr.nxt_less hx
      obtain ⟨w, hw⟩ := ih (s := x.to) h2 (by omega)
      exact ⟨_, .go hp hx hw⟩
    · exact ⟨_, .done hp⟩
/-- Where a least cost is 0 a goal is. -/
theorem Least.zero (h : Least G gs c) {t : Nat} (h0 : cAt c t = 0) : t ∈ gs ∧ G.free t = true := by
  have h1 := h.real t (by omega)
  obtain ⟨k, hk⟩ : ∃ k, k = cAt c t := ⟨_, rfl⟩
  rw [← hk] at h1
  cases h1 with
  | goal a b => exact ⟨a, b⟩
  | @step _ d u c' k' hg hT =>
    have := (hT.free).2
    have := Gr.go_pos hg
    omega
/-- A walk of steps, from its end on. -/
theorem Gr.edge_go {a b : Nat} {k : Int} (h : G.edge a b = some k) : ∃ d, G.go a d = some (b, k) := by
  unfold Gr.edge at h
  cases hf : (G.around a).find? (fun s => s.to == b) with
  | none => rw [hf] at h; cases h
  | some s =>
    rw [hf] at h
    simp only [Option.map_some, Option.some.injEq] at h
    have h1 := List.find?_some hf
    have h2 := Gr.mem_around.1 (List.mem_of_find?_eq_some hf)
    have e : s.to = b := by simpa using h1
    rw [e, h] at h2
    exact ⟨s.d, h2⟩
/-- .. is a walk to its last tile. -/
theorem Gr.walk_to : ∀ (l : List Nat) {s e : Nat} {k : Int}, G.walkC (s :: l) = some k → (s :: l).getLast? = some e → G.free e = true → e ∈ gs → Gr.To G gs s k
  | [], s, e, k, hk, he, hf, hg => by
    simp [Gr.walkC] at hk
    simp at he
    subst hk he
    exact .goal hg hf
  | b :: l, s, e, k, hk, he, hf, hg => by
    simp only [Gr.walkC] at hk
    cases h1 : G.edge s b with
    | none => rw [h1] at hk; cases hk
    | some c =>
      rw [h1] at hk
      simp only [Option.bind_some] at hk
      cases h2 : G.walkC (b :: l) with
      | none => rw [h2] at hk; cases hk
      | some k' =>
        rw [h2] at hk
        simp only [Option.map_some, Option.some.injEq] at hk
        obtain ⟨d, hd⟩ := Gr.edge_go h1
        have := Gr.walk_to l h2 (by rw [List.getLast?_cons_cons] at he; exact he) hf hg
        rw [← hk]
        exact .step hd this
/-- To one goal, turned round. -/
theorem Gr.To.snoc (hG : G.Ok) {t d u : Nat} {k k' : Int} (h : G.go t d = some (u, k)) {s : Nat} (hT : Gr.To G [t] s k') : Gr.To G [u] s (k' + k) := by
  induction hT with
  | goal h1 h2 =>
    simp only [List.mem_singleton] at h1
    subst h1
    have := Gr.To.step h (.goal (List.mem_singleton.2 rfl) (Gr.go_end hG h).1)
    rwa [Int.add_comm] at this
  | step hg _ ih => rw [Int.add_assoc]; exact .step hg ih
theorem Gr.To.turn (hG : G.Ok) {s t : Nat} {k : Int} (h : Gr.To G [t] s k) : Gr.To G [s] t k := by
  have key : ∀ {gs : List Nat} {s : Nat} {k : Int}, Gr.To G gs s k → ∀ t, gs = [t] → Gr.To G [s] t k := by
    intro gs s k h
    induction h with
    | goal h1 h2 =>
      rintro t rfl
      simp only [List.mem_singleton] at h1
      subst h1
      exact .goal (List.mem_singleton.2 rfl) h2
    | @step a d u c' k' hg _ ih =>
      rintro t rfl
      have := (ih t rfl).snoc hG (Gr.go_back hG hg)
      rwa [Int.add_comm] at this
  exact key h t rfl
/-- .. and one behind the other. -/
theorem Gr.To.trans {a b d : Nat} {j k : Int} (h : Gr.To G [b] a j) (h' : Gr.To G [d] b k) : Gr.To G [d] a (j + k) := by
  have key : ∀ {gs : List Nat} {a : Nat} {j : Int}, Gr.To G gs a j → gs = [b] → Gr.To G [d] a (j + k) := by
    intro gs a j h
    induction h with
    | goal h1 h2 =>
      rintro rfl
      simp only [List.mem_singleton] at h1
      subst h1
      rw [Int.zero_add]; exact h'
    | step hg _ ih => intro e; rw [Int.add_assoc]; exact .step hg (ih e)
  exact key h rfl
theorem Gr.To.guess (hG : G.Ok) {a b : Nat} {k : Int} (h : Gr.To G [b] a k) : G.guess a b ≤ k := by
  have key : ∀ {gs : List Nat} {a : Nat} {j : Int}, Gr.To G gs a j → gs = [b] → G.guess a b ≤ j := by
    intro gs a j h
    induction h with
    | goal h1 h2 =>
      rintro rfl
      simp only [List.mem_singleton] at h1
      subst h1
      rw [Gr.guess_self]; exact Int.le_refl _
    | @step a d u c' k' hg _ ih =>
      intro e
      have h1 := ih e
      have h2 := Gr.go_guess hG hg
      have h3 := Gr.guess_tri (G := G) a u b
      omega
  exact key h rfl
theorem Gr.To.mono {t a : Nat} {k : Int} (h : Gr.To G gs a k) : Gr.To (G.set t true) gs a k := by
  induction h with
  | goal h1 h2 => exact .goal h1 (Gr.set_mono h2)
  | step hg _ ih => exact .step (Gr.go_mono hg) ih
/-- The way back costs the same. -/
theorem Least.turned (hG : G.Ok) {s t : Nat} {c d : List Int} (hc : Least G [t] c) (hd : Least G [s] d) : cAt c s = cAt d t := by
  rcases hc.low s with h0 | h0
  · rcases hd.low t with h1 | h1
    · rw [h0, h1]
    · have := (hc.min s _ ((hd.real t h1).turn hG)).1; omega
  · have h1 := hd.min t _ ((hc.real s h0).turn hG)
    have h2 := hc.min s _ ((hd.real t h1.1).turn hG)
    omega
/-- A walk along costs goes on from each of its tiles as from there. -/
theorem Gr.Fol.parts (hG : G.Ok) {s : Nat} {r : Option (List Nat)} (hf : Gr.Fol G c s r) (hfree : G.free s = true) (h0 : 0 ≤ cAt c s) : ∀ V, r = some V → ∀ (i u : Nat), V[i]? = some u →
    Gr.Fol G c u (some (V.drop i)) ∧ 0 ≤ cAt c u ∧ G.walkC (V.take (i + 1)) = some (cAt c s - cAt c u) ∧ ∀ x ∈ V.take (i + 1), G.free x = true := by
  induction hf with
  | @done s h =>
    rintro V e i u hi
    cases e
    cases i with
    | zero =>
      simp only [List.getElem?_cons_zero, Option.some.injEq] at hi
      subst hi
      exact ⟨.done h, h0, by simp [Gr.walkC, Int.sub_self], by simpa using hfree⟩
    | succ i => simp at hi
  | stuck _ _ => rintro V e; cases e
  | @go s x r hp hn hr ih =>
    rintro V e i u hi
    obtain ⟨h1, h2, h3⟩ := Gr.nxt_some hn
    have hg := Gr.mem_around.1 h1
    have hxf := (Gr.go_end hG hg).1
    cases r with
    | none => cases e
    | some l =>
      simp only [Option.map_some, Option.some.injEq] at e
      subst e
      cases i with
      | zero =>
        simp only [List.getElem?_cons_zero, Option.some.injEq] at hi
        subst hi
        have := Gr.Fol.go hp hn hr
        exact ⟨this, h0, by simp [Gr.walkC, Int.sub_self], by simpa using hfree⟩
      | succ i =>
        simp only [List.getElem?_cons_succ] at hi
        obtain ⟨a1, a2, a3, a4⟩ := ih hxf h2 l rfl i u hi
        obtain ⟨⟨l', hl'⟩, _⟩ := hr.walk hG hxf h2 l rfl
        refine ⟨by simpa using a1, a2, ?_, ?_⟩
        · rw [List.take_succ_cons]
          rw [hl', List.take_succ_cons] at a3 ⊢
          rw [Gr.walkC_cons a3 (Gr.edge_of hG hg)]
          congr 1
          omega
        · rw [List.take_succ_cons]
          intro y hy
          rcases List.mem_cons.1 hy with rfl | hy
          · exact hfree
          · exact a4 y hy
end
end Go.Proofs.YtilobedihjkpjaaDoor
