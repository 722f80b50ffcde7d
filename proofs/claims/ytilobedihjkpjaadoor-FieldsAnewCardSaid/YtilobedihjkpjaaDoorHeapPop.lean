/-
  Package heap: Peek, Pop, each by its contract.
-/
import Derived.Test.YtilobedihjkpjaaDoorHeapPush
namespace Go.Proofs.YtilobedihjkpjaaDoor.Hp
open Go Go.RowKit

/-- An entry as a value. -/
abbrev ev (e : Int × Int) : Value := .agg #[.int .i64 e.1, .int .i64 e.2]

set_option maxRecDepth 100000 in
theorem peek_none (p : Nat) (v : Value) (w : World) (h : Hp w p v []) (e : Value) (he : w.cell? ⟨3, 0, none⟩ = some e) :
    Calls Tryd.prog 123 #[.pointer (some ⟨p, 0, none⟩)] w fun r w' => r = .returned (.tuple #[ev (0, 0), e]) ∧ Same w w' := by
  obtain ⟨a, cp, rfl⟩ := h.shape
  have h0 := h.c0
  have hl := h.lt
  have hle := World.block_lt_of_cell? w _ he
  simp only [List.length_nil] at h0
  clear h
  go_enter Tryd.func123, Tryd.ntmps123
  go_wp2_with fail
  go_region
  all_goals
    (go_wp2
     refine bodyPost_ret (v := .tuple #[ev (0, 0), e]) (by simp [results, Tryd.results123, go_sem]) rfl ⟨rfl, ?_⟩
     repeat (first | exact Chg.refl _ | refine Chg.drew ?_ | refine Chg.drewN _ ?_ | refine Chg.alloc _ ?_ | refine Chg.setCell _ _ ?_ (by simp)))

set_option maxRecDepth 100000 in
theorem peek_some (p : Nat) (v : Value) (es : List (Int × Int)) (e : Int × Int) (w : World) (h : Hp w p v es) (he : es[0]? = some e) :
    Calls Tryd.prog 123 #[.pointer (some ⟨p, 0, none⟩)] w fun r w' => r = .returned (.tuple #[ev e, .nilIface]) ∧ Same w w' := by
  have hn := (List.getElem?_eq_some_iff.1 he).1
  obtain ⟨g, cp, rfl⟩ := own_shape h.own hn
  have h0 := h.c0
  have hl := h.lt
  have hx := h.max
  obtain ⟨e0, e1, -, -⟩ := h.entry 0 e he
  have hg := World.block_lt_of_cell? w _ e0
  rw [Nat.zero_mul] at e0 e1
  generalize es.length = n at *
  clear h he
  go_enter Tryd.func123, Tryd.ntmps123
  go_wp2
  refine bodyPost_ret (v := .tuple #[ev e, .nilIface]) (by simp [results, Tryd.results123, go_sem]) rfl ⟨rfl, ?_⟩
  repeat (first | exact Chg.refl _ | refine Chg.drew ?_ | refine Chg.drewN _ ?_ | refine Chg.alloc _ ?_ | refine Chg.setCell _ _ ?_ (by simp))

/-- A variable of two cells, written. -/
theorem put2 {w : World} {q : Nat} {T : TypeId} {f : Nat × Nat} {x y : Value} (h : w.heap[q]? = some (.cells #[x, y] T f)) (a b : Value) : ((w.setCell ⟨q, 0, none⟩ a).setCell ⟨q, 1, none⟩ b).heap[q]? = some (.cells #[a, b] T f) := by
  rw [set_same (set_same h 0 a) 1 b]; rfl

set_option maxRecDepth 100000 in
theorem pop_none (p : Nat) (v : Value) (w : World) (h : Hp w p v []) (T : TypeId) (x : Addr) (he : w.cell? ⟨3, 0, none⟩ = some (.iface T (.pointer (some x)))) :
    Calls Tryd.prog 102 #[.pointer (some ⟨p, 0, none⟩)] w fun r w' => r = .returned (.tuple #[ev (0, 0), .iface T (.pointer (some x))]) ∧ Same w w' := by
  have H := hid h
  have hs0 : ∀ o, Same w (w.alloc o) := fun o => (Chg.refl _).alloc o
  have HS0 := hid hs0
  have HE := hid he
  clear h he hs0
  go_enter Tryd.func102, Tryd.ntmps102
  go_wp2_with fail
  refine (peek_none p v _ (H.out.chg (HS0.out _) (fun _ _ f => f)) _ ((HS0.out _).keep HE.out)).mono ?_
  rintro r w1 ⟨rfl, hs⟩
  have q2 := cell_of (hs.heap (alloc_new _ _) (fun f => f)) 0
  have q3 := cell_of (hs.heap (alloc_new _ _) (fun f => f)) 1
  have f2 := free_of (hs.heap (alloc_new _ _) (fun f => f)) 0
  have f3 := free_of (hs.heap (alloc_new _ _) (fun f => f)) 1
  have hlt := lt_of (hs.heap (alloc_new _ _) (fun f => f))
  have HB := hid (fun o => alloc_old o (put2 (hs.heap (alloc_new _ _) (fun f => f)) (.int .i64 0) (.int .i64 0)))
  have HS := hid ((HS0.out _).trans hs (fun _ _ f => f))
  have hq : w.heap.size ≤ w.heap.size := Nat.le_refl _
  clear hs
  generalize hqe : w.heap.size = q at *
  have HQ := hid hqe
  clear hqe
  go_wp2
  refine bodyPost_ret (v := .tuple #[ev (0, 0), .iface T (.pointer (some x))]) (by simp [results, Tryd.results102, go_sem, cell_of (HB.out _)]) rfl ⟨rfl, ?_⟩
  exact ((HS.out.setCell _ _ (fun h => by have := HQ.out; simp at h; omega)).setCell _ _ (fun h => by have := HQ.out; simp at h; omega)).alloc _

set_option maxRecDepth 100000 in
theorem pop_some (p : Nat) (v : Value) (es : List (Int × Int)) (w : World) (h : Hp w p v es) (hh : IsHeap es) (hn : 0 < es.length) (hm : es.length ≤ 1000000) :
    Calls Tryd.prog 102 #[.pointer (some ⟨p, 0, none⟩)] w fun r w' => r = .returned (.tuple #[ev (at_ es 0), .nilIface]) ∧ ∃ v' es', Hp w' p v' es' ∧ IsHeap es' ∧ (at_ es 0 :: es').Perm es ∧ Chg (HpS p v) w w' ∧ NewOr w v v' := by
  have H := hid h
  have HH := hid hh
  have hs0 : ∀ o, Same w (w.alloc o) := fun o => (Chg.refl _).alloc o
  have HS0 := hid hs0
  have hpl := h.lt
  clear h hh hs0
  go_enter Tryd.func102, Tryd.ntmps102
  go_wp2_with fail
  refine (peek_some p v es (at_ es 0) _ (H.out.chg (HS0.out _) (fun _ _ f => f)) (at_eq hn)).mono ?_
  rintro r w1 ⟨rfl, hs⟩
  have hb := hs.heap (alloc_new w _) (fun f => f)
  have hlt := lt_of hb
  have HS := hid ((HS0.out _).trans hs (fun _ _ f => f))
  have HB := hid hb
  clear hs hb
  generalize hqe : w.heap.size = q at *
  have HQ := hid hqe
  clear hqe
  have H1 := hid (H.out.chg HS.out (fun _ _ f => f))
  obtain ⟨g, cp, rfl⟩ := own_shape H.out.own hn
  have h0 := H1.out.c0
  have hp1 := H1.out.lt
  have hx := H1.out.max
  have hsa : Same w (w1.alloc (.cells #[.int .i64 (at_ es 0).1, .int .i64 (at_ es 0).2] 172)) := HS.out.alloc _
  have hb4 := alloc_new w1 (.cells #[.int .i64 (at_ es 0).1, .int .i64 (at_ es 0).2] 172)
  have hb2 := alloc_old (.cells #[.int .i64 (at_ es 0).1, .int .i64 (at_ es 0).2] 172) HB.out
  have H2 := hid (H.out.chg hsa (fun _ _ f => f))
  have HSA := hid hsa
  have HB4 := hid hb4
  have HB2 := hid hb2
  clear hsa hb4 hb2
  go_wp2_with fail
  generalize (w1.alloc (.cells #[.int .i64 (at_ es 0).1, .int .i64 (at_ es 0).2] 172)) = w2 at *
  have hqq : q < w1.heap.size := hlt
  generalize w1.heap.size = q4 at *
  have h2 := H2.out.c0
  have hf2 := H2.out.f 0
  have hp2 := H2.out.lt
  obtain ⟨n, hne⟩ : ∃ n, es.length = n + 1 := ⟨es.length - 1, by omega⟩
  obtain ⟨l0, l1, lf, lf1⟩ := H2.out.entry n (at_ es n) (at_eq (by omega))
  obtain ⟨z0, z1, zf, zf1⟩ := H2.out.entry 0 (at_ es 0) (at_eq hn)
  rw [Nat.zero_mul] at z0 z1 zf zf1
  have hgp : g ≠ p := fun e => H2.out.ne (by simp [Value.ownBlock, e])
  have hw1 : (es.length : Int) - 1 = (n : Int) := by omega
  rw [hw1]
  have hH3 := H2.out.set 0 (at_ es n)
  rw [Nat.zero_mul] at hH3
  have H3 := hid hH3
  have HNE := hid hne
  have hnl : n < es.length := by omega
  have hcap := own_cap H2.out.own
  have hnc : n ≤ cp := by omega
  clear hH3 h0 hne hw1 hcap
  generalize hme : es.length = m at *
  have HME := hid hme
  clear hme
  go_region
  all_goals go_wp2_with fail
  have hgq : g < q := by
    have := World.block_lt_of_cell? w _ (H.out.entry 0 (at_ es 0) (at_eq (by have := HME.out; omega))).1
    have := HQ.out
    simp at *
    omega
  have hlp : (popped es).length = n := by simp [popped]; have := HME.out; have := HNE.out; omega
  have hpo : popped es = (es.set 0 (at_ es n)).take n := by unfold popped; rw [HME.out, HNE.out, Nat.add_sub_cancel]
  have hst := Hp.store (es' := popped es) (v' := .slice (some ⟨g, 0, none⟩) n cp) H3.out (Chg.refl _) (by
    have h := H3.out.own
    rw [List.length_set, HME.out] at h
    have := own_take h n (by omega)
    rw [flat_take, ← hpo, ← hlp] at this
    rw [hlp] at this ⊢
    exact this) (.inl rfl)
  have hc1 : Chg (HpS p (.slice (some ⟨g, 0, none⟩) m cp)) w ((((w2.setCell ⟨g, 0, none⟩ (.int .i64 (at_ es n).1)).setCell ⟨g, 1, none⟩ (.int .i64 (at_ es n).2)).setCell ⟨p, 0, none⟩ (.slice (some ⟨g, 0, none⟩) n cp)).drew) :=
    ((((HSA.out.mono (fun _ _ f => f.elim)).setCell _ _ (fun _ => .inr rfl)).setCell _ _ (fun _ => .inr rfl)).setCell _ _ (fun _ => .inl rfl)).drew
  have hh3 := hst.1.chg (((Chg.refl _).drew : Same _ _)) (fun _ _ f => f)
  have hk : ∀ (j : Nat) cs (t : TypeId) f, j ≠ p → j ≠ g → w2.heap[j]? = some (.cells cs t f) → ((((w2.setCell ⟨g, 0, none⟩ (.int .i64 (at_ es n).1)).setCell ⟨g, 1, none⟩ (.int .i64 (at_ es n).2)).setCell ⟨p, 0, none⟩ (.slice (some ⟨g, 0, none⟩) n cp)).drew).heap[j]? = some (.cells cs t f) := fun j cs t f hjp hjg h =>
    Chg.heap (S := HpS p (.slice (some ⟨g, 0, none⟩) m cp)) ((((((Chg.refl _).setCell _ _ (fun _ => .inr rfl)).setCell _ _ (fun _ => .inr rfl)).setCell _ _ (fun _ => .inl rfl)).drew)) h (by rintro (e | e); exact hjp e; simp [Value.ownBlock] at e; exact hjg e)
  have HC1 := hid hc1
  have HB4' := hid (hk q4 _ _ _ (by omega) (by omega) HB4.out)
  have HB2' := hid (hk q _ _ _ (by omega) (by omega) HB2.out)
  refine (down_any p _ (popped es) _ hh3 (by omega) (pop_down es HH.out)).mono ?_
  rintro r w5 ⟨rfl, es5, x1, x2, x3, x4⟩
  have hb4 := x4.heap HB4'.out (by rintro (e | e); omega; simp [Value.ownBlock] at e; omega)
  have hb2 := x4.heap HB2'.out (by rintro (e | e); omega; simp [Value.ownBlock] at e; omega)
  have a0 := cell_of hb4 0
  have a1 := cell_of hb4 1
  have b0 := cell_of hb2 0
  have b1 := cell_of hb2 1
  have c0 := free_of hb2 0
  have c1 := free_of hb2 1
  have HF := hid (put2 hb2 (.int .i64 (at_ es 0).1) (.int .i64 (at_ es 0).2))
  have X1 := hid x1
  have X2 := hid x2
  have X3 := hid x3
  have X4 := hid (HC1.out.trans x4 (HpS.back (.inl rfl)))
  clear x1 x2 x3 x4 hk hh3 hst hc1 hb4 hb2 hpo hlp l0 l1 lf lf1 z0 z1 zf zf1 h2 hf2
  go_wp2
  refine bodyPost_ret (v := .tuple #[ev (at_ es 0), .nilIface]) (by simp [results, Tryd.results102, go_sem, cell_of HF.out]) rfl ⟨rfl, _, es5, X1.out.chg (S := fun k => k = q) (Chg.setCell (S := fun k => k = q) _ _ (Chg.setCell (S := fun k => k = q) _ _ (Chg.refl _) (fun _ => rfl)) (fun _ => rfl)) ?_, X2.out, (X3.out.cons _).trans (popped_perm es (by have := HME.out; omega)), ?_, .inl rfl⟩
  · rintro k (rfl | h)
    · intro e; omega
    · intro e; simp [Value.ownBlock] at h; omega
  · exact (X4.out.setCell _ _ (fun h => by have := HQ.out; simp at h; omega)).setCell _ _ (fun h => by have := HQ.out; simp at h; omega)
end Go.Proofs.YtilobedihjkpjaaDoor.Hp
