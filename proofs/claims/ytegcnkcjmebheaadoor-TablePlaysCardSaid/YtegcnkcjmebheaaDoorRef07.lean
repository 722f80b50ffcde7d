/-
  paddockref07: the document's table as it lies in memory; Has, Same.
-/
import Derived.Test.YtegcnkcjmebheaaDoorPlaysP
import Derived.Deep.RegionHeld3
namespace Go.Proofs.YtegcnkcjmebheaaDoor.Tab
open Go Go.RowKit Go.Maps Go.Proofs.YtegcnkcjmebheaaDoor.Mask Go.Proofs.YtegcnkcjmebheaaDoor.TableSets
theorem lt_same {w w' : World} {k : Nat} (h : k < w.heap.size) (e : w'.heap[k]? = w.heap[k]?) : k < w'.heap.size := by
  rw [Array.getElem?_eq_getElem h] at e
  exact (Array.getElem?_eq_some_iff.1 e).1
/-- Rows of components that are never written to any more: each of them reads as it did. -/
def poolR (G : List En) : Res where
  rel w F := (∀ k, F k → k < w.heap.size) ∧ ∀ e ∈ G, Reads w e.v e.vs.length 3 (e.vs.flatMap vc) ∧ (0 < e.vs.length → ∀ b, e.a = some b → F b.block)
  here := by rintro w F ⟨h, _⟩; exact h
  keep := by
    rintro w w' F ⟨h1, h2⟩ hk
    refine ⟨fun k f => lt_same (h1 k f) (hk k f), fun e he => ?_⟩
    obtain ⟨⟨ad, cap, hv, hl, hn, hc⟩, hF⟩ := h2 e he
    refine ⟨⟨ad, cap, hv, hl, hn, fun a ha => ⟨fun h0 => ?_, fun j u hu => ?_⟩⟩, hF⟩
    · have hp : 0 < e.vs.length := by omega
      have e1 : e.a = some a := by cases hv; exact ha
      exact lt_same ((hc a ha).1 h0) (hk _ (hF hp a e1))
    · have hp : 0 < e.vs.length := by
        have := (List.getElem?_eq_some_iff.1 hu).1
        omega
      have e1 : e.a = some a := by cases hv; exact ha
      rw [← (hc a ha).2 j u hu]
      refine World.cell?_of_block ?_
      rw [addr_block]
      exact hk _ (hF hp a e1)
section
variable {w0 w : World} {L : List Res} {G : List En}
theorem pool_new (X : Star w0 w L) : Star w0 w (poolR [] :: L) :=
  X.add (Chg.refl _) (F := fun _ => False) ⟨fun k h => h.elim, fun e h => by cases h⟩ (fun k h => h.elim)
theorem pool_add {e : En} (X : Star w0 w (Row 37 3 e.v e.vs.length (e.vs.flatMap vc) :: poolR G :: L)) : Star w0 w (poolR (e :: G) :: L) := by
  obtain ⟨F, h⟩ := X.all
  cases h with
  | cons a1 a2 a3 h =>
    cases h with
    | cons b1 b2 b3 h =>
      rename_i F1 F2 F3
      refine ⟨X.same, _, .cons (F := fun k => F1 k ∨ F2 k) ⟨?_, ?_⟩ ?_ ?_ h⟩
      · rintro k (f | f)
        · exact Res.here _ a1 k f
        · exact b1.1 k f
      · intro g hg
        rcases List.mem_cons.1 hg with rfl | hg
        · refine ⟨Reads.of_own a1.1, fun hp b hb => .inl ?_⟩
          rw [a1.2]
          show Value.ownBlock (.slice g.a g.vs.length g.c) = some b.block
          rw [hb]
          rfl
        · obtain ⟨h1, h2⟩ := b1.2 g hg
          exact ⟨h1, fun hp b hb => .inr (h2 hp b hb)⟩
      · rintro k (f | f)
        · exact a2 k f
        · exact b2 k f
      · rintro k (f | f) g
        · exact a3 k f (.inr g)
        · exact b3 k f g
theorem pool_sub {G' : List En} (X : Star w0 w L) (i : Nat) (hi : L[i]? = some (poolR G)) (h : ∀ e ∈ G', e ∈ G) : Star w0 w (L.set i (poolR G')) :=
  X.set i hi (fun _ hF => ⟨hF.1, fun e he => hF.2 e (h e he)⟩)
theorem pool_reads (X : Star w0 w L) (i : Nat) (hi : L[i]? = some (poolR G)) {e : En} (he : e ∈ G) : Reads w e.v e.vs.length 3 (e.vs.flatMap vc) := by
  obtain ⟨F, h, _, _⟩ := X.at i hi
  exact (h.2 e he).1
end
/-- The document's table: its block, its rows, the components' rows. -/
abbrev rfB (p m : Nat) (sl : Value) : Res := Blk p #[mk m, sl] 68
abbrev rfE (sl : Value) (es : List En) : Res := Row 46 3 sl es.length (es.flatMap ec)
section
variable {w0 w : World} {L : List Res} {G : List En} {p m : Nat} {sl : Value} {es : List En}
theorem ent_cells (X : Star w0 w L) (i : Nat) {g c n : Nat} (hi : L[i]? = some (Row 46 3 (.slice (some ⟨g, 0, none⟩) n c) n (es.flatMap ec))) (hn : n = es.length) {j : Nat} {e : En} (he : es[j]? = some e) :
    w.cell? ⟨g, j * 3, none⟩ = some (.int .i64 e.h.1) ∧ w.cell? ⟨g, j * 3 + 1, none⟩ = some (.int .i64 e.h.2) ∧ w.cell? ⟨g, j * 3 + 2, none⟩ = some e.v ∧ g < w.heap.size := by
  have hr := (X.row i hi).1
  have hj := (List.getElem?_eq_some_iff.1 he).1
  exact ⟨(hr.cellAt _ (by omega)).trans ((rows_get ec ec_len es j 0 e he (by omega)).trans rfl), (hr.cellAt _ (by omega)).trans ((rows_get ec ec_len es j 1 e he (by omega)).trans rfl), (hr.cellAt _ (by omega)).trans ((rows_get ec ec_len es j 2 e he (by omega)).trans rfl), (hr.lt g rfl).2⟩
set_option maxRecDepth 100000 in
theorem has_yes (X : Star w0 w (rfB p m sl :: rfE sl es :: L)) (i : Nat) (hi : i < es.length) : Calls Tryd.prog 31 #[.pointer (some ⟨p, 0, none⟩), .int .i64 i] w fun r w' => r = .returned (.bool true) ∧ w = w' := by
  obtain ⟨a, c, rfl, -⟩ := own_slice (X.row 1 rfl).1
  have hbk := (X.blk 0 rfl).1
  have b1 := cell_of hbk 1
  have bl := lt_of hbk
  simp only [List.getElem?_toArray, List.getElem?_cons_zero, List.getElem?_cons_succ] at b1
  have h0 : (0 : Int) ≤ (i : Int) := by omega
  obtain ⟨n, hn⟩ : ∃ n, n = es.length := ⟨_, rfl⟩
  rw [← hn] at b1 hi
  clear hbk X hn
  go_enter Tryd.func31, Tryd.ntmps31
  go_wp2
  go_ret
  exact ⟨rfl, rfl⟩
set_option maxRecDepth 100000 in
theorem has_no (X : Star w0 w (rfB p m sl :: rfE sl es :: L)) (i : Int) (hi : i < 0 ∨ (es.length : Int) ≤ i) : Calls Tryd.prog 31 #[.pointer (some ⟨p, 0, none⟩), .int .i64 i] w fun r w' => r = .returned (.bool false) ∧ w = w' := by
  obtain ⟨a, c, rfl, -⟩ := own_slice (X.row 1 rfl).1
  have hbk := (X.blk 0 rfl).1
  have b1 := cell_of hbk 1
  have bl := lt_of hbk
  simp only [List.getElem?_toArray, List.getElem?_cons_zero, List.getElem?_cons_succ] at b1
  obtain ⟨n, hn⟩ : ∃ n, n = es.length := ⟨_, rfl⟩
  rw [← hn] at b1 hi
  clear hbk X hn
  by_cases h0 : i < 0
  · go_enter Tryd.func31, Tryd.ntmps31
    go_wp2
    go_ret
    exact ⟨rfl, rfl⟩
  · have h1 : (n : Int) ≤ i := by omega
    have h2 : ¬ i < (n : Int) := by omega
    have h3 : (0 : Int) ≤ i := by omega
    clear hi
    go_enter Tryd.func31, Tryd.ntmps31
    go_wp2
    go_ret
    exact ⟨rfl, rfl⟩
set_option maxRecDepth 100000 in
/-- Same, of two entities that are the same. -/
theorem same_true (a b : Int) (va vb : Value) (vs : List Vl) (w : World) (ha : Reads w va vs.length 3 (vs.flatMap vc)) (hb : Reads w vb vs.length 3 (vs.flatMap vc)) (hn : vs.length ≤ 1000000) :
    Calls Tryd.prog 24 #[.agg (enC a b va), .agg (enC a b vb)] w fun r w' => r = .returned (.bool true) ∧ Same w w' := by
  obtain ⟨a1, c1, rfl⟩ := ha.slice
  obtain ⟨a2, c2, rfl⟩ := hb.slice
  obtain ⟨n, hn2⟩ : ∃ n, n = vs.length := ⟨_, rfl⟩
  have S0 := hid (((Chg.refl (S := fun _ => False) w).alloc (.cells (enC a b (.slice a1 vs.length c1)) 46)).alloc (.cells (enC a b (.slice a2 vs.length c2)) 46))
  have RA := hid (ha.same S0.out)
  have RB := hid (hb.same S0.out)
  have HN := hid hn
  have HNN := hid hn2
  rw [← hn2] at S0 RA RB ⊢
  dsimp only [enC] at *
  clear ha hb hn hn2
  go_enter Tryd.func24, Tryd.ntmps24
  go_wp2_with fail
  refine (sameRow _ _ vs vs _ (by rw [← HNN.out]; exact RA.out) (by rw [← HNN.out]; exact RB.out) HN.out HN.out).mono ?_
  rintro r w' ⟨hr, hs⟩
  obtain rfl : r = .returned (.bool true) := hr.trans (by simp)
  have S1 := hid (S0.out.trans hs (fun _ _ f => f))
  clear hs
  go_wp2
  go_ret
  exact ⟨rfl, S1.out⟩
end
end Go.Proofs.YtegcnkcjmebheaaDoor.Tab
