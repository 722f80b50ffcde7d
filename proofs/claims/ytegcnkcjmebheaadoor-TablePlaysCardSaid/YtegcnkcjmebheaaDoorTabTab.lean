/-
  What a row's list gives of the library's table.
-/
import Derived.Test.YtegcnkcjmebheaaDoorFrame
import Derived.Test.YtegcnkcjmebheaaDoorTabMask
namespace Go.Proofs.YtegcnkcjmebheaaDoor
open Go Go.RowKit Go.ChangeShapes Go.WideShapes Go.ChangeAt

theorem laid_rest {P : Program} {W : World} {x : String × DataW Unit} {r : List (String × DataW Unit)} {ps : List MemPlace} (h : DataW.LaidVars P W (x :: r) ps) (hnd : ps.Nodup)
    (hrows : ∀ b off, MemPlace.cell b off ∈ ps → (∃ c t, W.heap[b]? = some (.cells c t (0, 0))) ∧ ∀ u v, W.cell? ⟨b, off, none⟩ = some (.iface u v) → Value.okWide P W .any 0 u v) :
    ∃ q, DataW.LaidVars P W r q ∧ q.Nodup ∧ (∀ b off, MemPlace.cell b off ∈ q → (∃ c t, W.heap[b]? = some (.cells c t (0, 0))) ∧ ∀ u v, W.cell? ⟨b, off, none⟩ = some (.iface u v) → Value.okWide P W .any 0 u v) := by
  obtain ⟨n, d⟩ := x
  obtain ⟨g, t, cs, fuel, p, q, _, _, _, _, hq, rfl⟩ := h
  exact ⟨q, hq, List.Nodup.sublist (List.sublist_append_right _ _) hnd, fun b off hm => hrows b off (List.mem_append_right _ hm)⟩

theorem tab_of {W : World} {r : List (String × DataW Unit)} {ps : List MemPlace} (h : DataW.LaidVars Tryd.prog W (("math/bits.deBruijn64tab", .agg (Lib.deBruijn64tab.map (fun n : Nat => .lit (.int .u8 n)))) :: r) ps) : Mask.Tab W := by
  obtain ⟨g, t, cs, fuel, p, q, hg, ht, hvar, hd, _, _⟩ := h
  have hgn : Tryd.prog.globalNamed "math/bits.deBruijn64tab" = some 10 := by kernel_rfl
  obtain rfl := Option.some.inj (hgn.symm.trans hg)
  have htn : (Tryd.prog.globals[10]?).map (·.type) = some 128 := by kernel_rfl
  obtain rfl := Option.some.inj (htn.symm.trans ht)
  obtain ⟨xs, m, _, hx, hl, hn, hall⟩ := DataW.trod_array Tryd.underlying128 hd
  have hc : Tryd.prog.cellsOf 5 = 1 := by kernel_rfl
  intro j hj
  have h1 := hall j hj
  rw [hc, Nat.mul_one] at h1
  obtain ⟨z, hz⟩ : ∃ z, xs[j]? = some z := ⟨_, List.getElem?_eq_getElem (by omega)⟩
  rw [hz] at h1
  obtain ⟨k, hk, hzk, _⟩ := DataW.trod_int Tryd.underlying5 h1
  have hx1 : xs.map (·.1) = Lib.deBruijn64tab.map (fun n : Nat => DataW.lit (Lit.int .u8 n)) := by
    have := congrArg Prod.fst hx
    simp only [DataW.agg.injEq] at this
    exact this.symm
  have h2 : (xs.map (·.1))[j]? = some z.1 := by simp [hz]
  rw [hx1, List.getElem?_map] at h2
  have h3 : Lib.deBruijn64tab[j]? = some (Lib.deBruijn64tab.getD j 0) := by
    rw [List.getD_eq_getElem?_getD, List.getElem?_eq_getElem (show j < Lib.deBruijn64tab.length from hj)]; rfl
  rw [h3, hzk] at h2
  simp only [Option.map_some, Option.some.injEq, DataW.lit.injEq, Lit.int.injEq, true_and] at h2
  have h4 := World.var?_cell hgn hvar j
  rw [h4, h2]
  have h5 : ((cs.toList.drop j).take 1)[0]? = some (Value.int .u8 k) := by rw [hk]; rfl
  rw [List.getElem?_take, if_pos (by omega), List.getElem?_drop, Nat.add_zero] at h5
  simpa using h5
end Go.Proofs.YtegcnkcjmebheaaDoor
