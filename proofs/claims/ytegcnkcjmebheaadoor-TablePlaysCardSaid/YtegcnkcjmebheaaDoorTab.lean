/-
  A table as it lies in memory: its block, the column of its handles, the map of its columns, the columns of its ten kinds.
-/
import Derived.Test.YtegcnkcjmebheaaDoorTakeH
import Derived.Test.YtegcnkcjmebheaaDoorTakeV
import Derived.Test.YtegcnkcjmebheaaDoorMapO
import Derived.Test.YtegcnkcjmebheaaDoorPack
import Derived.Test.YtegcnkcjmebheaaDoorSchRow
namespace Go.Proofs.YtegcnkcjmebheaaDoor
open Go Go.RowKit
theorem perm_first {α : Type} {l : List α} {i : Nat} {r : α} (h : l[i]? = some r) : l.Perm (r :: l.eraseIdx i) := by
  obtain ⟨hl, e⟩ := List.getElem?_eq_some_iff.1 h
  rw [← e, List.eraseIdx_eq_take_drop_succ]
  refine List.Perm.trans ?_ List.perm_middle
  rw [← List.drop_eq_getElem_cons hl, List.take_append_drop]
theorem perm_back {α : Type} {l : List α} {i : Nat} {r : α} (h : i < l.length) : (r :: l.eraseIdx i).Perm (l.set i r) := by
  rw [List.eraseIdx_eq_take_drop_succ, List.set_eq_take_append_cons_drop, if_pos h]
  exact List.perm_middle.symm
theorem range_set {α : Type} {f g : Nat → α} {k n : Nat} (hk : k < n) (h : ∀ i, i ≠ k → g i = f i) : (List.range n).map g = ((List.range n).map f).set k (g k) := by
  apply List.ext_getElem?
  intro j
  rw [List.getElem?_set]
  by_cases e : k = j
  · subst e
    rw [if_pos rfl, if_pos (by simpa using hk)]
    simp [hk]
  · rw [if_neg e]
    simp only [List.getElem?_map]
    cases hj : (List.range n)[j]? with
    | none => rfl
    | some i =>
      have : i = j := by
        have := (List.getElem?_eq_some_iff.1 hj).2
        simpa using this.symm
      subst this
      simp [h i (fun x => e x.symm)]
end Go.Proofs.YtegcnkcjmebheaaDoor
namespace Go.Proofs.YtegcnkcjmebheaaDoor.Tab
open Go Go.RowKit Go.Maps Go.Proofs.YtegcnkcjmebheaaDoor.Mask
theorem keyed : Maps.Keyed Tryd.prog 3 := Maps.int_keyed Tryd.underlying3
theorem keyI (k : Int) (h1 : -9223372036854775808 ≤ k) (h2 : k ≤ 9223372036854775807) : keyOf Tryd.prog 3 (.int .i64 k) = some (.int .i64 k) := keyOf_int_mk Tryd.underlying3 (by
  have e1 : IntKind.i64.min = -9223372036854775808 := rfl
  have e2 : IntKind.i64.max = 9223372036854775807 := rfl
  simp only [Lit.wf, Bool.and_eq_true, decide_eq_true_eq]
  omega)
theorem zeroC (w : World) : (zeroValue 89).run Tryd.prog w = .ok (.pointer none) w := by kernel_rfl
/-- Where a table lies. -/
structure Pl where
  p : Nat
  hp : Nat
  mb : Nat
  n : Nat
  cols : Nat → Option Nat
def slotR (o : Option Nat) (xs : List Vl) : Res := match o with
  | none => factR True
  | some c => CV.R c xs 128
def colS (cols : Nat → Option Nat) (X : Nat → List Vl) : List Res := (List.range 10).map fun k => slotR (cols k) (X k)
theorem colS_len (cols : Nat → Option Nat) (X : Nat → List Vl) : (colS cols X).length = 10 := by simp [colS]
theorem colS_get (cols : Nat → Option Nat) (X : Nat → List Vl) {k : Nat} (h : k < 10) : (colS cols X)[k]? = some (slotR (cols k) (X k)) := by simp [colS, h]
def updX {α : Type} (X : Nat → α) (k : Nat) (l : α) : Nat → α := fun i => if i = k then l else X i
theorem updX_same {α : Type} (X : Nat → α) (k : Nat) (l : α) : updX X k l k = l := by simp [updX]
theorem updX_other {α : Type} (X : Nat → α) {k i : Nat} (l : α) (h : i ≠ k) : updX X k l i = X i := by simp [updX, h]
/-- What the map of the columns tells. -/
def mapC (cols : Nat → Option Nat) : Lit → Option Nat
  | .int .i64 k => if 0 ≤ k then cols k.toNat else none
  | _ => none
theorem mapC_nat (cols : Nat → Option Nat) (k : Nat) : mapC cols (.int .i64 (k : Int)) = cols k := by simp [mapC]
theorem mapC_neg (cols : Nat → Option Nat) (k : Int) (h : k < 0) : mapC cols (.int .i64 k) = none := by simp only [mapC]; rw [if_neg (by omega)]
theorem mapC_some {cols : Nat → Option Nat} {kl : Lit} {c : Nat} (h : mapC cols kl = some c) : ∃ k : Nat, kl = .int .i64 (k : Int) ∧ cols k = some c := by
  unfold mapC at h
  split at h
  · rename_i k
    split at h
    · exact ⟨k.toNat, by simp only [Lit.int.injEq, true_and]; omega, h⟩
    · cases h
  · cases h
theorem mapC_upd (cols : Nat → Option Nat) (k : Nat) (o : Option Nat) (kl : Lit) : updO (mapC cols) (.int .i64 (k : Int)) o kl = mapC (updX cols k o) kl := by
  by_cases e : kl = .int .i64 (k : Int)
  · subst e
    rw [updO_same, mapC_nat, updX_same]
  · rw [updO_other _ _ e]
    unfold mapC
    split
    · rename_i j
      split
      · rw [updX_other]
        intro h
        apply e
        rw [← h]
        simp only [Lit.int.injEq, true_and]
        omega
      · rfl
    · rfl
abbrev tabB (p hp m : Nat) (kv : Value) (mb : Nat) : Res := Blk p #[.pointer (some ⟨hp, 0, none⟩), mk m, kv, .map (some mb)] 44
abbrev mapB (mb n : Nat) (cols : Nat → Option Nat) : Res := MapR Tryd.prog 3 ptrE mb n (mapC cols)
/-- A table, before other things: its mask, its kinds (which lie elsewhere), its handles, its columns. -/
abbrev tabL (t : Pl) (m : Nat) (kv : Value) (H : List Hd) (X : Nat → List Vl) (L : List Res) : List Res := tabB t.p t.hp m kv t.mb :: CH.R t.hp H 128 :: mapB t.mb t.n t.cols :: (colS t.cols X ++ L)
/-- It has columns of just these kinds. -/
def TOk (t : Pl) (ks : List Nat) : Prop := ∀ k, (t.cols k).isSome = true ↔ k ∈ ks
section
variable {w0 w : World} {L : List Res} {A B C : Res} {cols : Nat → Option Nat} {X : Nat → List Vl}
theorem colFirst {k c : Nat} (hk : k < 10) (hc : cols k = some c) (Y : Star w0 w (A :: B :: C :: (colS cols X ++ L))) : Star w0 w (CV.R c (X k) 128 :: A :: B :: C :: ((colS cols X).eraseIdx k ++ L)) := by
  refine Y.perm ?_
  have hg := colS_get cols X hk
  rw [hc] at hg
  have h := (perm_first hg).append_right L
  exact (((h.cons C).cons B).cons A).trans (List.perm_middle (l₁ := [A, B, C]))
theorem colBack {k c : Nat} (hk : k < 10) (hc : cols k = some c) {l : List Vl} (Y : Star w0 w (CV.R c l 128 :: A :: B :: C :: ((colS cols X).eraseIdx k ++ L))) : Star w0 w (A :: B :: C :: (colS cols (updX X k l) ++ L)) := by
  have e : colS cols (updX X k l) = (colS cols X).set k (CV.R c l 128) := by
    have h := range_set (f := fun k => slotR (cols k) (X k)) (g := fun i => slotR (cols i) (updX X k l i)) hk (fun i hi => by rw [updX_other _ _ hi])
    simp only [updX_same, hc] at h
    exact h
  rw [e]
  refine Y.perm ?_
  refine (List.perm_middle (l₁ := [A, B, C]) (a := CV.R c l 128) (l₂ := (colS cols X).eraseIdx k ++ L)).symm.trans ?_
  have h := (perm_back (l := colS cols X) (i := k) (r := CV.R c l 128) (by rw [colS_len]; omega)).append_right L
  exact ((h.cons C).cons B).cons A
/-- A column is put where none was. -/
theorem colPut {k c : Nat} (hk : k < 10) {l : List Vl} (Y : Star w0 w (CV.R c l 128 :: A :: B :: C :: (colS cols X ++ L))) : Star w0 w (A :: B :: C :: (colS (updX cols k (some c)) (updX X k l) ++ L)) := by
  have e : colS (updX cols k (some c)) (updX X k l) = (colS cols X).set k (CV.R c l 128) := by
    have h := range_set (f := fun k => slotR (cols k) (X k)) (g := fun i => slotR (updX cols k (some c) i) (updX X k l i)) hk (fun i hi => by rw [updX_other _ _ hi, updX_other _ _ hi])
    simp only [updX_same] at h
    exact h
  rw [e]
  have hd : Star w0 w (CV.R c l 128 :: A :: B :: C :: ((colS cols X).eraseIdx k ++ L)) := by
    refine Star.drop (R := slotR (cols k) (X k)) (Y.perm ?_)
    have h := (perm_first (colS_get cols X hk)).append_right L
    refine ((((h.cons C).cons B).cons A).cons _).trans ?_
    exact (List.perm_middle (l₁ := [CV.R c l 128, A, B, C]))
  refine hd.perm ?_
  refine (List.perm_middle (l₁ := [A, B, C]) (a := CV.R c l 128) (l₂ := (colS cols X).eraseIdx k ++ L)).symm.trans ?_
  have h := (perm_back (l := colS cols X) (i := k) (r := CV.R c l 128) (by rw [colS_len]; omega)).append_right L
  exact ((h.cons C).cons B).cons A
/-- A thing behind a table goes ahead of it, and back. -/
theorem tabOut {t : Pl} {m : Nat} {kv : Value} {H : List Hd} {R : Res} (Y : Star w0 w (tabL t m kv H X (R :: L))) : Star w0 w (R :: tabL t m kv H X L) :=
  Y.perm (List.perm_middle (l₁ := tabB t.p t.hp m kv t.mb :: CH.R t.hp H 128 :: mapB t.mb t.n t.cols :: colS t.cols X) (a := R) (l₂ := L))
theorem tabIn {t : Pl} {m : Nat} {kv : Value} {H : List Hd} {R : Res} (Y : Star w0 w (R :: tabL t m kv H X L)) : Star w0 w (tabL t m kv H X (R :: L)) :=
  Y.perm (List.perm_middle (l₁ := tabB t.p t.hp m kv t.mb :: CH.R t.hp H 128 :: mapB t.mb t.n t.cols :: colS t.cols X) (a := R) (l₂ := L)).symm
end
end Go.Proofs.YtegcnkcjmebheaaDoor.Tab
