/-
  Handles and components as they lie in memory; a column of structs as a Star thing.
-/
import Derived.Test.YtegcnkcjmebheaaDoorFlat
import Derived.Test.YtegcnkcjmebheaaDoorArr
import Derived.Test.YtegcnkcjmebheaaDoorPart
namespace Go.Proofs.YtegcnkcjmebheaaDoor.Tab
open Go Go.RowKit

abbrev Hd := Int × Int
def hc (h : Hd) : List Value := [.int .i64 h.1, .int .i64 h.2]
abbrev hV (h : Hd) : Value := .agg #[.int .i64 h.1, .int .i64 h.2]
theorem hc_len (h : Hd) : (hc h).length = 2 := rfl
theorem hc_one (h : Hd) : ∀ u ∈ hc h, u.oneCell' = true := by intro u hu; simp [hc] at hu; rcases hu with rfl | rfl <;> rfl
/-- A component. -/
structure Vl where
  k : Int
  a : Int
  b : Int
deriving DecidableEq
def vc (v : Vl) : List Value := [.int .i64 v.k, .int .i64 v.a, .int .i64 v.b]
abbrev vV (v : Vl) : Value := .agg #[.int .i64 v.k, .int .i64 v.a, .int .i64 v.b]
theorem vc_len (v : Vl) : (vc v).length = 3 := rfl
theorem vc_one (v : Vl) : ∀ u ∈ vc v, u.oneCell' = true := by intro u hu; simp [vc] at hu; rcases hu with rfl | rfl | rfl <;> rfl

theorem hset (xs : List Hd) (i : Nat) (x y : Hd) (hx : xs[i]? = some x) : ((xs.flatMap hc).set (i * 2) (.int .i64 y.1)).set (i * 2 + 1) (.int .i64 y.2) = (xs.set i y).flatMap hc := by
  have hl := (List.getElem?_eq_some_iff.1 hx).1
  have e1 := rows_set1 hc hc_len xs i 0 x (y.1, x.2) (.int .i64 y.1) hx (by omega) rfl
  have e2 := rows_set1 hc hc_len (xs.set i (y.1, x.2)) i 1 (y.1, x.2) y (.int .i64 y.2) (by simp [hl]) (by omega) rfl
  rw [Nat.add_zero] at e1
  rw [e1, e2, List.set_set]
theorem vset (xs : List Vl) (i : Nat) (x y : Vl) (hx : xs[i]? = some x) : (((xs.flatMap vc).set (i * 3) (.int .i64 y.k)).set (i * 3 + 1) (.int .i64 y.a)).set (i * 3 + 2) (.int .i64 y.b) = (xs.set i y).flatMap vc := by
  have hl := (List.getElem?_eq_some_iff.1 hx).1
  have e1 := rows_set1 vc vc_len xs i 0 x ⟨y.k, x.a, x.b⟩ (.int .i64 y.k) hx (by omega) rfl
  have e2 := rows_set1 vc vc_len (xs.set i ⟨y.k, x.a, x.b⟩) i 1 ⟨y.k, x.a, x.b⟩ ⟨y.k, y.a, x.b⟩ (.int .i64 y.a) (by simp [hl]) (by omega) rfl
  have e3 := rows_set1 vc vc_len (xs.set i ⟨y.k, y.a, x.b⟩) i 2 ⟨y.k, y.a, x.b⟩ y (.int .i64 y.b) (by simp [hl]) (by omega) rfl
  rw [Nat.add_zero] at e1
  rw [e1, e2, List.set_set, e3, List.set_set]

/-- What is left when the thing at i is taken out. -/
def takeOut {α : Type} (xs : List α) (i : Nat) : List α := match xs.getLast? with
  | some y => (xs.set i y).dropLast
  | none => []
theorem takeOut_len {α : Type} (xs : List α) (i : Nat) : (takeOut xs i).length = xs.length - 1 := by
  unfold takeOut
  rcases List.eq_nil_or_concat xs with rfl | ⟨l, y, rfl⟩
  · rfl
  · simp
theorem takeOut_map {α β : Type} (f : α → β) (xs : List α) (i : Nat) : takeOut (xs.map f) i = (takeOut xs i).map f := by
  unfold takeOut
  rw [List.getLast?_map]
  cases xs.getLast? with
  | none => rfl
  | some y => simp [List.map_set, List.map_dropLast]
theorem takeOut_eq {α : Type} (xs : List α) (i n : Nat) (y z : α) (hn : xs.length = n + 1) (hy : xs[n]? = some y) : ((xs.set i y).set n z).take n = takeOut xs i := by
  have e : xs.getLast? = some y := by rw [List.getLast?_eq_getElem?, hn]; exact hy
  unfold takeOut
  rw [e]
  simp only [List.dropLast_eq_take, List.length_set, hn, Nat.add_sub_cancel]
  rw [List.take_set_of_le (Nat.le_refl n)]

/-- A column: its things, how many it may hold. -/
def colR {α : Type} (T E size : Nat) (cf : α → List Value) (p : Nat) (xs : List α) (m : Int) : Res := exR fun v : Value => sepR (Blk p #[v, .int .i64 m] T) (Row E size v xs.length (xs.flatMap cf))
section
variable {w0 w : World} {L : List Res} {α : Type} {T E size p : Nat} {cf : α → List Value} {xs : List α} {m : Int}
theorem colR.open (X : Star w0 w (colR T E size cf p xs m :: L)) : ∃ v, Star w0 w (Blk p #[v, .int .i64 m] T :: Row E size v xs.length (xs.flatMap cf) :: L) := by
  obtain ⟨v, h⟩ := X.open_ex
  exact ⟨v, h.open_sep⟩
theorem colR.close {v : Value} (X : Star w0 w (Blk p #[v, .int .i64 m] T :: Row E size v xs.length (xs.flatMap cf) :: L)) : Star w0 w (colR T E size cf p xs m :: L) := Star.close_ex v X.close_sep
end

theorem zc2 : (Builtin.zeroCells #[Value.int .i64 0, .int .i64 0] 1).toList = [.int .i64 0, .int .i64 0] := by kernel_rfl
theorem zc3 : (Builtin.zeroCells #[Value.int .i64 0, .int .i64 0, .int .i64 0] 1).toList = [.int .i64 0, .int .i64 0, .int .i64 0] := by kernel_rfl
theorem run_store {P : Program} {w : World} {a : Addr} {u : Value} {n : Int} (h : w.cell? a = some u) (f : w.frozen? a = false) : (store a (.int .i64 n)).run P w = .ok () (w.setCell a (.int .i64 n)) := by
  simp [store, Sem.run, h, f]
theorem run_clear2 {P : Program} (w : World) (t e ty : TypeId) (ht : P.underlying t = some (.slice e)) (hv : ∀ w, (zeroValue e).run P w = .ok (.agg #[.int .i64 0, .int .i64 0]) w) (g o c : Nat) {u0 u1 : Value}
    (h0 : w.cell? ⟨g, o, none⟩ = some u0) (h1 : w.cell? ⟨g, o + 1, none⟩ = some u1) (f0 : w.frozen? ⟨g, o, none⟩ = false) (f1 : w.frozen? ⟨g, o + 1, none⟩ = false) :
    (Builtin.clear_ #[t] ty #[.slice (some ⟨g, o, none⟩) 1 c]).run P w = .ok (.tuple #[]) ((w.setCell ⟨g, o, none⟩ (.int .i64 0)).setCell ⟨g, o + 1, none⟩ (.int .i64 0)) := by
  simp only [Builtin.clear_, List.getElem?_toArray, List.getElem?_cons_zero, Sem.run_bind, run_underlying ht, Result.andThen_ok, hv, Value.cells, zc2]
  have s0 := run_store (P := P) (n := 0) h0 f0
  have s1 := run_store (P := P) (n := 0) (w := w.setCell ⟨g, o, none⟩ (.int .i64 0)) (a := ⟨g, o + 1, none⟩) (u := u1) (by rw [World.cell?_setCell_other]; exact h1; simp) (by rw [World.frozen?_setCell]; exact f1)
  simp only [storeCells, Addr.add, Nat.zero_add, Nat.reduceAdd, Nat.reduceEqDiff, if_false, if_true, Sem.run_bind, s0, s1, Result.andThen_ok, Sem.run_pure]
theorem run_clear3 {P : Program} (w : World) (t e ty : TypeId) (ht : P.underlying t = some (.slice e)) (hv : ∀ w, (zeroValue e).run P w = .ok (.agg #[.int .i64 0, .int .i64 0, .int .i64 0]) w) (g o c : Nat) {u0 u1 u2 : Value}
    (h0 : w.cell? ⟨g, o, none⟩ = some u0) (h1 : w.cell? ⟨g, o + 1, none⟩ = some u1) (h2 : w.cell? ⟨g, o + 2, none⟩ = some u2) (f0 : w.frozen? ⟨g, o, none⟩ = false) (f1 : w.frozen? ⟨g, o + 1, none⟩ = false) (f2 : w.frozen? ⟨g, o + 2, none⟩ = false) :
    (Builtin.clear_ #[t] ty #[.slice (some ⟨g, o, none⟩) 1 c]).run P w = .ok (.tuple #[]) (((w.setCell ⟨g, o, none⟩ (.int .i64 0)).setCell ⟨g, o + 1, none⟩ (.int .i64 0)).setCell ⟨g, o + 2, none⟩ (.int .i64 0)) := by
  simp only [Builtin.clear_, List.getElem?_toArray, List.getElem?_cons_zero, Sem.run_bind, run_underlying ht, Result.andThen_ok, hv, Value.cells, zc3]
  have s0 := run_store (P := P) (n := 0) h0 f0
  have s1 := run_store (P := P) (n := 0) (w := w.setCell ⟨g, o, none⟩ (.int .i64 0)) (a := ⟨g, o + 1, none⟩) (u := u1) (by rw [World.cell?_setCell_other]; exact h1; simp) (by rw [World.frozen?_setCell]; exact f1)
  have s2 := run_store (P := P) (n := 0) (w := (w.setCell ⟨g, o, none⟩ (.int .i64 0)).setCell ⟨g, o + 1, none⟩ (.int .i64 0)) (a := ⟨g, o + 2, none⟩) (u := u2) (by rw [World.cell?_setCell_other, World.cell?_setCell_other]; exact h2; simp; simp) (by rw [World.frozen?_setCell, World.frozen?_setCell]; exact f2)
  simp only [storeCells, Addr.add, Nat.zero_add, Nat.reduceAdd, Nat.reduceEqDiff, if_false, if_true, Sem.run_bind, s0, s1, s2, Result.andThen_ok, Sem.run_pure]
end Go.Proofs.YtegcnkcjmebheaaDoor.Tab
