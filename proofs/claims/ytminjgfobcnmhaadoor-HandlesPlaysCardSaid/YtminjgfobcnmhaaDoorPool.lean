/-
  Package handles: a pool as it lies in memory; New, Next, Count.
-/
import Derived.Test.YtminjgfobcnmhaaDoorProg
import Derived.Test.YtminjgfobcnmhaaDoorFlat
import Derived.Test.YtminjgfobcnmhaaDoorArr
namespace Go.Proofs.YtminjgfobcnmhaaDoor.Pool
open Go Go.RowKit

abbrev Slot := Int × Bool
abbrev Hand := Int × Int
def sl (s : Slot) : List Value := [.int .i64 s.1, .bool s.2]
def hl (h : Hand) : List Value := [.int .i64 h.1, .int .i64 h.2]
abbrev hv (h : Hand) : Value := .agg #[.int .i64 h.1, .int .i64 h.2]
def nv (i : Nat) : Value := .int .i64 i
theorem sl_len (s : Slot) : (sl s).length = 2 := rfl
theorem hl_len (s : Hand) : (hl s).length = 2 := rfl
theorem sl_one (s : Slot) : ∀ u ∈ sl s, u.oneCell' = true := by intro u hu; simp [sl] at hu; rcases hu with rfl | rfl <;> rfl
theorem hl_one (s : Hand) : ∀ u ∈ hl s, u.oneCell' = true := by intro u hu; simp [hl] at hu; rcases hu with rfl | rfl <;> rfl
theorem nv_one (f : List Nat) : ∀ u ∈ f.map nv, u.oneCell' = true := by intro u hu; simp at hu; obtain ⟨i, _, rfl⟩ := hu; rfl

abbrev blkR (p : Nat) (vs vf : Value) (c : Int) : Res := Blk p #[vs, vf, .int .i64 c] 91
abbrev slotsR (vs : Value) (S : List Slot) : Res := Row 58 2 vs S.length (S.flatMap sl)
abbrev freeR (vf : Value) (f : List Nat) : Res := Row 3 1 vf f.length (f.map nv)
/-- A pool: its slots, the free places, how many live. -/
def PoolR (p : Nat) (S : List Slot) (f : List Nat) (c : Int) : Res := exR fun v : Value × Value => sepR (blkR p v.1 v.2 c) (sepR (slotsR v.1 S) (freeR v.2 f))

section
variable {w0 w : World} {L : List Res} {p : Nat} {S : List Slot} {f : List Nat} {c : Int}
theorem PoolR.open (X : Star w0 w (PoolR p S f c :: L)) : ∃ vs vf, Star w0 w (blkR p vs vf c :: slotsR vs S :: freeR vf f :: L) := by
  obtain ⟨v, h⟩ := X.open_ex
  have h1 := h.open_sep
  have h2 := ((h1.swap).open_sep)
  exact ⟨v.1, v.2, (h2.pull 2 rfl)⟩
theorem PoolR.close {vs vf : Value} (X : Star w0 w (blkR p vs vf c :: slotsR vs S :: freeR vf f :: L)) : Star w0 w (PoolR p S f c :: L) := by
  have h1 := X.pull 2 rfl
  have h2 : Star w0 w (slotsR vs S :: freeR vf f :: blkR p vs vf c :: L) := h1.pull 2 rfl
  exact Star.close_ex (vs, vf) ((h2.close_sep).swap).close_sep
/-- What its parts' cells hold. -/
theorem blk_facts {vs vf : Value} (X : Star w0 w (blkR p vs vf c :: slotsR vs S :: freeR vf f :: L)) : w.cell? ⟨p, 0, none⟩ = some vs ∧ w.cell? ⟨p, 1, none⟩ = some vf ∧ w.cell? ⟨p, 2, none⟩ = some (.int .i64 c) ∧ (∀ j, w.frozen? ⟨p, j, none⟩ = false) ∧ p < w.heap.size := by
  obtain ⟨h, _⟩ := X.blk 0 rfl
  exact ⟨cell_of h 0, cell_of h 1, cell_of h 2, free_of h, lt_of h⟩
theorem slot_facts {vs vf : Value} (X : Star w0 w (blkR p vs vf c :: slotsR vs S :: freeR vf f :: L)) (i : Nat) (s : Slot) (hi : S[i]? = some s) :
    ∃ g cp m, vs = .slice (some ⟨g, 0, none⟩) m cp ∧ (m = S.length ∧ m ≤ cp ∧ m ≤ 9223372036854775807) ∧ w.cell? ⟨g, i * 2, none⟩ = some (.int .i64 s.1) ∧ w.cell? ⟨g, i * 2 + 1, none⟩ = some (.bool s.2) ∧ (∀ j, w.frozen? ⟨g, j, none⟩ = false) ∧ g < w.heap.size ∧ g ≠ p := by
  obtain ⟨h, _⟩ := X.row 1 rfl
  have hl := (List.getElem?_eq_some_iff.1 hi).1
  obtain ⟨g, cp, rfl⟩ := own_shape h (by omega)
  refine ⟨g, cp, _, rfl, ⟨rfl, own_cap h, own_max h⟩, (h.cellAt _ (by omega)).trans ((rows_get sl sl_len S i 0 s hi (by omega)).trans rfl), (h.cellAt _ (by omega)).trans ((rows_get sl sl_len S i 1 s hi (by omega)).trans rfl), fun j => h.frozenAt j, (h.lt g rfl).2, ?_⟩
  obtain ⟨G, ht⟩ := X.all
  cases ht with
  | cons h1 _ hd ht =>
    cases ht with
    | cons h2 _ _ _ => exact fun e => hd p (by rw [h1.2]) (.inl (by rw [h2.2]; simp [Value.ownBlock, e]))
theorem slots_shape {vs vf : Value} (X : Star w0 w (blkR p vs vf c :: slotsR vs S :: freeR vf f :: L)) : ∃ a cp m, vs = .slice a m cp ∧ (m = S.length ∧ m ≤ cp ∧ m ≤ 9223372036854775807) := by
  obtain ⟨a, cp, h, _⟩ := own_slice (X.row 1 rfl).1
  subst h
  exact ⟨a, cp, _, rfl, rfl, own_cap (X.row 1 rfl).1, own_max (X.row 1 rfl).1⟩
theorem free_shape {vs vf : Value} (X : Star w0 w (blkR p vs vf c :: slotsR vs S :: freeR vf f :: L)) : ∃ a cp m, vf = .slice a m cp ∧ (m = f.length ∧ m ≤ cp ∧ m ≤ 9223372036854775807) := by
  obtain ⟨a, cp, h, _⟩ := own_slice (X.row 2 rfl).1
  subst h
  exact ⟨a, cp, _, rfl, rfl, own_cap (X.row 2 rfl).1, own_max (X.row 2 rfl).1⟩
theorem free_facts {vs vf : Value} (X : Star w0 w (blkR p vs vf c :: slotsR vs S :: freeR vf f :: L)) (i n : Nat) (hi : f[i]? = some n) :
    ∃ g cp m, vf = .slice (some ⟨g, 0, none⟩) m cp ∧ (m = f.length ∧ m ≤ cp ∧ m ≤ 9223372036854775807) ∧ w.cell? ⟨g, i, none⟩ = some (.int .i64 n) ∧ g < w.heap.size := by
  obtain ⟨h, _⟩ := X.row 2 rfl
  have hl := (List.getElem?_eq_some_iff.1 hi).1
  obtain ⟨g, cp, rfl⟩ := own_shape h (by omega)
  exact ⟨g, cp, _, rfl, ⟨rfl, own_cap h, own_max h⟩, (h.cellAt _ (by simpa using hl)).trans (by simp [hi, nv]), (h.lt g rfl).2⟩
theorem row_max {E n k : Nat} {v : Value} {xs : List Value} (h : w.ownsRow 0 E k v n xs) : n ≤ 9223372036854775807 := own_max h
end

theorem new_any {w0 w : World} {L : List Res} (X : Star w0 w L) : Calls Tryd.prog 19 #[] w fun r w' => ∃ p, r = .returned (.pointer (some ⟨p, 0, none⟩)) ∧ Star w0 w' (PoolR p [] [] 0 :: L) := by
  have H := hid X
  clear X
  go_enter Tryd.func19, Tryd.ntmps19
  go_wp2
  go_ret
  refine ⟨_, rfl, PoolR.close (vs := .slice none 0 0) (vf := .slice none 0 0) ?_⟩
  have h := (H.out.nilRow 3 1).nilRow 58 2
  exact h.alloc _ _

theorem count_any {w0 w : World} {L : List Res} {p : Nat} {S : List Slot} {f : List Nat} {c : Int} (X : Star w0 w (PoolR p S f c :: L)) : Calls Tryd.prog 31 #[.pointer (some ⟨p, 0, none⟩)] w fun r w' => r = .returned (.int .i64 c) ∧ w = w' := by
  obtain ⟨vs, vf, Y⟩ := PoolR.open X
  obtain ⟨h0, h1, h2, -, -⟩ := blk_facts Y
  clear X Y
  go_enter Tryd.func31, Tryd.ntmps31
  go_wp2
  go_ret
  exact ⟨rfl, rfl⟩

set_option maxRecDepth 100000 in
theorem next_free {w0 w : World} {L : List Res} {p : Nat} {S : List Slot} {f : List Nat} {c : Int} (X : Star w0 w (PoolR p S f c :: L)) (f0 : List Nat) (i : Nat) (hf : f = f0 ++ [i]) (s : Slot) (hi : S[i]? = some s) :
    Calls Tryd.prog 46 #[.pointer (some ⟨p, 0, none⟩)] w fun r w' => r = .returned (.tuple #[hv (i, s.1), .nilIface]) ∧ Star w0 w' (PoolR p S f c :: L) := by
  have H := hid X
  obtain ⟨vs, vf, Y⟩ := PoolR.open X
  obtain ⟨h0, h1, h2, -, hp⟩ := blk_facts Y
  have hl := (List.getElem?_eq_some_iff.1 hi).1
  obtain ⟨gs, cs, m, rfl, ⟨hm, -, hmx⟩, e0, -, -, hgs, -⟩ := slot_facts Y i s hi
  obtain ⟨gf, cf, n, rfl, ⟨hn, -, hnx⟩, e1, hgf⟩ := free_facts Y f0.length i (by rw [hf]; simp)
  have hn' : n = f0.length + 1 := by rw [hn, hf]; simp
  obtain ⟨g, b⟩ := s
  generalize f0.length = n0 at *
  have him : i < m := by omega
  subst hn'
  clear X Y hi hf hm hn
  go_enter Tryd.func46, Tryd.ntmps46
  go_wp2
  refine bodyPost_ret (v := .tuple #[hv (i, g), .nilIface]) (by simp [results, Tryd.results46, go_sem, hv]) rfl ⟨rfl, ?_⟩
  exact H.out.go (by repeat (first | exact Chg.refl _ | refine Chg.drew ?_ | refine Chg.drewN _ ?_ | refine Chg.alloc _ ?_))

set_option maxRecDepth 100000 in
theorem next_new {w0 w : World} {L : List Res} {p : Nat} {S : List Slot} {c : Int} (X : Star w0 w (PoolR p S [] c :: L)) (hS : S.length < 128) :
    Calls Tryd.prog 46 #[.pointer (some ⟨p, 0, none⟩)] w fun r w' => r = .returned (.tuple #[hv (S.length, 1), .nilIface]) ∧ Star w0 w' (PoolR p S [] c :: L) := by
  have H := hid X
  obtain ⟨vs, vf, Y⟩ := PoolR.open X
  obtain ⟨h0, h1, h2, -, hp⟩ := blk_facts Y
  obtain ⟨a, cs, m, rfl, hm, -, -⟩ := slots_shape Y
  obtain ⟨b, cf, n, rfl, hn, -⟩ := free_shape Y
  rw [List.length_nil] at hn
  subst hn
  rw [← hm] at hS ⊢
  clear X Y hm
  go_enter Tryd.func46, Tryd.ntmps46
  go_wp2
  refine bodyPost_ret (v := .tuple #[hv (m, 1), .nilIface]) (by simp [results, Tryd.results46, go_sem, hv]) rfl ⟨rfl, ?_⟩
  exact H.out.go (by repeat (first | exact Chg.refl _ | refine Chg.drew ?_ | refine Chg.drewN _ ?_ | refine Chg.alloc _ ?_))

set_option maxRecDepth 100000 in
theorem next_full {w0 w : World} {L : List Res} {p : Nat} {S : List Slot} {c : Int} (X : Star w0 w (PoolR p S [] c :: L)) (hS : 128 ≤ S.length) (e : Value) (he : w0.cell? ⟨0, 0, none⟩ = some e) :
    Calls Tryd.prog 46 #[.pointer (some ⟨p, 0, none⟩)] w fun r w' => r = .returned (.tuple #[hv (0, 0), e]) ∧ Star w0 w' (PoolR p S [] c :: L) := by
  have H := hid X
  have hE := X.same.keep he
  obtain ⟨vs, vf, Y⟩ := PoolR.open X
  obtain ⟨h0, h1, h2, -, hp⟩ := blk_facts Y
  obtain ⟨a, cs, m, rfl, hm, -, hmx⟩ := slots_shape Y
  obtain ⟨b, cf, n, rfl, hn, -⟩ := free_shape Y
  rw [List.length_nil] at hn
  subst hn
  rw [← hm] at hS
  have hlt := World.block_lt_of_cell? w _ hE
  clear X Y he hm
  go_enter Tryd.func46, Tryd.ntmps46
  go_wp2
  go_region
  all_goals
    go_wp2
    refine bodyPost_ret (v := .tuple #[hv (0, 0), e]) (by simp [results, Tryd.results46, go_sem, hv]) rfl ⟨rfl, ?_⟩
    exact H.out.go (by repeat (first | exact Chg.refl _ | refine Chg.drew ?_ | refine Chg.drewN _ ?_ | refine Chg.alloc _ ?_))
end Go.Proofs.YtminjgfobcnmhaaDoor.Pool
