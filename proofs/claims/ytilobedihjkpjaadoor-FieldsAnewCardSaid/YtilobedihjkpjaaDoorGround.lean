/-
  A ground in memory: its block, and the row of what is free.
-/
import Derived.Test.YtilobedihjkpjaaDoorProg
import Derived.Test.YtilobedihjkpjaaDoorStar
import Derived.Test.YtilobedihjkpjaaDoorArr
import Derived.Test.YtilobedihjkpjaaDoorGrPlain
namespace Go.Proofs.YtilobedihjkpjaaDoor
open Go Go.RowKit

def bv (bs : List Bool) : List Value := bs.map Value.bool
theorem bv_len (bs : List Bool) : (bv bs).length = bs.length := by simp [bv]
theorem bv_one (bs : List Bool) : ∀ u ∈ bv bs, u.oneCell' = true := by intro u hu; simp [bv] at hu; rcases hu with ⟨_, rfl⟩ | ⟨_, rfl⟩ <;> rfl
theorem bv_get (bs : List Bool) (i : Nat) (h : i < bs.length) : (bv bs)[i]? = some (.bool (bs.getD i false)) := by simp [bv, h, List.getD_eq_getElem?_getD]
theorem bv_set (bs : List Bool) (i : Nat) (b : Bool) : (bv bs).set i (.bool b) = bv (bs.set i b) := by simp [bv, List.map_set]

/-- A ground (of type T: steps' or paddockref16's) at block p, its row in block g. -/
structure Gnd (T : TypeId) (w : World) (p g c : Nat) (G : Gr) : Prop where
  blk : w.heap[p]? = some (.cells #[.int .i64 G.W, .int .i64 G.H, .slice (some ⟨g, 0, none⟩) G.fs.length c] T (0, 0))
  own : w.ownsRow 0 4 1 (.slice (some ⟨g, 0, none⟩) G.fs.length c) G.fs.length (bv G.fs)
  ne : g ≠ p
  ok : G.Ok

section
variable {T : TypeId} {w w' : World} {p g c : Nat} {G : Gr}
theorem Gnd.c0 (h : Gnd T w p g c G) : w.cell? ⟨p, 0, none⟩ = some (.int .i64 G.W) := cell_of h.blk 0
theorem Gnd.c1 (h : Gnd T w p g c G) : w.cell? ⟨p, 1, none⟩ = some (.int .i64 G.H) := cell_of h.blk 1
theorem Gnd.c2 (h : Gnd T w p g c G) : w.cell? ⟨p, 2, none⟩ = some (.slice (some ⟨g, 0, none⟩) G.fs.length c) := cell_of h.blk 2
theorem Gnd.pl (h : Gnd T w p g c G) : p < w.heap.size := lt_of h.blk
theorem Gnd.gl (h : Gnd T w p g c G) : g < w.heap.size := (h.own.lt g rfl).2
theorem Gnd.get (h : Gnd T w p g c G) (i : Nat) (hi : i < G.fs.length) : w.cell? ⟨g, i, none⟩ = some (.bool (G.free i)) := (h.own.cellAt i (by omega)).trans (bv_get _ i hi)
theorem Gnd.frozen (h : Gnd T w p g c G) (i : Nat) : w.frozen? ⟨g, i, none⟩ = false := h.own.frozenAt i
theorem Gnd.same (h : Gnd T w p g c G) (hs : Same w w') : Gnd T w' p g c G := ⟨hs.heap h.blk (fun f => f), own_chg h.own hs (fun _ _ f => f), h.ne, h.ok⟩
theorem Gnd.set (h : Gnd T w p g c G) (i : Nat) (b : Bool) : Gnd T (w.setCell ⟨g, i, none⟩ (.bool b)) p g c (G.set i b) := by
  have hst := (h.own.stored i (Value.bool b)).1
  rw [bv_set] at hst
  have e : (G.set i b).fs.length = G.fs.length := by simp [Gr.set]
  refine ⟨?_, ?_, h.ne, Gr.set_ok h.ok i b⟩
  · rw [set_other _ _ (fun e => h.ne e.symm), e]
    exact h.blk
  · rw [e]
    exact hst
end

def gndR (T p : Nat) (G : Gr) : Res where
  rel w F := ∃ g c, Gnd T w p g c G ∧ F = fun k => k = p ∨ k = g
  here := by
    rintro w F ⟨g, c, h, rfl⟩ k (rfl | rfl)
    · exact h.pl
    · exact h.gl
  keep := by
    rintro w w' F ⟨g, c, h, rfl⟩ hk
    refine ⟨g, c, ⟨(hk p (.inl rfl)).trans h.blk, ⟨h.own.1, ?_⟩, h.ne, h.ok⟩, rfl⟩
    rcases h.own.2 with hn' | ⟨g', cap, cur, e, hb, hg, r⟩
    · exact .inl hn'
    · have e' : g' = g := by cases e; rfl
      subst e'
      exact .inr ⟨g', cap, cur, e, hb, (hk g' (.inr rfl)).trans hg, r⟩

section
variable {w0 w w' : World} {L : List Res} {T p : Nat} {G : Gr}
theorem gnd_at (X : Star w0 w L) (i : Nat) (hi : L[i]? = some (gndR T p G)) : ∃ g c, Gnd T w p g c G ∧ w0.heap.size ≤ p ∧ w0.heap.size ≤ g ∧ ∀ (j : Nat) (b : Bool), Star w0 (w.setCell ⟨g, j, none⟩ (.bool b)) (L.set i (gndR T p (G.set j b))) := by
  obtain ⟨F, ⟨g, c, h, rfl⟩, h2, h3⟩ := X.at i hi
  exact ⟨g, c, h, h2 p (.inl rfl), h2 g (.inr rfl), fun j b => h3 _ _ _ ⟨g, c, h.set j b, rfl⟩ (Chg.setCell _ _ (Chg.refl _) (fun _ => .inr rfl)) (fun k f => .inl f)⟩
theorem gnd_new {g c : Nat} (X : Star w0 w L) (hs : Same w w') (h : Gnd T w' p g c G) (h1 : w.heap.size ≤ p) (h2 : w.heap.size ≤ g) : Star w0 w' (gndR T p G :: L) :=
  X.add hs ⟨g, c, h, rfl⟩ (by rintro k (rfl | rfl) <;> assumption)
end

end Go.Proofs.YtilobedihjkpjaaDoor
