/-
  Grounds in plain Lean: tiles, steps, what a walk costs, what it costs at least.
-/
import Derived.Test.YtilobedihjkpjaaDoorLib
namespace Go.Proofs.YtilobedihjkpjaaDoor

/-- A ground: its columns, its rows, which tiles are free. -/
structure Gr where
  W : Nat
  H : Nat
  fs : List Bool
structure Gr.Ok (G : Gr) : Prop where
  w1 : 1 ≤ G.W
  w2 : G.W ≤ 32
  h1 : 1 ≤ G.H
  h2 : G.H ≤ 32
  len : G.fs.length = G.W * G.H
theorem Gr.Ok.max {G : Gr} (h : G.Ok) : G.fs.length ≤ 1024 ∧ 1 ≤ G.fs.length := by
  have h1 : G.W * G.H ≤ 32 * 32 := Nat.mul_le_mul h.w2 h.h2
  have h2 : 1 * 1 ≤ G.W * G.H := Nat.mul_le_mul h.w1 h.h1
  rw [h.len]; omega

def dxOf : Nat → Int
  | 0 => 1 | 1 => 1 | 2 => 0 | 3 => -1 | 4 => -1 | 5 => -1 | 6 => 0 | _ => 1
def dyOf : Nat → Int
  | 0 => 0 | 1 => 1 | 2 => 1 | 3 => 1 | 4 => 0 | 5 => -1 | 6 => -1 | _ => -1

namespace Gr
variable (G : Gr)
/-- Is there a free tile of a column and row? -/
def isF (x y : Int) : Bool := decide (0 ≤ x ∧ x < G.W ∧ 0 ≤ y ∧ y < G.H) && G.fs.getD (y * G.W + x).toNat false
/-- The tile of a column and row. -/
def at' (x y : Int) : Int := y * G.W + x
def X (t : Nat) : Int := ((t % G.W : Nat) : Int)
def Y (t : Nat) : Int := ((t / G.W : Nat) : Int)
/-- Is a tile free? -/
def free (t : Nat) : Bool := G.fs.getD t false
/-- The tile in a direction; -1: there is none, or it isn't free. -/
def to (t d : Nat) : Int := if G.isF (G.X t + dxOf d) (G.Y t + dyOf d) then G.at' (G.X t + dxOf d) (G.Y t + dyOf d) else -1
/-- Where a step goes, and what it costs. -/
def go (t d : Nat) : Option (Nat × Int) :=
  if G.free t ∧ d < 8 ∧ G.isF (G.X t + dxOf d) (G.Y t + dyOf d) then
    if d % 2 = 0 then some ((G.at' (G.X t + dxOf d) (G.Y t + dyOf d)).toNat, 10)
    else if G.isF (G.X t + dxOf d) (G.Y t) ∧ G.isF (G.X t) (G.Y t + dyOf d) then some ((G.at' (G.X t + dxOf d) (G.Y t + dyOf d)).toNat, 14)
    else none
  else none
/-- A step: its direction, where it goes, what it costs. -/
structure St where
  d : Nat
  to : Nat
  c : Int
deriving DecidableEq
def step (t d : Nat) : Option St := (G.go t d).map fun p => ⟨d, p.1, p.2⟩
def around (t : Nat) : List St := (List.range 8).filterMap (G.step t)
def guess (a b : Nat) : Int := 14 * min (G.X a - G.X b).natAbs (G.Y a - G.Y b).natAbs + 10 * (max (G.X a - G.X b).natAbs (G.Y a - G.Y b).natAbs - min (G.X a - G.X b).natAbs (G.Y a - G.Y b).natAbs : Int)
end Gr

section
variable {G : Gr}
theorem Gr.tile (h : G.Ok) {x y : Int} (h1 : 0 ≤ x) (h2 : x < G.W) (h3 : 0 ≤ y) : G.X (G.at' x y).toNat = x ∧ G.Y (G.at' x y).toNat = y := by
  obtain ⟨x, rfl⟩ := Int.eq_ofNat_of_zero_le h1
  obtain ⟨y, rfl⟩ := Int.eq_ofNat_of_zero_le h3
  have e : (G.at' (x : Int) (y : Int)).toNat = y * G.W + x := by
    unfold Gr.at'
    rw [← Int.natCast_mul, ← Int.natCast_add, Int.toNat_natCast]
  have hx : x < G.W := by omega
  have := h.w1
  unfold Gr.X Gr.Y
  rw [e, Nat.mul_comm, Nat.mul_add_mod, Nat.mod_eq_of_lt hx, Nat.mul_add_div (by omega), Nat.div_eq_of_lt hx]
  simp
theorem Gr.isF_iff {x y : Int} : G.isF x y = true ↔ 0 ≤ x ∧ x < G.W ∧ 0 ≤ y ∧ y < G.H ∧ G.free (G.at' x y).toNat = true := by
  unfold Gr.isF Gr.free Gr.at'
  rw [Bool.and_eq_true, decide_eq_true_iff]
  constructor
  · rintro ⟨⟨a, b, c, d⟩, e⟩; exact ⟨a, b, c, d, e⟩
  · rintro ⟨a, b, c, d, e⟩; exact ⟨⟨a, b, c, d⟩, e⟩
theorem Gr.XY (h : G.Ok) (t : Nat) : 0 ≤ G.X t ∧ G.X t < G.W ∧ 0 ≤ G.Y t ∧ G.at' (G.X t) (G.Y t) = t := by
  have := h.w1
  have h1 : t % G.W < G.W := Nat.mod_lt _ (by omega)
  have h2 := Nat.div_add_mod t G.W
  unfold Gr.X Gr.Y Gr.at'
  refine ⟨Int.natCast_nonneg _, by omega, Int.natCast_nonneg _, ?_⟩
  rw [← Int.natCast_mul, ← Int.natCast_add, Nat.mul_comm, h2]
theorem Gr.Yin (h : G.Ok) {t : Nat} (ht : t < G.fs.length) : G.Y t < G.H := by
  rw [h.len] at ht
  have := Nat.div_lt_of_lt_mul ht
  unfold Gr.Y; omega
theorem Gr.free_in {t : Nat} (h : G.free t = true) : t < G.fs.length := by
  unfold Gr.free at h
  by_cases ht : t < G.fs.length
  · exact ht
  · rw [List.getD_eq_getElem?_getD, List.getElem?_eq_none (by omega)] at h; simp at h
theorem Gr.isF_self (h : G.Ok) {t : Nat} (hf : G.free t = true) : G.isF (G.X t) (G.Y t) = true := by
  obtain ⟨h1, h2, h3, h4⟩ := Gr.XY h t
  rw [Gr.isF_iff, h4, Int.toNat_natCast]
  exact ⟨h1, h2, h3, Gr.Yin h (Gr.free_in hf), hf⟩
theorem Gr.at_lt (h : G.Ok) {x y : Int} (h1 : 0 ≤ x) (h2 : x < G.W) (h3 : 0 ≤ y) (h4 : y < G.H) : 0 ≤ G.at' x y ∧ G.at' x y < G.fs.length := by
  obtain ⟨x, rfl⟩ := Int.eq_ofNat_of_zero_le h1
  obtain ⟨y, rfl⟩ := Int.eq_ofNat_of_zero_le h3
  unfold Gr.at'
  rw [← Int.natCast_mul, ← Int.natCast_add, h.len]
  have : y * G.W + x < G.W * G.H := by
    calc y * G.W + x < y * G.W + G.W := by omega
      _ = (y + 1) * G.W := by rw [Nat.succ_mul]
      _ ≤ G.H * G.W := Nat.mul_le_mul_right _ (by omega)
      _ = G.W * G.H := Nat.mul_comm _ _
  omega
/-- What a step is, by columns and rows. -/
theorem Gr.go_some {t d : Nat} {u : Nat} {c : Int} (hg : G.go t d = some (u, c)) : G.free t = true ∧ d < 8 ∧ G.isF (G.X t + dxOf d) (G.Y t + dyOf d) = true ∧ u = (G.at' (G.X t + dxOf d) (G.Y t + dyOf d)).toNat ∧ c = (if d % 2 = 0 then 10 else 14) ∧ (d % 2 = 1 → G.isF (G.X t + dxOf d) (G.Y t) = true ∧ G.isF (G.X t) (G.Y t + dyOf d) = true) := by
  unfold Gr.go at hg
  by_cases hc : G.free t ∧ d < 8 ∧ G.isF (G.X t + dxOf d) (G.Y t + dyOf d)
  · rw [if_pos hc] at hg
    by_cases hd : d % 2 = 0
    · rw [if_pos hd] at hg
      simp only [Option.some.injEq, Prod.mk.injEq] at hg
      exact ⟨hc.1, hc.2.1, hc.2.2, hg.1.symm, by rw [if_pos hd]; exact hg.2.symm, fun h => by omega⟩
    · rw [if_neg hd] at hg
      by_cases hs : G.isF (G.X t + dxOf d) (G.Y t) ∧ G.isF (G.X t) (G.Y t + dyOf d)
      · rw [if_pos hs] at hg
        simp only [Option.some.injEq, Prod.mk.injEq] at hg
        exact ⟨hc.1, hc.2.1, hc.2.2, hg.1.symm, by rw [if_neg hd]; exact hg.2.symm, fun _ => hs⟩
      · rw [if_neg hs] at hg; cases hg
  · rw [if_neg hc] at hg; cases hg
theorem Gr.go_of {t d : Nat} (h1 : G.free t = true) (h2 : d < 8) (h3 : G.isF (G.X t + dxOf d) (G.Y t + dyOf d) = true) (h4 : d % 2 = 1 → G.isF (G.X t + dxOf d) (G.Y t) = true ∧ G.isF (G.X t) (G.Y t + dyOf d) = true) :
    G.go t d = some ((G.at' (G.X t + dxOf d) (G.Y t + dyOf d)).toNat, if d % 2 = 0 then 10 else 14) := by
  unfold Gr.go
  rw [if_pos ⟨h1, h2, h3⟩]
  by_cases hd : d % 2 = 0
  · rw [if_pos hd, if_pos hd]
  · rw [if_neg hd, if_neg hd, if_pos (h4 (by omega))]
theorem opp {d : Nat} (h : d < 8) : dxOf ((d + 4) % 8) = - dxOf d ∧ dyOf ((d + 4) % 8) = - dyOf d := by
  have : d = 0 ∨ d = 1 ∨ d = 2 ∨ d = 3 ∨ d = 4 ∨ d = 5 ∨ d = 6 ∨ d = 7 := by omega
  rcases this with rfl | rfl | rfl | rfl | rfl | rfl | rfl | rfl <;> decide
theorem dir_abs {d : Nat} (h : d < 8) : (dxOf d).natAbs ≤ 1 ∧ (dyOf d).natAbs ≤ 1 ∧ (d % 2 = 0 → (dxOf d).natAbs + (dyOf d).natAbs = 1) ∧ (d % 2 = 1 → (dxOf d).natAbs = 1 ∧ (dyOf d).natAbs = 1) := by
  have : d = 0 ∨ d = 1 ∨ d = 2 ∨ d = 3 ∨ d = 4 ∨ d = 5 ∨ d = 6 ∨ d = 7 := by omega
  rcases this with rfl | rfl | rfl | rfl | rfl | rfl | rfl | rfl <;> decide
/-- Where a step ends. -/
theorem Gr.go_end (h : G.Ok) {t d u : Nat} {c : Int} (hg : G.go t d = some (u, c)) : G.free u = true ∧ G.X u = G.X t + dxOf d ∧ G.Y u = G.Y t + dyOf d := by
  obtain ⟨h1, h2, h3, rfl, rfl, h4⟩ := Gr.go_some hg
  rw [Gr.isF_iff] at h3
  exact ⟨h3.2.2.2.2, Gr.tile h h3.1 h3.2.1 h3.2.2.1⟩
/-- A step goes back the way it came. -/
theorem Gr.go_back (h : G.Ok) {t d u : Nat} {c : Int} (hg : G.go t d = some (u, c)) : G.go u ((d + 4) % 8) = some (t, c) := by
  obtain ⟨e1, e2, e3⟩ := Gr.go_end h hg
  obtain ⟨h1, h2, h3, h5, h6, h4⟩ := Gr.go_some hg
  obtain ⟨o1, o2⟩ := opp h2
  have a1 : G.X u + dxOf ((d + 4) % 8) = G.X t := by omega
  have a2 : G.Y u + dyOf ((d + 4) % 8) = G.Y t := by omega
  have hs := Gr.isF_self h h1
  rw [Gr.go_of e1 (by omega) (by rw [a1, a2]; exact hs) (fun hd => by rw [a1, a2, e2, e3]; have := h4 (by omega); exact ⟨this.2, this.1⟩), a1, a2, (Gr.XY h t).2.2.2, Int.toNat_natCast, h6, show (d + 4) % 8 % 2 = d % 2 by omega]
theorem Gr.go_guess (h : G.Ok) {t d u : Nat} {c : Int} (hg : G.go t d = some (u, c)) : G.guess t u = c := by
  obtain ⟨e1, e2, e3⟩ := Gr.go_end h hg
  obtain ⟨h1, h2, h3, h5, h6, h4⟩ := Gr.go_some hg
  obtain ⟨d1, d2, d3, d4⟩ := dir_abs h2
  have a1 : (G.X t - G.X u).natAbs = (dxOf d).natAbs := by omega
  have a2 : (G.Y t - G.Y u).natAbs = (dyOf d).natAbs := by omega
  unfold Gr.guess
  rw [a1, a2, h6]
  by_cases hd : d % 2 = 0
  · rw [if_pos hd]; have := d3 hd; omega
  · rw [if_neg hd]; have := d4 (by omega); omega
theorem Gr.guess_tri (a b c : Nat) : G.guess a c ≤ G.guess a b + G.guess b c := by
  unfold Gr.guess
  generalize G.X a = xa; generalize G.X b = xb; generalize G.X c = xc
  generalize G.Y a = ya; generalize G.Y b = yb; generalize G.Y c = yc
  have h1 : (xa - xc).natAbs ≤ (xa - xb).natAbs + (xb - xc).natAbs := by omega
  have h2 : (ya - yc).natAbs ≤ (ya - yb).natAbs + (yb - yc).natAbs := by omega
  generalize (xa - xc).natAbs = p at *; generalize (xa - xb).natAbs = p1 at *; generalize (xb - xc).natAbs = p2 at *
  generalize (ya - yc).natAbs = q at *; generalize (ya - yb).natAbs = q1 at *; generalize (yb - yc).natAbs = q2 at *
  omega
theorem Gr.guess_self (a : Nat) : G.guess a a = 0 := by
  unfold Gr.guess
  simp
theorem Gr.guess_nonneg (a b : Nat) : 0 ≤ G.guess a b := by
  unfold Gr.guess
  omega
theorem Gr.mem_around {t : Nat} {s : Gr.St} : s ∈ G.around t ↔ G.go t s.d = some (s.to, s.c) := by
  unfold Gr.around Gr.step
  rw [List.mem_filterMap]
  constructor
  · rintro ⟨d, _, hd⟩
    cases hg : G.go t d with
    | none => rw [hg] at hd; cases hd
    | some p => rw [hg] at hd; cases hd; exact hg
  · intro hg
    refine ⟨s.d, ?_, by rw [hg]; rfl⟩
    rw [List.mem_range]
    exact (Gr.go_some hg).2.1
end

namespace Gr
variable (G : Gr)
/-- What a step from a tile to another one costs. -/
def edge (a b : Nat) : Option Int := ((G.around a).find? fun s => s.to == b).map (·.c)
/-- What a walk costs. -/
def walkC : List Nat → Option Int
  | a :: b :: l => (G.edge a b).bind fun c => (walkC (b :: l)).map (c + ·)
  | _ => some 0
def has (t : Int) : Bool := decide (0 ≤ t ∧ t < G.fs.length)
/-- What a walk costs, and the error's number. -/
def cost (l : List Int) : Int × Int :=
  if l = [] then (0, 3) else if l.all G.has = false then (0, 1) else if l.any (fun t => !G.free t.toNat) = true then (0, 8) else
  match G.walkC (l.map Int.toNat) with
  | some c => (c, 0)
  | none => (0, 9)
end Gr
section
variable {G : Gr}
theorem Gr.edge_of (h : G.Ok) {a d b : Nat} {c : Int} (hg : G.go a d = some (b, c)) : G.edge a b = some c := by
  unfold Gr.edge
  have hm : (⟨d, b, c⟩ : Gr.St) ∈ G.around a := Gr.mem_around.2 hg
  cases hf : (G.around a).find? (fun s => s.to == b) with
  | none => exact absurd (List.find?_eq_none.1 hf _ hm) (by simp)
  | some s =>
    have h1 := List.find?_some hf
    have h2 := Gr.mem_around.1 (List.mem_of_find?_eq_some hf)
    have e : s.to = b := by simpa using h1
    rw [e] at h2
    rw [Option.map_some, ← Gr.go_guess h hg, ← Gr.go_guess h h2]
theorem Gr.walkC_snoc : ∀ (l : List Nat) {a b : Nat} {c k : Int}, G.walkC (l ++ [a]) = some k → G.edge a b = some c → G.walkC (l ++ [a] ++ [b]) = some (k + c)
  | [], a, b, c, k, h1, h2 => by
    simp [Gr.walkC] at h1
    subst h1
    simp [Gr.walkC, h2]
  | [x], a, b, c, k, h1, h2 => by
    simp [Gr.walkC] at h1
    simp [Gr.walkC, h2, h1]
  | x :: y :: l, a, b, c, k, h1, h2 => by
    simp only [List.cons_append, Gr.walkC] at h1 ⊢
    cases he : G.edge x y with
    | none => rw [he] at h1; cases h1
    | some e =>
      rw [he] at h1
      simp only [Option.bind_some] at h1 ⊢
      cases hk : G.walkC (y :: (l ++ [a])) with
      | none => rw [hk] at h1; cases h1
      | some k' =>
        rw [hk] at h1
        simp only [Option.map_some, Option.some.injEq] at h1
        have := Gr.walkC_snoc (y :: l) (a := a) (by simpa using hk) h2
        simp only [List.cons_append] at this
        rw [this]
        simp only [Option.map_some, Option.some.injEq]
        omega
theorem Gr.walkC_cons {l : List Nat} {a b : Nat} {c k : Int} (h1 : G.walkC (a :: l) = some k) (h2 : G.edge b a = some c) : G.walkC (b :: a :: l) = some (c + k) := by
  simp [Gr.walkC, h1, h2]
theorem Gr.cost_ok {l : List Nat} {c : Int} (h0 : l ≠ []) (hf : ∀ t ∈ l, G.free t = true) (hc : G.walkC l = some c) : G.cost (l.map Int.ofNat) = (c, 0) := by
  have e1 : (l.map Int.ofNat).all G.has = true := by
    rw [List.all_eq_true]
    intro t ht
    obtain ⟨u, hu, rfl⟩ := List.mem_map.1 ht
    have := Gr.free_in (hf u hu)
    unfold Gr.has
    rw [decide_eq_true_iff]
    exact ⟨Int.natCast_nonneg _, by simpa using this⟩
  have e2 : (l.map Int.ofNat).any (fun t => !G.free t.toNat) = false := by
    rw [List.any_eq_false]
    intro t ht
    obtain ⟨u, hu, rfl⟩ := List.mem_map.1 ht
    simp [hf u hu]
  have e3 : (l.map Int.ofNat).map Int.toNat = l := by simp [List.map_map, Function.comp_def]
  unfold Gr.cost
  rw [if_neg (by simpa using h0), e1, e2, e3, hc]
  simp

/-- The ground on which one tile more is free. -/
def Gr.set (G : Gr) (t : Nat) (b : Bool) : Gr := { G with fs := G.fs.set t b }
theorem Gr.set_ok (h : G.Ok) (t : Nat) (b : Bool) : (G.set t b).Ok := ⟨h.w1, h.w2, h.h1, h.h2, by simp [Gr.set, h.len]⟩
theorem Gr.set_free (t u : Nat) (b : Bool) : (G.set t b).free u = if t = u ∧ t < G.fs.length then b else G.free u := by
  unfold Gr.free Gr.set
  simp only [List.getD_eq_getElem?_getD, List.getElem?_set]
  by_cases e : t = u
  · subst e
    by_cases hl : t < G.fs.length
    · simp [hl]
    · simp [hl, List.getElem?_eq_none (Nat.le_of_not_lt hl)]
  · simp [e]
theorem Gr.set_mono {t u : Nat} (h : G.free u = true) : (G.set t true).free u = true := by
  rw [Gr.set_free]; split <;> simp [h]
theorem Gr.isF_mono {t : Nat} {x y : Int} (h : G.isF x y = true) : (G.set t true).isF x y = true := by
  rw [Gr.isF_iff] at h ⊢
  exact ⟨h.1, h.2.1, h.2.2.1, h.2.2.2.1, Gr.set_mono h.2.2.2.2⟩
theorem Gr.go_mono {t a d b : Nat} {c : Int} (hg : G.go a d = some (b, c)) : (G.set t true).go a d = some (b, c) := by
  obtain ⟨h1, h2, h3, h5, h6, h4⟩ := Gr.go_some hg
  have := Gr.go_of (G := G.set t true) (t := a) (Gr.set_mono h1) h2 (Gr.isF_mono h3) (fun hd => ⟨Gr.isF_mono (h4 hd).1, Gr.isF_mono (h4 hd).2⟩)
  rw [this, h5, h6]; rfl
/-- All tiles that aren't free. -/
def Gr.blocked (G : Gr) : List Nat := (List.range G.fs.length).filter fun t => !G.free t
theorem Gr.blocked_mono (t : Nat) : (G.set t true).blocked.length ≤ G.blocked.length := by
  unfold Gr.blocked
  have e : (G.set t true).fs.length = G.fs.length := by simp [Gr.set]
  rw [e, ← List.countP_eq_length_filter, ← List.countP_eq_length_filter]
  refine List.countP_mono_left fun u _ hu => ?_
  cases h : G.free u with
  | false => rfl
  | true => rw [Gr.set_mono h] at hu; cases hu
end
def Gr.freeI (G : Gr) (t : Int) : Bool := G.has t && G.free t.toNat
/-- .. at any whole numbers. -/
def Gr.goI (G : Gr) (t d : Int) : Option (Nat × Int) := if 0 ≤ t ∧ 0 ≤ d then G.go t.toNat d.toNat else none
section
variable {G : Gr}
theorem Gr.freeI_nat (t : Nat) : G.freeI t = G.free t := by
  unfold Gr.freeI Gr.has
  by_cases h : G.free t = true
  · have := Gr.free_in h
    rw [decide_eq_true (by omega), Bool.true_and, Int.toNat_natCast]
  · simp only [Bool.not_eq_true] at h
    rw [Int.toNat_natCast, h, Bool.and_false]
theorem Gr.goI_nat (t d : Nat) : G.goI t d = G.go t d := by
  unfold Gr.goI
  rw [if_pos (by omega), Int.toNat_natCast, Int.toNat_natCast]
theorem Gr.goI_free {t d : Int} (h : G.freeI t = false) : G.goI t d = none := by
  unfold Gr.goI
  by_cases hc : 0 ≤ t ∧ 0 ≤ d
  · rw [if_pos hc]
    obtain ⟨t, rfl⟩ := Int.eq_ofNat_of_zero_le hc.1
    rw [Gr.freeI_nat] at h
    unfold Gr.go
    rw [Int.toNat_natCast, h]
    simp
  · rw [if_neg hc]
theorem Gr.goI_dir {t d : Int} (h : ¬ (0 ≤ d ∧ d < 8)) : G.goI t d = none := by
  unfold Gr.goI
  by_cases hc : 0 ≤ t ∧ 0 ≤ d
  · rw [if_pos hc]
    unfold Gr.go
    rw [if_neg (by omega)]
  · rw [if_neg hc]
theorem Gr.to_none (h : G.Ok) (t d : Nat) : G.to t d = -1 ↔ G.isF (G.X t + dxOf d) (G.Y t + dyOf d) = false := by
  unfold Gr.to
  cases hf : G.isF (G.X t + dxOf d) (G.Y t + dyOf d) with
  | false => simp
  | true =>
    rw [Gr.isF_iff] at hf
    have := (Gr.at_lt h hf.1 hf.2.1 hf.2.2.1 hf.2.2.2.1).1
    rw [if_pos rfl]
    constructor
    · intro e; omega
    · intro e; cases e
theorem Gr.to_nat (h : G.Ok) (t d : Nat) (hn : G.to t d ≠ -1) : G.to t d = ((G.to t d).toNat : Int) ∧ (G.to t d).toNat = (G.at' (G.X t + dxOf d) (G.Y t + dyOf d)).toNat ∧ (G.to t d).toNat < G.fs.length := by
  have hf : G.isF (G.X t + dxOf d) (G.Y t + dyOf d) = true := by
    cases e : G.isF (G.X t + dxOf d) (G.Y t + dyOf d) with
    | true => rfl
    | false => exact absurd ((Gr.to_none h t d).2 e) hn
  have e : G.to t d = G.at' (G.X t + dxOf d) (G.Y t + dyOf d) := by unfold Gr.to; rw [if_pos hf]
  rw [Gr.isF_iff] at hf
  have := Gr.at_lt h hf.1 hf.2.1 hf.2.2.1 hf.2.2.2.1
  rw [e]
  omega
theorem Gr.sides (t d : Nat) (hd : d < 8) (ho : d % 2 = 1) : (G.isF (G.X t + dxOf (d - 1)) (G.Y t + dyOf (d - 1)) = true ∧ G.isF (G.X t + dxOf ((d + 1) % 8)) (G.Y t + dyOf ((d + 1) % 8)) = true) ↔ (G.isF (G.X t + dxOf d) (G.Y t) = true ∧ G.isF (G.X t) (G.Y t + dyOf d) = true) := by
  have : d = 1 ∨ d = 3 ∨ d = 5 ∨ d = 7 := by omega
  rcases this with rfl | rfl | rfl | rfl <;> simp [dxOf, dyOf, and_comm]
/-- A step, as the program finds it. -/
theorem Gr.go_to (h : G.Ok) (t d : Nat) (hf : G.free t = true) (hd : d < 8) : G.go t d = if G.to t d = -1 then none else if d % 2 = 0 then some ((G.to t d).toNat, 10) else if G.to t (d - 1) = -1 ∨ G.to t ((d + 1) % 8) = -1 then none else some ((G.to t d).toNat, 14) := by
  by_cases h1 : G.to t d = -1
  · rw [if_pos h1]
    rw [Gr.to_none h] at h1
    unfold Gr.go
    rw [if_neg (by rw [h1]; simp)]
  · obtain ⟨_, e, _⟩ := Gr.to_nat h t d h1
    rw [if_neg h1, e]
    have hF : G.isF (G.X t + dxOf d) (G.Y t + dyOf d) = true := by
      cases e : G.isF (G.X t + dxOf d) (G.Y t + dyOf d) with
      | true => rfl
      | false => exact absurd ((Gr.to_none h t d).2 e) h1
    unfold Gr.go
    rw [if_pos ⟨hf, hd, hF⟩]
    by_cases h2 : d % 2 = 0
    · rw [if_pos h2, if_pos h2]
    · rw [if_neg h2, if_neg h2]
      have := Gr.sides (G := G) t d hd (by omega)
      by_cases h3 : G.isF (G.X t + dxOf d) (G.Y t) = true ∧ G.isF (G.X t) (G.Y t + dyOf d) = true
      · rw [if_pos h3, if_neg]
        have := this.2 h3
        rw [Gr.to_none h, Gr.to_none h, this.1, this.2]
        simp
      · rw [if_neg h3, if_pos]
        have h4 := fun hh => h3 (this.1 hh)
        rw [Gr.to_none h, Gr.to_none h]
        cases a : G.isF (G.X t + dxOf (d - 1)) (G.Y t + dyOf (d - 1)) with
        | false => exact .inl rfl
        | true =>
          cases b : G.isF (G.X t + dxOf ((d + 1) % 8)) (G.Y t + dyOf ((d + 1) % 8)) with
          | false => exact .inr rfl
          | true => exact absurd ⟨a, b⟩ h4
end
/-- .. from any whole number. -/
def Gr.stepI (G : Gr) (t : Int) (d : Nat) : Option Gr.St := (G.goI t d).map fun p => ⟨d, p.1, p.2⟩
def Gr.aroundTo (G : Gr) (t : Int) (k : Nat) : List Gr.St := (List.range k).filterMap (G.stepI t)
def Gr.aroundI (G : Gr) (t : Int) : List Gr.St := G.aroundTo t 8
theorem Gr.aroundI_nat (G : Gr) (t : Nat) : G.aroundI t = G.around t := by
  have e : G.stepI (t : Int) = G.step t := funext fun d => by unfold Gr.stepI Gr.step; rw [Gr.goI_nat]
  unfold Gr.aroundI Gr.aroundTo Gr.around
  rw [e]
theorem Gr.aroundTo_none {G : Gr} {t : Int} {k : Nat} (h : G.goI t k = none) : G.aroundTo t (k + 1) = G.aroundTo t k := by
  unfold Gr.aroundTo
  rw [List.range_succ, List.filterMap_append]
  simp [Gr.stepI, h]
theorem Gr.aroundTo_some {G : Gr} {t : Int} {k u : Nat} {c : Int} (h : G.goI t k = some (u, c)) : G.aroundTo t (k + 1) = G.aroundTo t k ++ [⟨k, u, c⟩] := by
  unfold Gr.aroundTo
  rw [List.range_succ, List.filterMap_append]
  simp [Gr.stepI, h]
theorem Gr.aroundTo_len (G : Gr) (t : Int) (k : Nat) : (G.aroundTo t k).length ≤ k := by
  unfold Gr.aroundTo
  exact Nat.le_trans (List.length_filterMap_le _ _) (by simp)
end Go.Proofs.YtilobedihjkpjaaDoor
