/-
  Rows of jumps in plain Lean: all their tiles.
-/
import Derived.Test.YtdihnjhbopogoaaDoorDij
import Derived.Test.YtdihnjhbopogoaaDoorFol
namespace Go.Proofs.YtdihnjhbopogoaaDoor

/-- May a step in a direction be made, by columns and rows? -/
def okC (P : Int → Int → Bool) (x y : Int) (d : Nat) : Bool := P x y && P (x + dxOf d) (y + dyOf d) && (d % 2 == 0 || P (x + dxOf d) y && P x (y + dyOf d))
def wkC (P : Int → Int → Bool) : Int → Int → List Nat → Bool
  | _, _, [] => true
  | x, y, d :: l => decide (d < 8) && okC P x y d && wkC P (x + dxOf d) (y + dyOf d) l
def sumX (l : List Nat) : Int := (l.map dxOf).foldr (· + ·) 0
def sumY (l : List Nat) : Int := (l.map dyOf).foldr (· + ·) 0
/-- What directions cost; how many are diagonal; how late these stand. -/
def cst : List Nat → Nat
  | [] => 0
  | d :: l => (if d % 2 = 0 then 10 else 14) + cst l
def odds : List Nat → Nat
  | [] => 0
  | d :: l => d % 2 + odds l
def pen : List Nat → Nat
  | [] => 0
  | d :: l => (if d % 2 = 0 then odds l else 0) + pen l
/-- One row of directions is better than another one. -/
def Imp (l m : List Nat) : Prop := cst l < cst m ∨ (cst l = cst m ∧ l.length = m.length ∧ odds l = odds m ∧ pen l < pen m)

theorem cst_app (a b : List Nat) : cst (a ++ b) = cst a + cst b := by
  induction a with
  | nil => simp [cst]
  | cons d a ih => simp only [List.cons_append, cst, ih]; omega
theorem odds_app (a b : List Nat) : odds (a ++ b) = odds a + odds b := by
  induction a with
  | nil => simp [odds]
  | cons d a ih => simp only [List.cons_append, odds, ih]; omega
theorem odds_le (a : List Nat) : odds a ≤ a.length := by
  induction a with
  | nil => simp [odds]
  | cons d a ih => simp only [odds, List.length_cons]; omega
theorem pen_app (a b : List Nat) : pen (a ++ b) = pen a + (a.length - odds a) * odds b + pen b := by
  induction a with
  | nil => simp [pen, odds]
  | cons d a ih =>
    have h := odds_le a
    simp only [List.cons_append, pen, ih, odds, odds_app, List.length_cons]
    by_cases hd : d % 2 = 0
    · have e1 : a.length + 1 - (d % 2 + odds a) = (a.length - odds a) + 1 := by omega
      rw [e1, Nat.succ_mul]
      simp only [if_pos hd]
      omega
    · have e1 : a.length + 1 - (d % 2 + odds a) = a.length - odds a := by omega
      rw [e1]
      simp only [if_neg hd]
      omega
theorem Imp.cons {l m : List Nat} (d : Nat) (h : Imp l m) : Imp (d :: l) (d :: m) := by
  rcases h with h | ⟨h1, h2, h3, h4⟩
  · exact .inl (by simp only [cst]; omega)
  · refine .inr ⟨by simp only [cst]; omega, by simp only [List.length_cons]; omega, by simp only [odds]; omega, ?_⟩
    simp only [pen, h3]; omega
theorem Imp.app {l m : List Nat} (r : List Nat) (h : Imp l m) : Imp (l ++ r) (m ++ r) := by
  rcases h with h | ⟨h1, h2, h3, h4⟩
  · exact .inl (by rw [cst_app, cst_app]; omega)
  · refine .inr ⟨by rw [cst_app, cst_app]; omega, by simp only [List.length_append]; omega, by rw [odds_app, odds_app]; omega, ?_⟩
    rw [pen_app, pen_app, h2, h3]; omega

/-- Two steps behind each other: the same direction; a part of a diagonal one; one that had to turn; or there is a better way. -/
theorem two_c (P : Int → Int → Bool) (x y : Int) (d e : Nat) (hd : d < 8) (he : e < 8) (h1 : okC P x y d = true) (h2 : okC P (x + dxOf d) (y + dyOf d) e = true) :
    e = d ∨ (d % 2 = 1 ∧ (e = (d + 7) % 8 ∨ e = (d + 1) % 8)) ∨ (d % 2 = 0 ∧ ∃ s, (s = (d + 6) % 8 ∨ s = (d + 2) % 8) ∧ okC P (x + dxOf d) (y + dyOf d) s = true ∧ okC P x y s = false) ∨
    ∃ fs, wkC P x y fs = true ∧ sumX fs = dxOf d + dxOf e ∧ sumY fs = dyOf d + dyOf e ∧ Imp fs [d, e] := by
  have hd' : d = 0 ∨ d = 1 ∨ d = 2 ∨ d = 3 ∨ d = 4 ∨ d = 5 ∨ d = 6 ∨ d = 7 := by omega
  obtain ⟨k, hk, rfl⟩ : ∃ k, k < 8 ∧ e = (d + k) % 8 := ⟨(e + 8 - d) % 8, by omega, by omega⟩
  have hk' : k = 0 ∨ k = 1 ∨ k = 2 ∨ k = 3 ∨ k = 4 ∨ k = 5 ∨ k = 6 ∨ k = 7 := by omega
  clear hd he hk
  rcases hk' with rfl | rfl | rfl | rfl | rfl | rfl | rfl | rfl
  · exact .inl (by omega)
  · by_cases hp : d % 2 = 1
    · exact .inr (.inl ⟨hp, .inr rfl⟩)
    · by_cases hc : P (x + dxOf ((d + 2) % 8)) (y + dyOf ((d + 2) % 8)) = true
      · refine .inr (.inr (.inr ⟨[(d + 1) % 8, d], ?_⟩))
        rcases hd' with rfl | rfl | rfl | rfl | rfl | rfl | rfl | rfl <;> simp [okC, dxOf, dyOf, Int.add_assoc] at hp h1 h2 hc ⊢ <;> simp [wkC, okC, dxOf, dyOf, sumX, sumY, Imp, cst, odds, pen, Int.add_assoc, h1, h2, hc]
      · refine .inr (.inr (.inl ⟨by omega, (d + 2) % 8, .inr rfl, ?_⟩))
        rcases hd' with rfl | rfl | rfl | rfl | rfl | rfl | rfl | rfl <;> simp [okC, dxOf, dyOf, Int.add_assoc] at hp h1 h2 hc ⊢ <;> simp [h1, h2, hc]
  · by_cases hp : d % 2 = 1
    · refine .inr (.inr (.inr ⟨[(d + 1) % 8, (d + 1) % 8], ?_⟩))
      rcases hd' with rfl | rfl | rfl | rfl | rfl | rfl | rfl | rfl <;> simp [okC, dxOf, dyOf, Int.add_assoc] at hp h1 h2 ⊢ <;> simp [wkC, okC, dxOf, dyOf, sumX, sumY, Imp, cst, odds, pen, Int.add_assoc, h1, h2]
    · by_cases hc : P (x + dxOf ((d + 2) % 8)) (y + dyOf ((d + 2) % 8)) = true
      · refine .inr (.inr (.inr ⟨[(d + 1) % 8], ?_⟩))
        rcases hd' with rfl | rfl | rfl | rfl | rfl | rfl | rfl | rfl <;> simp [okC, dxOf, dyOf, Int.add_assoc] at hp h1 h2 hc ⊢ <;> simp [wkC, okC, dxOf, dyOf, sumX, sumY, Imp, cst, odds, pen, Int.add_assoc, h1, h2, hc]
      · refine .inr (.inr (.inl ⟨by omega, (d + 2) % 8, .inr rfl, ?_⟩))
        rcases hd' with rfl | rfl | rfl | rfl | rfl | rfl | rfl | rfl <;> simp [okC, dxOf, dyOf, Int.add_assoc] at hp h1 h2 hc ⊢ <;> simp [h1, h2, hc]
  · refine .inr (.inr (.inr ⟨[if d % 2 = 1 then (d + 1) % 8 else (d + 2) % 8], ?_⟩))
    rcases hd' with rfl | rfl | rfl | rfl | rfl | rfl | rfl | rfl <;> simp [okC, dxOf, dyOf, Int.add_assoc] at h1 h2 ⊢ <;> simp [wkC, okC, dxOf, dyOf, sumX, sumY, Imp, cst, odds, pen, Int.add_assoc, h1, h2]
  · refine .inr (.inr (.inr ⟨[], ?_⟩))
    rcases hd' with rfl | rfl | rfl | rfl | rfl | rfl | rfl | rfl <;> simp [wkC, dxOf, dyOf, sumX, sumY, Imp, cst]
  · refine .inr (.inr (.inr ⟨[if d % 2 = 1 then (d + 7) % 8 else (d + 6) % 8], ?_⟩))
    rcases hd' with rfl | rfl | rfl | rfl | rfl | rfl | rfl | rfl <;> simp [okC, dxOf, dyOf, Int.add_assoc] at h1 h2 ⊢ <;> simp [wkC, okC, dxOf, dyOf, sumX, sumY, Imp, cst, odds, pen, Int.add_assoc, h1, h2]
  · by_cases hp : d % 2 = 1
    · refine .inr (.inr (.inr ⟨[(d + 7) % 8, (d + 7) % 8], ?_⟩))
      rcases hd' with rfl | rfl | rfl | rfl | rfl | rfl | rfl | rfl <;> simp [okC, dxOf, dyOf, Int.add_assoc] at hp h1 h2 ⊢ <;> simp [wkC, okC, dxOf, dyOf, sumX, sumY, Imp, cst, odds, pen, Int.add_assoc, h1, h2]
    · by_cases hc : P (x + dxOf ((d + 6) % 8)) (y + dyOf ((d + 6) % 8)) = true
      · refine .inr (.inr (.inr ⟨[(d + 7) % 8], ?_⟩))
        rcases hd' with rfl | rfl | rfl | rfl | rfl | rfl | rfl | rfl <;> simp [okC, dxOf, dyOf, Int.add_assoc] at hp h1 h2 hc ⊢ <;> simp [wkC, okC, dxOf, dyOf, sumX, sumY, Imp, cst, odds, pen, Int.add_assoc, h1, h2, hc]
      · refine .inr (.inr (.inl ⟨by omega, (d + 6) % 8, .inl rfl, ?_⟩))
        rcases hd' with rfl | rfl | rfl | rfl | rfl | rfl | rfl | rfl <;> simp [okC, dxOf, dyOf, Int.add_assoc] at hp h1 h2 hc ⊢ <;> simp [h1, h2, hc]
  · by_cases hp : d % 2 = 1
    · exact .inr (.inl ⟨hp, .inl rfl⟩)
    · by_cases hc : P (x + dxOf ((d + 6) % 8)) (y + dyOf ((d + 6) % 8)) = true
      · refine .inr (.inr (.inr ⟨[(d + 7) % 8, d], ?_⟩))
        rcases hd' with rfl | rfl | rfl | rfl | rfl | rfl | rfl | rfl <;> simp [okC, dxOf, dyOf, Int.add_assoc] at hp h1 h2 hc ⊢ <;> simp [wkC, okC, dxOf, dyOf, sumX, sumY, Imp, cst, odds, pen, Int.add_assoc, h1, h2, hc]
      · refine .inr (.inr (.inl ⟨by omega, (d + 6) % 8, .inl rfl, ?_⟩))
        rcases hd' with rfl | rfl | rfl | rfl | rfl | rfl | rfl | rfl <;> simp [okC, dxOf, dyOf, Int.add_assoc] at hp h1 h2 hc ⊢ <;> simp [h1, h2, hc]

namespace Gr
variable (G : Gr)
/-- Where directions lead. -/
def wk : Nat → List Nat → Option Nat
  | t, [] => some t
  | t, d :: l => match G.go t d with
    | none => none
    | some (u, _) => wk u l
/-- Is the second of two tiles, come to by a straight step, one to turn at? -/
def forced (t u d : Nat) : Bool := ((G.go u ((d + 6) % 8)).isSome && (G.go t ((d + 6) % 8)).isNone) || ((G.go u ((d + 2) % 8)).isSome && (G.go t ((d + 2) % 8)).isNone)
/-- Is a tile beside the second free, and none beside the first? -/
def bes (f t s : Nat) : Bool := (G.go t s).isSome && (G.go f s).isNone
/-- Where a jump in a straight direction ends, within n steps. -/
def sj (goal : Int) : Nat → Nat → Nat → Option Nat
  | 0, _, _ => none
  | n + 1, t, d => match G.go t d with
    | none => none
    | some (u, _) => if (u : Int) = goal ∨ G.forced t u d = true then some u else sj goal n u d
/-- .. in a diagonal one. -/
def dj (goal : Int) : Nat → Nat → Nat → Option Nat
  | 0, _, _ => none
  | n + 1, t, d => match G.go t d with
    | none => none
    | some (u, _) => if (u : Int) = goal ∨ (G.sj goal 40 u ((d + 7) % 8)).isSome = true ∨ (G.sj goal 40 u ((d + 1) % 8)).isSome = true then some u else dj goal n u d
def jump (goal : Int) (t d : Nat) : Option Nat := if d % 2 = 0 then G.sj goal 40 t d else G.dj goal 40 t d
end Gr
section
variable {G : Gr}
theorem Gr.forced_bes {t u d : Nat} : G.forced t u d = (G.bes t u ((d + 6) % 8) || G.bes t u ((d + 2) % 8)) := rfl
theorem Gr.okC_of {t d u : Nat} {c : Int} (h : G.Ok) (hg : G.go t d = some (u, c)) : okC G.isF (G.X t) (G.Y t) d = true := by
  obtain ⟨h1, h2, h3, h4, h5, h6⟩ := Gr.go_some hg
  unfold okC
  rw [Gr.isF_self h h1, h3]
  by_cases hd : d % 2 = 0
  · simp [hd]
  · have := h6 (by omega)
    simp [this.1, this.2]
theorem Gr.of_okC {t d : Nat} (h : G.Ok) (hd : d < 8) (hk : okC G.isF (G.X t) (G.Y t) d = true) : ∃ u, G.go t d = some (u, if d % 2 = 0 then 10 else 14) := by
  unfold okC at hk
  simp only [Bool.and_eq_true, Bool.or_eq_true, beq_iff_eq] at hk
  obtain ⟨⟨h1, h2⟩, h3⟩ := hk
  have hf : G.free t = true := by
    rw [Gr.isF_iff] at h1
    have := h1.2.2.2.2
    rwa [(Gr.XY h t).2.2.2, Int.toNat_natCast] at this
  exact ⟨_, Gr.go_of hf hd h2 (fun ho => by rcases h3 with h3 | h3; omega; exact h3)⟩
theorem Gr.okC_iff {t d : Nat} (h : G.Ok) (hd : d < 8) : okC G.isF (G.X t) (G.Y t) d = (G.go t d).isSome := by
  cases hg : G.go t d with
  | none =>
    cases hk : okC G.isF (G.X t) (G.Y t) d with
    | false => rfl
    | true => obtain ⟨u, hu⟩ := Gr.of_okC h hd hk; rw [hg] at hu; cases hu
  | some p => rw [Gr.okC_of h (u := p.1) (c := p.2) hg]; rfl
theorem Gr.tile_eq (h : G.Ok) {a b : Nat} (h1 : G.X a = G.X b) (h2 : G.Y a = G.Y b) : a = b := by
  have ha := (Gr.XY h a).2.2.2
  have hb := (Gr.XY h b).2.2.2
  rw [h1, h2] at ha
  omega
theorem Gr.wk_of (h : G.Ok) : ∀ (l : List Nat) {t v : Nat}, wkC G.isF (G.X t) (G.Y t) l = true → G.X v = G.X t + sumX l → G.Y v = G.Y t + sumY l → G.wk t l = some v
  | [], t, v, _, h2, h3 => by
    simp [sumX, sumY] at h2 h3
    rw [Gr.tile_eq h h2 h3]; rfl
  | d :: l, t, v, h1, h2, h3 => by
    unfold wkC at h1
    simp only [Bool.and_eq_true, decide_eq_true_eq] at h1
    obtain ⟨⟨hd, hk⟩, hr⟩ := h1
    obtain ⟨u, hu⟩ := Gr.of_okC h hd hk
    obtain ⟨_, e2, e3⟩ := Gr.go_end h hu
    unfold Gr.wk
    rw [hu]
    rw [← e2, ← e3] at hr
    simp only [sumX, sumY, List.map_cons, List.foldr_cons] at h2 h3
    exact Gr.wk_of h l hr (by unfold sumX; omega) (by unfold sumY; omega)
/-- Two steps behind each other, by tiles. -/
theorem Gr.two (h : G.Ok) {t u v d e : Nat} {c c' : Int} (h1 : G.go t d = some (u, c)) (h2 : G.go u e = some (v, c')) :
    e = d ∨ (d % 2 = 1 ∧ (e = (d + 7) % 8 ∨ e = (d + 1) % 8)) ∨ (d % 2 = 0 ∧ G.forced t u d = true) ∨ ∃ fs, G.wk t fs = some v ∧ Imp fs [d, e] := by
  have hd := (Gr.go_some h1).2.1
  have he := (Gr.go_some h2).2.1
  obtain ⟨_, a2, a3⟩ := Gr.go_end h h1
  obtain ⟨_, b2, b3⟩ := Gr.go_end h h2
  have k2 := Gr.okC_of h h2
  rw [a2, a3] at k2
  rcases two_c G.isF _ _ d e hd he (Gr.okC_of h h1) k2 with hh | hh | ⟨h3, s, h4, h5, h6⟩ | ⟨fs, h3, h4, h5, h6⟩
  · exact .inl hh
  · exact .inr (.inl hh)
  · refine .inr (.inr (.inl ⟨h3, ?_⟩))
    have hs : s < 8 := by omega
    rw [← a2, ← a3, Gr.okC_iff h hs] at h5
    rw [Gr.okC_iff h hs] at h6
    unfold Gr.forced
    have h7 : (G.go t s).isNone = true := by rw [Option.isNone_iff_eq_none]; simpa using h6
    rcases h4 with rfl | rfl
    · rw [h5, h7]; rfl
    · rw [h5, h7]; simp
  · exact .inr (.inr (.inr ⟨fs, Gr.wk_of h fs h3 (by omega) (by omega), h6⟩))
theorem Gr.wk_app : ∀ (a : List Nat) {t u : Nat} (b : List Nat), G.wk t a = some u → G.wk t (a ++ b) = G.wk u b
  | [], t, u, b, h => by cases h; rfl
  | d :: a, t, u, b, h => by
    unfold Gr.wk at h
    rw [List.cons_append]
    conv => lhs; unfold Gr.wk
    cases hg : G.go t d with
    | none => rw [hg] at h; cases h
    | some p => rw [hg] at h; exact Gr.wk_app a b h

/-- A walk none of whose turns is better otherwise. -/
def Gr.Can (G : Gr) : Nat → List Nat → Prop
  | t, d :: e :: l => ∃ u c, G.go t d = some (u, c) ∧ (e = d ∨ (d % 2 = 1 ∧ (e = (d + 7) % 8 ∨ e = (d + 1) % 8)) ∨ (d % 2 = 0 ∧ G.forced t u d = true)) ∧ Gr.Can G u (e :: l)
  | _, _ => True
theorem Gr.can_or (h : G.Ok) : ∀ (l : List Nat) {t v : Nat}, G.wk t l = some v → Gr.Can G t l ∨ ∃ l', G.wk t l' = some v ∧ Imp l' l
  | [], _, _, _ => .inl trivial
  | [d], _, _, _ => .inl trivial
  | d :: e :: l, t, v, hw => by
    unfold Gr.wk at hw
    cases hg : G.go t d with
    | none => rw [hg] at hw; cases hw
    | some p =>
      obtain ⟨u, c⟩ := p
      rw [hg] at hw
      simp only at hw
      have hw0 := hw
      rcases Gr.can_or h (e :: l) hw with hc | ⟨l', h1, h2⟩
      · unfold Gr.wk at hw
        cases hg2 : G.go u e with
        | none => rw [hg2] at hw; cases hw
        | some q =>
          obtain ⟨v1, c1⟩ := q
          rw [hg2] at hw
          simp only at hw
          rcases Gr.two h hg hg2 with hh | hh | hh | ⟨fs, h1, h2⟩
          · exact .inl ⟨u, c, hg, .inl hh, hc⟩
          · exact .inl ⟨u, c, hg, .inr (.inl hh), hc⟩
          · exact .inl ⟨u, c, hg, .inr (.inr hh), hc⟩
          · exact .inr ⟨fs ++ l, by rw [Gr.wk_app fs l h1]; exact hw, h2.app l⟩
      · exact .inr ⟨d :: l', by unfold Gr.wk; rw [hg]; exact h1, h2.cons d⟩

/-- The first jump of such a walk in a straight direction ends on it. -/
theorem Gr.sj_on (_ : G.Ok) {goal : Nat} : ∀ (l : List Nat) {t d : Nat} (n : Nat), d % 2 = 0 → G.wk t (d :: l) = some goal → Gr.Can G t (d :: l) → l.length < n → ∃ j r u, 1 ≤ j ∧ d :: l = List.replicate j d ++ r ∧ G.sj goal n t d = some u ∧ G.wk t (List.replicate j d) = some u ∧ G.wk u r = some goal
  | l, t, d, 0, _, _, _, hn => by omega
  | l, t, d, n + 1, hd, hw, hc, hn => by
    unfold Gr.wk at hw
    cases hg : G.go t d with
    | none => rw [hg] at hw; cases hw
    | some p =>
      obtain ⟨u, c⟩ := p
      rw [hg] at hw
      simp only at hw
      have hone : G.wk t (List.replicate 1 d) = some u := by simp [List.replicate, Gr.wk, hg]
      unfold Gr.sj
      rw [hg]
      simp only
      by_cases hs : (u : Int) = (goal : Int) ∨ G.forced t u d = true
      · rw [if_pos hs]
        exact ⟨1, l, u, Nat.le_refl _, rfl, rfl, hone, hw⟩
      · rw [if_neg hs]
        match l with
        | [] =>
          unfold Gr.wk at hw
          cases hw
          exact absurd (.inl rfl) hs
        | e :: l =>
          obtain ⟨u', c', hg', ht, hc'⟩ := hc
          rw [hg] at hg'
          cases hg'
          have he : e = d := by
            rcases ht with ht | ht | ht
            · exact ht
            · omega
            · exact absurd (.inr ht.2) hs
          subst he
          obtain ⟨j, r, z, h1, h2, h3, h4, h5⟩ := Gr.sj_on ‹_› l n hd hw hc' (by simpa using hn)
          refine ⟨j + 1, r, z, by omega, by rw [h2]; rfl, h3, ?_, h5⟩
          rw [List.replicate_succ]
          unfold Gr.wk
          rw [hg]
          exact h4
/-- .. and in a diagonal one. -/
theorem Gr.dj_on (hG : G.Ok) {goal : Nat} : ∀ (l : List Nat) {t d : Nat} (n : Nat), d % 2 = 1 → G.wk t (d :: l) = some goal → Gr.Can G t (d :: l) → l.length < n → (∀ (l' : List Nat) {u e : Nat}, e % 2 = 0 → G.wk u (e :: l') = some goal → Gr.Can G u (e :: l') → (G.sj goal 40 u e).isSome = true) → ∃ j r u, 1 ≤ j ∧ d :: l = List.replicate j d ++ r ∧ G.dj goal n t d = some u ∧ G.wk t (List.replicate j d) = some u ∧ G.wk u r = some goal
  | l, t, d, 0, _, _, _, hn, _ => by omega
  | l, t, d, n + 1, hd, hw, hc, hn, hsj => by
    unfold Gr.wk at hw
    cases hg : G.go t d with
    | none => rw [hg] at hw; cases hw
    | some p =>
      obtain ⟨u, c⟩ := p
      rw [hg] at hw
      simp only at hw
      have hone : G.wk t (List.replicate 1 d) = some u := by simp [List.replicate, Gr.wk, hg]
      unfold Gr.dj
      rw [hg]
      simp only
      by_cases hs : (u : Int) = (goal : Int) ∨ (G.sj goal 40 u ((d + 7) % 8)).isSome = true ∨ (G.sj goal 40 u ((d + 1) % 8)).isSome = true
      · rw [if_pos hs]
        exact ⟨1, l, u, Nat.le_refl _, rfl, rfl, hone, hw⟩
      · rw [if_neg hs]
        match l with
        | [] =>
          unfold Gr.wk at hw
          cases hw
          exact absurd (.inl rfl) hs
        | e :: l =>
          obtain ⟨u', c', hg', ht, hc'⟩ := hc
          rw [hg] at hg'
          cases hg'
          have he : e = d := by
            rcases ht with ht | ⟨_, ht | ht⟩ | ht
            · exact ht
            · subst ht; exact absurd (.inr (.inl (hsj l (by omega) hw hc'))) hs
            · subst ht; exact absurd (.inr (.inr (hsj l (by omega) hw hc'))) hs
            · omega
          subst he
          obtain ⟨j, r, z, h1, h2, h3, h4, h5⟩ := Gr.dj_on hG l n hd hw hc' (by simpa using hn) hsj
          refine ⟨j + 1, r, z, by omega, by rw [h2]; rfl, h3, ?_, h5⟩
          rw [List.replicate_succ]
          unfold Gr.wk
          rw [hg]
          exact h4
end

/-- How many steps there may be in a direction. -/
def Gr.room (G : Gr) (t d : Nat) : Nat := if dxOf d = 1 then (G.W - 1 - G.X t).toNat else if dxOf d = -1 then (G.X t).toNat else if dyOf d = 1 then (G.H - 1 - G.Y t).toNat else (G.Y t).toNat
section
variable {G : Gr}
theorem Gr.go_room (h : G.Ok) {t d u : Nat} {c : Int} (hg : G.go t d = some (u, c)) : G.room t d = G.room u d + 1 := by
  obtain ⟨e1, e2, e3⟩ := Gr.go_end h hg
  obtain ⟨f1, f2, _, _, _, _⟩ := Gr.go_some hg
  obtain ⟨a1, a2, a3, _⟩ := Gr.XY h t
  obtain ⟨b1, b2, b3, _⟩ := Gr.XY h u
  have a4 := Gr.Yin h (Gr.free_in f1)
  have b4 := Gr.Yin h (Gr.free_in e1)
  have hd' : d = 0 ∨ d = 1 ∨ d = 2 ∨ d = 3 ∨ d = 4 ∨ d = 5 ∨ d = 6 ∨ d = 7 := by omega
  unfold Gr.room
  rcases hd' with rfl | rfl | rfl | rfl | rfl | rfl | rfl | rfl <;> simp [dxOf, dyOf] at e2 e3 ⊢ <;> omega
theorem Gr.room_le (h : G.Ok) {t : Nat} (ht : G.free t = true) (d : Nat) : G.room t d ≤ 31 := by
  obtain ⟨a1, a2, a3, _⟩ := Gr.XY h t
  have a4 := Gr.Yin h (Gr.free_in ht)
  have := h.w2; have := h.h2
  unfold Gr.room
  split
  · omega
  · split
    · omega
    · split <;> omega
theorem Gr.sj_fuel (h : G.Ok) {goal : Int} {d : Nat} : ∀ (n m t : Nat), G.room t d ≤ n → G.room t d ≤ m → G.sj goal n t d = G.sj goal m t d
  | 0, 0, _, _, _ => rfl
  | 0, m + 1, t, h1, _ => by
    unfold Gr.sj
    cases hg : G.go t d with
    | none => rfl
    | some p => have := Gr.go_room h (u := p.1) (c := p.2) hg; omega
  | n + 1, 0, t, _, h2 => by
    unfold Gr.sj
    cases hg : G.go t d with
    | none => rfl
    | some p => have := Gr.go_room h (u := p.1) (c := p.2) hg; omega
  | n + 1, m + 1, t, h1, h2 => by
    unfold Gr.sj
    cases hg : G.go t d with
    | none => rfl
    | some p =>
      have := Gr.go_room h (u := p.1) (c := p.2) hg
      simp only
      rw [Gr.sj_fuel h n m p.1 (by omega) (by omega)]
theorem Gr.dj_fuel (h : G.Ok) {goal : Int} {d : Nat} : ∀ (n m t : Nat), G.room t d ≤ n → G.room t d ≤ m → G.dj goal n t d = G.dj goal m t d
  | 0, 0, _, _, _ => rfl
  | 0, m + 1, t, h1, _ => by
    unfold Gr.dj
    cases hg : G.go t d with
    | none => rfl
    | some p => have := Gr.go_room h (u := p.1) (c := p.2) hg; omega
  | n + 1, 0, t, _, h2 => by
    unfold Gr.dj
    cases hg : G.go t d with
    | none => rfl
    | some p => have := Gr.go_room h (u := p.1) (c := p.2) hg; omega
  | n + 1, m + 1, t, h1, h2 => by
    unfold Gr.dj
    cases hg : G.go t d with
    | none => rfl
    | some p =>
      have := Gr.go_room h (u := p.1) (c := p.2) hg
      simp only
      rw [Gr.dj_fuel h n m p.1 (by omega) (by omega)]
theorem Gr.jump_go {goal : Int} {t d u : Nat} (h : G.jump goal t d = some u) : ∃ v c, G.go t d = some (v, c) := by
  unfold Gr.jump at h
  split at h
  · unfold Gr.sj at h
    cases hg : G.go t d with
    | none => rw [hg] at h; cases h
    | some p => exact ⟨p.1, p.2, rfl⟩
  · unfold Gr.dj at h
    cases hg : G.go t d with
    | none => rw [hg] at h; cases h
    | some p => exact ⟨p.1, p.2, rfl⟩
/-- How a jump goes on behind its first step. -/
theorem Gr.jump_step (h : G.Ok) {goal : Int} {t d v : Nat} {c : Int} (hg : G.go t d = some (v, c)) : G.jump goal t d = if (v : Int) = goal ∨ (d % 2 = 0 ∧ G.forced t v d = true) ∨ (d % 2 = 1 ∧ ((G.jump goal v ((d + 7) % 8)).isSome = true ∨ (G.jump goal v ((d + 1) % 8)).isSome = true)) then some v else G.jump goal v d := by
  have hr := Gr.go_room h hg
  have hl := Gr.room_le h (Gr.go_some hg).1 d
  unfold Gr.jump
  by_cases hd : d % 2 = 0
  · rw [if_pos hd]
    conv => lhs; unfold Gr.sj
    rw [hg]
    simp only [hd, true_and, show ¬ (0 : Nat) = 1 by omega, false_and, or_false, if_true]
    rw [Gr.sj_fuel h 39 40 v (by omega) (by omega)]
  · have hd1 : d % 2 = 1 := by omega
    rw [if_neg hd, if_pos (show (d + 7) % 8 % 2 = 0 by omega), if_pos (show (d + 1) % 8 % 2 = 0 by omega)]
    conv => lhs; unfold Gr.dj
    rw [hg]
    simp only [hd1, true_and, show ¬ (1 : Nat) = 0 by omega, false_and, false_or, if_false]
    rw [Gr.dj_fuel h 39 40 v (by omega) (by omega)]
theorem Gr.jump_stop (h : G.Ok) {goal : Int} {t d v : Nat} {c : Int} (hg : G.go t d = some (v, c)) (hs : (v : Int) = goal ∨ (d % 2 = 0 ∧ G.forced t v d = true) ∨ (d % 2 = 1 ∧ ((G.jump goal v ((d + 7) % 8)).isSome = true ∨ (G.jump goal v ((d + 1) % 8)).isSome = true))) : G.jump goal t d = some v := by
  rw [Gr.jump_step h hg, if_pos hs]
theorem Gr.jump_on (h : G.Ok) {goal : Int} {t d v : Nat} {c : Int} (hg : G.go t d = some (v, c)) (hs : ¬ ((v : Int) = goal ∨ (d % 2 = 0 ∧ G.forced t v d = true) ∨ (d % 2 = 1 ∧ ((G.jump goal v ((d + 7) % 8)).isSome = true ∨ (G.jump goal v ((d + 1) % 8)).isSome = true)))) : G.jump goal t d = G.jump goal v d := by
  rw [Gr.jump_step h hg, if_neg hs]
theorem Gr.jump_none {goal : Int} {t d : Nat} (hg : G.go t d = none) : G.jump goal t d = none := by
  unfold Gr.jump
  split
  · unfold Gr.sj; rw [hg]
  · unfold Gr.dj; rw [hg]
/-- A jump is a row of steps in its direction. -/
theorem Gr.jump_line (h : G.Ok) {goal : Int} {d u : Nat} : ∀ (n : Nat) {t : Nat}, G.room t d ≤ n → G.jump goal t d = some u → ∃ j, 1 ≤ j ∧ G.wk t (List.replicate j d) = some u := by
  intro n
  induction n with
  | zero =>
    intro t hr hj
    obtain ⟨v, c, hg⟩ := Gr.jump_go hj
    have := Gr.go_room h hg; omega
  | succ n ih =>
    intro t hr hj
    obtain ⟨v, c, hg⟩ := Gr.jump_go hj
    have hr' := Gr.go_room h hg
    rw [Gr.jump_step h hg] at hj
    split at hj
    · cases hj
      exact ⟨1, Nat.le_refl _, by simp [List.replicate, Gr.wk, hg]⟩
    · obtain ⟨j, h1, h2⟩ := ih (by omega) hj
      exact ⟨j + 1, by omega, by rw [List.replicate_succ]; unfold Gr.wk; rw [hg]; exact h2⟩
theorem Gr.line (h : G.Ok) {d u : Nat} : ∀ (j : Nat) {t : Nat}, G.wk t (List.replicate j d) = some u → G.X u = G.X t + j * dxOf d ∧ G.Y u = G.Y t + j * dyOf d ∧ (1 ≤ j → d < 8 ∧ G.free t = true ∧ G.free u = true)
  | 0, t, hw => by cases hw; simp
  | j + 1, t, hw => by
    rw [List.replicate_succ] at hw
    unfold Gr.wk at hw
    cases hg : G.go t d with
    | none => rw [hg] at hw; cases hw
    | some p =>
      obtain ⟨v, c⟩ := p
      rw [hg] at hw
      obtain ⟨a1, a2, a3⟩ := Gr.line h j hw
      obtain ⟨b1, b2, b3⟩ := Gr.go_end h hg
      obtain ⟨f1, f2, _⟩ := Gr.go_some hg
      refine ⟨by rw [a1, b2, Int.natCast_add, Int.add_mul]; omega, by rw [a2, b3, Int.natCast_add, Int.add_mul]; omega, fun _ => ⟨f2, f1, ?_⟩⟩
      by_cases hj : 1 ≤ j
      · exact (a3 hj).2.2
      · obtain rfl : j = 0 := by omega
        cases hw; exact b1
theorem Gr.line_guess (h : G.Ok) {d u j t : Nat} (hw : G.wk t (List.replicate j d) = some u) (hj : 1 ≤ j) : G.guess t u = j * (if d % 2 = 0 then 10 else 14) ∧ t ≠ u := by
  obtain ⟨a1, a2, a3⟩ := Gr.line h j hw
  obtain ⟨hd, _, _⟩ := a3 hj
  have hd' : d = 0 ∨ d = 1 ∨ d = 2 ∨ d = 3 ∨ d = 4 ∨ d = 5 ∨ d = 6 ∨ d = 7 := by omega
  have hne : G.X t ≠ G.X u ∨ G.Y t ≠ G.Y u := by
    rcases hd' with rfl | rfl | rfl | rfl | rfl | rfl | rfl | rfl <;> simp [dxOf, dyOf] at a1 a2 <;> omega
  refine ⟨?_, fun e => by subst e; rcases hne with h | h <;> exact h rfl⟩
  unfold Gr.guess
  rcases hd' with rfl | rfl | rfl | rfl | rfl | rfl | rfl | rfl <;> simp [dxOf, dyOf] at a1 a2 ⊢ <;> omega
theorem Gr.rep_to (h : G.Ok) {d u : Nat} {gs : List Nat} : ∀ (j : Nat) {t : Nat} {k : Int}, G.wk t (List.replicate j d) = some u → Gr.To G gs u k → Gr.To G gs t (j * (if d % 2 = 0 then 10 else 14) + k)
  | 0, t, k, hw, hT => by cases hw; simpa using hT
  | j + 1, t, k, hw, hT => by
    rw [List.replicate_succ] at hw
    unfold Gr.wk at hw
    cases hg : G.go t d with
    | none => rw [hg] at hw; cases hw
    | some p =>
      obtain ⟨v, c⟩ := p
      rw [hg] at hw
      have := Gr.To.step hg (Gr.rep_to h j hw hT)
      have hc := (Gr.go_some hg).2.2.2.2.1
      have e : ((j + 1 : Nat) : Int) * (if d % 2 = 0 then 10 else 14) + k = c + ((j : Int) * (if d % 2 = 0 then 10 else 14) + k) := by
        rw [hc]; split <;> omega
      rw [e]; exact this
theorem Gr.jump_to (h : G.Ok) {goal : Int} {gs : List Nat} {t d u : Nat} {k : Int} (hj : G.jump goal t d = some u) (hT : Gr.To G gs u k) : Gr.To G gs t (G.guess t u + k) := by
  obtain ⟨j, h1, h2⟩ := Gr.jump_line h _ (Nat.le_refl _) hj
  rw [(Gr.line_guess h h2 h1).1]
  exact Gr.rep_to h j h2 hT
theorem Gr.jump_ne (h : G.Ok) {goal : Int} {t d u : Nat} (hj : G.jump goal t d = some u) : t ≠ u ∧ 10 ≤ G.guess t u ∧ d < 8 ∧ G.free t = true ∧ G.free u = true := by
  obtain ⟨j, h1, h2⟩ := Gr.jump_line h _ (Nat.le_refl _) hj
  obtain ⟨e1, e2⟩ := Gr.line_guess h h2 h1
  obtain ⟨_, _, e3⟩ := Gr.line h j h2
  refine ⟨e2, ?_, e3 h1⟩
  rw [e1]; split <;> omega

/-- A row of jumps to the goal. -/
inductive Gr.JTo (G : Gr) (goal : Nat) : Nat → Int → Prop
  | done : G.free goal = true → Gr.JTo G goal goal 0
  | step {t d u : Nat} {k : Int} : G.jump goal t d = some u → Gr.JTo G goal u k → Gr.JTo G goal t (G.guess t u + k)
theorem Gr.JTo.guess (h : G.Ok) {goal t : Nat} {k : Int} (hj : Gr.JTo G goal t k) : G.guess t goal ≤ k := by
  induction hj with
  | done _ => rw [Gr.guess_self]; exact Int.le_refl _
  | @step t d u k _ _ ih => have := Gr.guess_tri (G := G) t u goal; omega
theorem Gr.JTo.to (h : G.Ok) {goal t : Nat} {k : Int} (hj : Gr.JTo G goal t k) : Gr.To G [goal] t k := by
  induction hj with
  | done hf => exact .goal (by simp) hf
  | step hj _ ih => exact Gr.jump_to h hj ih
theorem Gr.cst_wk {t v : Nat} : ∀ (l : List Nat), 10 * l.length ≤ cst l := by
  intro l
  induction l with
  | nil => simp
  | cons d l ih => simp only [cst, List.length_cons]; split <;> omega
theorem Gr.Can.app (_ : G.Ok) : ∀ (a : List Nat) {t u : Nat} {b : List Nat}, G.wk t a = some u → Gr.Can G t (a ++ b) → Gr.Can G u b
  | [], t, u, b, hw, hc => by cases hw; exact hc
  | d :: a, t, u, b, hw, hc => by
    unfold Gr.wk at hw
    cases hg : G.go t d with
    | none => rw [hg] at hw; cases hw
    | some p =>
      obtain ⟨v, c⟩ := p
      rw [hg] at hw
      simp only at hw
      match a, b, hw, hc with
      | [], [], hw, hc => trivial
      | [], e :: b, hw, hc =>
        obtain ⟨v', c', hg', _, hc'⟩ := hc
        rw [hg] at hg'; cases hg'
        cases hw; exact hc'
      | e :: a, b, hw, hc =>
        obtain ⟨v', c', hg', _, hc'⟩ := hc
        rw [hg] at hg'; cases hg'
        exact Gr.Can.app ‹_› (e :: a) hw hc'
/-- To each walk there is one by jumps that costs no more. -/
theorem Gr.jto_of (h : G.Ok) {goal : Nat} (hf : G.free goal = true) : ∀ (n m : Nat) (l : List Nat) {t : Nat}, cst l ≤ n → pen l ≤ m → G.wk t l = some goal → ∃ k : Int, k ≤ cst l ∧ Gr.JTo G goal t k := by
  intro n
  induction n with
  | zero =>
    intro m l t hn _ hw
    match l with
    | [] => cases hw; exact ⟨0, by simp [cst], .done hf⟩
    | d :: l => simp only [cst] at hn; split at hn <;> omega
  | succ n ihn =>
    intro m
    induction m with
    | zero =>
      intro l t hn hm hw
      rcases Gr.can_or h l hw with hc | ⟨l', h1, h2 | ⟨_, _, _, h2⟩⟩
      · exact first h hf ihn l hn hw hc
      · obtain ⟨k, k1, k2⟩ := ihn _ l' (by omega) (Nat.le_refl _) h1
        exact ⟨k, by omega, k2⟩
      · omega
    | succ m ihm =>
      intro l t hn hm hw
      rcases Gr.can_or h l hw with hc | ⟨l', h1, h2 | ⟨e1, _, _, h2⟩⟩
      · exact first h hf ihn l hn hw hc
      · obtain ⟨k, k1, k2⟩ := ihn _ l' (by omega) (Nat.le_refl _) h1
        exact ⟨k, by omega, k2⟩
      · obtain ⟨k, k1, k2⟩ := ihm l' (by omega) (by omega) h1
        exact ⟨k, by omega, k2⟩
where
  first (h : G.Ok) {goal : Nat} (hf : G.free goal = true) {n : Nat} (ihn : ∀ (m : Nat) (l : List Nat) {t : Nat}, cst l ≤ n → pen l ≤ m → G.wk t l = some goal → ∃ k : Int, k ≤ cst l ∧ Gr.JTo G goal t k) (l : List Nat) {t : Nat} (hn : cst l ≤ n + 1) (hw : G.wk t l = some goal) (hc : Gr.Can G t l) : ∃ k : Int, k ≤ cst l ∧ Gr.JTo G goal t k := by
    match l with
    | [] => cases hw; exact ⟨0, by simp [cst], .done hf⟩
    | d :: l =>
      have hS : ∀ (l' : List Nat) {u e : Nat}, e % 2 = 0 → G.wk u (e :: l') = some goal → Gr.Can G u (e :: l') → ∃ j r z, 1 ≤ j ∧ e :: l' = List.replicate j e ++ r ∧ G.sj goal 40 u e = some z ∧ G.wk u (List.replicate j e) = some z ∧ G.wk z r = some goal := by
        intro l' u e he hw' hc'
        obtain ⟨j, r, z, h1, h2, h3, h4, h5⟩ := Gr.sj_on h l' (l'.length + 40) he hw' hc' (by omega)
        refine ⟨j, r, z, h1, h2, ?_, h4, h5⟩
        have hfu := ((Gr.line h j h4).2.2 h1).2.1
        have := Gr.room_le h hfu e
        rw [Gr.sj_fuel h 40 (l'.length + 40) u (by omega) (by omega)]
        exact h3
      have key : ∃ j r z, 1 ≤ j ∧ d :: l = List.replicate j d ++ r ∧ G.jump goal t d = some z ∧ G.wk t (List.replicate j d) = some z ∧ G.wk z r = some goal := by
        unfold Gr.jump
        by_cases hd : d % 2 = 0
        · rw [if_pos hd]
          exact hS l hd hw hc
        · rw [if_neg hd]
          obtain ⟨j, r, z, h1, h2, h3, h4, h5⟩ := Gr.dj_on h l (l.length + 40) (by omega) hw hc (by omega) (fun l' u e he hw' hc' => by
            obtain ⟨j, r, z, _, _, h3, _, _⟩ := hS l' he hw' hc'
            rw [h3]; rfl)
          refine ⟨j, r, z, h1, h2, ?_, h4, h5⟩
          have hfu := ((Gr.line h j h4).2.2 h1).2.1
          have := Gr.room_le h hfu d
          rw [Gr.dj_fuel h 40 (l.length + 40) t (by omega) (by omega)]
          exact h3
      obtain ⟨j, r, z, h1, h2, h3, h4, h5⟩ := key
      have hrep : ∀ j : Nat, (cst (List.replicate j d) : Int) = j * (if d % 2 = 0 then 10 else 14) := by
        intro j
        induction j with
        | zero => simp [cst]
        | succ j ih =>
          rw [List.replicate_succ]
          simp only [cst]
          split at ih <;> split <;> omega
      have hlen := Gr.cst_wk (t := 0) (v := 0) (List.replicate j d)
      rw [List.length_replicate] at hlen
      have hcs : cst (d :: l) = cst (List.replicate j d) + cst r := by rw [h2, cst_app]
      obtain ⟨k, k1, k2⟩ := ihn _ r (by omega) (Nat.le_refl _) h5
      refine ⟨G.guess t z + k, ?_, .step h3 k2⟩
      have := hrep j
      rw [(Gr.line_guess h h4 h1).1, hcs, Int.natCast_add, this]
      omega
theorem Gr.To.wk {gs : List Nat} {t : Nat} {k : Int} (hT : Gr.To G gs t k) : ∃ l g, g ∈ gs ∧ G.free g = true ∧ G.wk t l = some g ∧ (cst l : Int) = k := by
  induction hT with
  | @goal t h1 h2 => exact ⟨[], t, h1, h2, rfl, rfl⟩
  | @step t d u c k hg _ ih =>
    obtain ⟨l, g, h1, h2, h3, h4⟩ := ih
    refine ⟨d :: l, g, h1, h2, by unfold Gr.wk; rw [hg]; exact h3, ?_⟩
    have hc := (Gr.go_some hg).2.2.2.2.1
    simp only [cst]
    rw [hc]
    split <;> omega
theorem Gr.To.jto (h : G.Ok) {goal t : Nat} {k : Int} (hT : Gr.To G [goal] t k) : ∃ k', k' ≤ k ∧ Gr.JTo G goal t k' := by
  obtain ⟨l, g, h1, h2, h3, h4⟩ := hT.wk
  simp only [List.mem_singleton] at h1
  subst h1
  obtain ⟨k', h5, h6⟩ := Gr.jto_of h h2 _ _ l (Nat.le_refl _) (Nat.le_refl _) h3
  exact ⟨k', by omega, h6⟩
end
end Go.Proofs.YtdihnjhbopogoaaDoor
namespace Go.Proofs.YtdihnjhbopogoaaDoor

/-- The search's state: D's tiles are gone from (P: in which of their directions), the entries es wait. -/
structure Ast (G : Gr) (s goal : Nat) (P : Nat → Nat → Prop) (c fr : List Int) (es : List (Int × Int)) (D : List Nat) (m : Int) : Prop where
  len : c.length = G.fs.length
  lenf : fr.length = G.fs.length
  low : ∀ t, cAt c t = -1 ∨ 0 ≤ cAt c t
  real : ∀ t, 0 ≤ cAt c t → Gr.To G [t] s (cAt c t)
  start : cAt c s = 0 ∧ cAt fr s = -1
  come : ∀ t, t ≠ s → 0 ≤ cAt c t → ∃ p d : Nat, cAt fr t = (p : Int) ∧ p ∈ D ∧ G.jump goal p d = some t ∧ cAt c t = cAt c p + G.guess p t
  nodD : D.Nodup
  inD : ∀ t ∈ D, 0 ≤ cAt c t ∧ cAt c t + G.guess t goal ≤ m
  noG : goal ∉ D
  rel : ∀ t ∈ D, ∀ d u, P t d → G.jump goal t d = some u → 0 ≤ cAt c u ∧ cAt c u ≤ cAt c t + G.guess t u
  pend : ∀ t, t ∉ D → 0 ≤ cAt c t → (cAt c t + G.guess t goal, (t : Int)) ∈ es
  ent : ∀ e ∈ es, m ≤ e.1 ∧ ∃ t : Nat, e.2 = (t : Int) ∧ 0 ≤ cAt c t ∧ cAt c t + G.guess t goal ≤ e.1 ∧ (t ∈ D → cAt c t + G.guess t goal < e.1)
  nod : es.Nodup

section
variable {G : Gr} {s goal : Nat} {P : Nat → Nat → Prop} {c fr : List Int} {es es' : List (Int × Int)} {D : List Nat} {m : Int}
theorem Ast.perm (h : Ast G s goal P c fr es D m) (hp : es'.Perm es) : Ast G s goal P c fr es' D m :=
  ⟨h.len, h.lenf, h.low, h.real, h.start, h.come, h.nodD, h.inD, h.noG, h.rel, fun t h1 h2 => hp.mem_iff.2 (h.pend t h1 h2), fun e he => h.ent e (hp.mem_iff.1 he), hp.nodup_iff.2 h.nod⟩
theorem Ast.begin {c0 fr0 : List Int} (hs : G.free s = true) (hl : c0.length = G.fs.length) (hlf : fr0.length = G.fs.length) (h : ∀ t, cAt c0 t = -1) (_ : ∀ t, cAt fr0 t = -1) :
    Ast G s goal P (c0.set s 0) (fr0.set s (-1)) [(0 + G.guess s goal, (s : Int))] [] 0 := by
  have hsl := Gr.free_in hs
  have hc := fun u => cAt_set c0 s u 0 (by omega)
  have hf := fun u => cAt_set fr0 s u (-1) (by omega)
  have hg := Gr.guess_nonneg (G := G) s goal
  refine ⟨by simpa using hl, by simpa using hlf, fun t => ?_, fun t => ?_, ⟨by rw [hc, if_pos rfl], by rw [hf, if_pos rfl]⟩, fun t hne h0 => ?_, List.nodup_nil, by simp, by simp, by simp, fun t _ h0 => ?_, fun e he => ?_, by simp⟩
  · rw [hc, h]; split
    · exact .inr (Int.le_refl _)
    · exact .inl rfl
  · rw [hc, h]; split
    · rename_i e; subst e; exact fun _ => .goal (by simp) hs
    · intro h0; omega
  · rw [hc, h, if_neg (fun e => hne e.symm)] at h0; omega
  · rw [hc, h] at h0 ⊢
    split at h0
    · rename_i e; subst e; simp
    · omega
  · simp only [List.mem_singleton] at he
    subst he
    refine ⟨by simp only; omega, s, rfl, ?_⟩
    rw [hc, if_pos rfl]
    exact ⟨Int.le_refl _, Int.le_refl _, by simp⟩
/-- A tile is reached at less. -/
theorem Ast.reach (hG : G.Ok) (h : Ast G s goal P c fr es D m) {t d u : Nat} (hP : ¬ P t d ∨ True) (ht : t ∈ D) (hm : cAt c t + G.guess t goal = m) (hj : G.jump goal t d = some u) (hlt : cAt c u = -1 ∨ cAt c t + G.guess t u < cAt c u) :
    u ∉ D ∧ u < G.fs.length ∧ u ≠ s ∧ Ast G s goal P (c.set u (cAt c t + G.guess t u)) (fr.set u (t : Int)) (es ++ [(cAt c t + G.guess t u + G.guess u goal, (u : Int))]) D m ∧ cAt (c.set u (cAt c t + G.guess t u)) t = cAt c t := by
  obtain ⟨hne, h10, hd, hft, hfu⟩ := Gr.jump_ne hG hj
  have hul := Gr.free_in hfu
  have ht0 := (h.inD t ht).1
  have htri := Gr.guess_tri (G := G) t u goal
  have huD : u ∉ D := fun hd => by have := h.inD _ hd; omega
  have hus : u ≠ s := fun e => by subst e; have := h.start.1; omega
  have hk : 0 ≤ cAt c t + G.guess t u := by omega
  have hs := fun v => cAt_set c u v (cAt c t + G.guess t u) (by rw [h.len]; exact hul)
  have hf := fun v => cAt_set fr u v (t : Int) (by rw [h.lenf]; exact hul)
  have hst : ¬ u = t := fun e => hne e.symm
  refine ⟨huD, hul, hus, ⟨by simpa using h.len, by simpa using h.lenf, fun v => ?_, fun v => ?_, ?_, fun v hv => ?_, h.nodD, fun v hv => ?_, h.noG, fun v hv e z hp hz => ?_, fun v hv => ?_, fun e he => ?_, ?_⟩, by rw [hs, if_neg hst]⟩
  · rw [hs]; split
    · exact .inr hk
    · exact h.low v
  · rw [hs]; split
    · rename_i e; subst e
      intro _
      have h1 := Gr.jump_to hG hj (Gr.To.goal (List.mem_singleton.2 rfl) hfu)
      rw [Int.add_zero] at h1
      exact (h.real t ht0).trans h1
    · exact h.real v
  · rw [hs, hf, if_neg hus, if_neg hus]; exact h.start
  · rw [hs, hf]
    by_cases e : u = v
    · subst e
      rw [if_pos rfl, if_pos rfl]
      exact fun _ => ⟨t, d, rfl, ht, hj, by rw [hs, if_neg hst]⟩
    · rw [if_neg e, if_neg e]
      intro h0
      obtain ⟨p, d', h1, h2, h3, h4⟩ := h.come v hv h0
      exact ⟨p, d', h1, h2, h3, by rw [hs, if_neg (fun e : u = p => huD (e ▸ h2))]; exact h4⟩
  · rw [hs, if_neg (fun e : u = v => huD (e ▸ hv))]; exact h.inD v hv
  · have h1 := h.rel v hv e z hp hz
    rw [hs, hs, if_neg (fun e : u = v => huD (e ▸ hv))]
    split
    · rename_i e'; subst e'; omega
    · exact h1
  · rw [hs]; split
    · rename_i e; subst e; intro _; simp
    · intro h0; exact List.mem_append_left _ (h.pend v hv h0)
  · rcases List.mem_append.1 he with he | he
    · obtain ⟨h1, v, h2, h3, h4, h5⟩ := h.ent e he
      refine ⟨h1, v, h2, ?_⟩
      rw [hs]
      split
      · rename_i e'; subst e'; exact ⟨hk, by omega, fun hd => absurd hd huD⟩
      · exact ⟨h3, h4, h5⟩
    · simp only [List.mem_singleton] at he
      subst he
      refine ⟨by simp only; omega, u, rfl, ?_⟩
      rw [hs, if_pos rfl]
      exact ⟨hk, Int.le_refl _, fun hd => absurd hd huD⟩
  · rw [List.nodup_append]
    refine ⟨h.nod, by simp, fun a ha b hb => ?_⟩
    simp only [List.mem_singleton] at hb
    subst hb
    rintro rfl
    obtain ⟨_, v, h2, h3, h4, _⟩ := h.ent _ ha
    simp only at h2 h4
    obtain rfl : u = v := by omega
    omega
/-- An entry comes out that isn't the goal's: its tile is gone from (now, or it was). -/
theorem Ast.pop {e : Int × Int} (h : Ast G s goal (fun _ _ => True) c fr (e :: es) D m) {t : Nat} (ht : e.2 = (t : Int)) (hg : t ≠ goal) (hle : ∀ e' ∈ es, e.1 ≤ e'.1) :
    (t ∉ D ∧ cAt c t + G.guess t goal = e.1 ∧ Ast G s goal (fun u _ => u ≠ t) c fr es (t :: D) e.1) ∨ (t ∈ D ∧ Ast G s goal (fun _ _ => True) c fr es D e.1) := by
  obtain ⟨hme, t', h1, h2, h3, h4⟩ := h.ent e List.mem_cons_self
  obtain rfl : t = t' := by omega
  have hn := List.nodup_cons.1 h.nod
  by_cases hD : t ∈ D
  · refine .inr ⟨hD, h.len, h.lenf, h.low, h.real, h.start, h.come, h.nodD, fun u hu => ⟨(h.inD u hu).1, Int.le_trans (h.inD u hu).2 hme⟩, h.noG, h.rel, fun u hu h0 => ?_, fun e' he' => ⟨hle e' he', (h.ent e' (List.mem_cons_of_mem _ he')).2⟩, hn.2⟩
    rcases List.mem_cons.1 (h.pend u hu h0) with he | he
    · rw [← he] at h1
      simp only at h1
      obtain rfl : u = t := by omega
      exact absurd hD hu
    · exact he
  · have hk : cAt c t + G.guess t goal = e.1 := by
      rcases List.mem_cons.1 (h.pend t hD h2) with he | he
      · rw [← he]
      · have := hle _ he; simp only at this; omega
    refine .inl ⟨hD, hk, h.len, h.lenf, h.low, h.real, h.start, fun u hu h0 => ?_, List.nodup_cons.2 ⟨hD, h.nodD⟩, fun u hu => ?_, ?_, fun u hu d z hp hz => ?_, fun u hu h0 => ?_, fun e' he' => ⟨hle e' he', ?_⟩, hn.2⟩
    · obtain ⟨p, d, a1, a2, a3⟩ := h.come u hu h0
      exact ⟨p, d, a1, List.mem_cons_of_mem _ a2, a3⟩
    · rcases List.mem_cons.1 hu with rfl | hu
      · omega
      · exact ⟨(h.inD u hu).1, Int.le_trans (h.inD u hu).2 hme⟩
    · intro hh
      rcases List.mem_cons.1 hh with hh | hh
      · exact hg hh.symm
      · exact h.noG hh
    · rcases List.mem_cons.1 hu with rfl | hu
      · exact absurd rfl hp
      · exact h.rel u hu d z trivial hz
    · rcases List.mem_cons.1 (h.pend u (fun hd => hu (List.mem_cons_of_mem _ hd)) h0) with he | he
      · rw [← he] at h1
        simp only at h1
        obtain rfl : u = t := by omega
        exact absurd List.mem_cons_self hu
      · exact he
    · obtain ⟨_, u, k1, k2, k3, k4⟩ := h.ent e' (List.mem_cons_of_mem _ he')
      refine ⟨u, k1, k2, k3, fun hu => ?_⟩
      rcases List.mem_cons.1 hu with rfl | hu
      · have hne : e' ≠ e := fun e => hn.1 (e ▸ he')
        have h5 := hle e' he'
        have : e'.1 ≠ e.1 := fun e1 => hne (Prod.ext e1 (by omega))
        omega
      · exact k4 hu
/-- .. in the next direction, where nothing is reached. -/
theorem Ast.pass {Q : Nat → Nat → Prop} (h : Ast G s goal P c fr es D m) (hQ : ∀ t ∈ D, ∀ d u, Q t d → G.jump goal t d = some u → P t d ∨ (0 ≤ cAt c u ∧ cAt c u ≤ cAt c t + G.guess t u)) : Ast G s goal Q c fr es D m :=
  ⟨h.len, h.lenf, h.low, h.real, h.start, h.come, h.nodD, h.inD, h.noG, fun t ht d u hq hj => by rcases hQ t ht d u hq hj with h1 | h1; exact h.rel t ht d u h1 hj; exact h1, h.pend, h.ent, h.nod⟩
theorem Ast.card (h : Ast G s goal P c fr es D m) : D.length ≤ G.fs.length := by
  have key : ∀ (n : Nat) {f : List Nat} (_ : f.Nodup) (_ : ∀ i ∈ f, i < n), f.length ≤ n := by
    intro n
    induction n with
    | zero =>
      intro f _ hb
      cases f with
      | nil => simp
      | cons x f => have := hb x List.mem_cons_self; omega
    | succ n ih =>
      intro f h hb
      by_cases hn : n ∈ f
      · have h1 := ih (h.erase n) (fun i hi => by
          have h2 := hb i (List.mem_of_mem_erase hi)
          have h3 := (h.mem_erase_iff).1 hi
          have := h3.1
          omega)
        rw [List.length_erase_of_mem hn] at h1
        omega
      · have := ih h (fun i hi => by have := hb i hi; have : i ≠ n := fun e => hn (e ▸ hi); omega)
        omega
  refine key _ h.nodD (fun t ht => ?_)
  have := cAt_in (h.inD t ht).1
  rw [h.len] at this
  exact this
/-- Along jumps to the goal something waits that is at most the way's cost. -/
theorem Ast.waits (h : Ast G s goal (fun _ _ => True) c fr es D m) (hG : G.Ok) {k0 : Int} (hk0 : ∀ e ∈ es, k0 ≤ e.1) {t : Nat} {k : Int} (hj : Gr.JTo G goal t k) : 0 ≤ cAt c t → es ≠ [] ∧ k0 ≤ cAt c t + k := by
  induction hj with
  | done hf =>
    intro h0
    have h1 := h.pend goal h.noG h0
    have h2 := hk0 _ h1
    simp only [Gr.guess_self] at h2
    exact ⟨List.ne_nil_of_mem h1, h2⟩
  | @step t d u k hj hT ih =>
    intro h0
    by_cases ht : t ∈ D
    · obtain ⟨h1, h2⟩ := h.rel t ht d u trivial hj
      obtain ⟨h3, h4⟩ := ih h1
      exact ⟨h3, by omega⟩
    · have h1 := h.pend t ht h0
      have h2 := hk0 _ h1
      simp only at h2
      have h3 := (Gr.JTo.step hj hT).guess hG
      exact ⟨List.ne_nil_of_mem h1, by omega⟩
/-- The goal comes out: its cost is the least. -/
theorem Ast.found {e : Int × Int} (h : Ast G s goal (fun _ _ => True) c fr (e :: es) D m) (hG : G.Ok) (he : e.2 = (goal : Int)) (hle : ∀ e' ∈ es, e.1 ≤ e'.1) : 0 ≤ cAt c goal ∧ ∀ k, Gr.To G [goal] s k → cAt c goal ≤ k := by
  obtain ⟨hme, t', h1, h2, h3, h4⟩ := h.ent e List.mem_cons_self
  obtain rfl : goal = t' := by omega
  rw [Gr.guess_self] at h3
  refine ⟨h2, fun k hT => ?_⟩
  obtain ⟨k', h5, h6⟩ := hT.jto hG
  have := h.waits hG (k0 := e.1) (fun e' he' => by rcases List.mem_cons.1 he' with rfl | he'; exact Int.le_refl _; exact hle e' he') h6 (by rw [h.start.1]; exact Int.le_refl _)
  have h7 := h.start.1
  omega
/-- Nothing waits any more: there is no way. -/
theorem Ast.none (h : Ast G s goal (fun _ _ => True) c fr [] D m) (hG : G.Ok) : cAt c goal = -1 ∧ ∀ k, ¬ Gr.To G [goal] s k := by
  have hno : ∀ k, ¬ Gr.To G [goal] s k := fun k hT => by
    obtain ⟨k', h5, h6⟩ := hT.jto hG
    exact (h.waits hG (k0 := 0) (by simp) h6 (by rw [h.start.1]; exact Int.le_refl _)).1 rfl
  refine ⟨?_, hno⟩
  rcases h.low goal with h0 | h0
  · exact h0
  · exact absurd (h.real goal h0) (hno _)

/-- The points, from a tile back to the first one. -/
inductive Bk (G : Gr) (s goal : Nat) (c fr : List Int) : Nat → List Nat → Prop
  | start : cAt c s = 0 → cAt fr s = -1 → Bk G s goal c fr s [s]
  | step {u p d : Nat} {l : List Nat} : u ≠ s → cAt fr u = (p : Int) → G.jump goal p d = some u → cAt c u = cAt c p + G.guess p u → Bk G s goal c fr p l → Bk G s goal c fr u (u :: l)
theorem Ast.back (h : Ast G s goal P c fr es D m) (hG : G.Ok) : ∀ (n : Nat) {t : Nat}, cAt c t ≤ n → 0 ≤ cAt c t → ∃ l, Bk G s goal c fr t l ∧ (l.length : Int) ≤ cAt c t + 1 := by
  intro n
  induction n with
  | zero =>
    intro t hn h0
    by_cases e : t = s
    · subst e
      exact ⟨[t], .start h.start.1 h.start.2, by simp; omega⟩
    · obtain ⟨p, d, h1, h2, h3, h4⟩ := h.come t e h0
      have := (Gr.jump_ne hG h3).2.1
      have := (h.inD p h2).1
      omega
  | succ n ih =>
    intro t hn h0
    by_cases e : t = s
    · subst e
      exact ⟨[t], .start h.start.1 h.start.2, by simp; omega⟩
    · obtain ⟨p, d, h1, h2, h3, h4⟩ := h.come t e h0
      have h5 := (Gr.jump_ne hG h3).2.1
      have h6 := (h.inD p h2).1
      obtain ⟨l, h7, h8⟩ := ih (t := p) (by omega) h6
      exact ⟨t :: l, .step e h1 h3 h4 h7, by rw [List.length_cons]; omega⟩
/-- The next point back. -/
def atI (l : List Nat) (j : Nat) : Int := match l[j]? with
  | some u => (u : Int)
  | none => -1
theorem Bk.head {t : Nat} {l : List Nat} (h : Bk G s goal c fr t l) : ∃ r, l = t :: r := by cases h <;> exact ⟨_, rfl⟩
theorem Bk.at (hG : G.Ok) (hs : G.free s = true) {t : Nat} {l : List Nat} (h : Bk G s goal c fr t l) : ∀ (j u : Nat), l[j]? = some u → G.free u = true ∧ cAt fr u = atI l (j + 1) := by
  induction h with
  | start _ h2 =>
    intro j u hj
    cases j with
    | zero => simp at hj; subst hj; exact ⟨hs, by rw [h2]; rfl⟩
    | succ j => simp at hj
  | @step u p d l _ h2 h3 _ h5 ih =>
    intro j x hj
    cases j with
    | zero =>
      simp at hj; subst hj
      obtain ⟨r, rfl⟩ := h5.head
      exact ⟨(Gr.jump_ne hG h3).2.2.2.2, by rw [h2]; rfl⟩
    | succ j => exact ih j x (by simpa using hj)
/-- A row of jumps from a tile to another one. -/
inductive Gr.JPath (G : Gr) (goal s : Nat) : List Nat → Nat → Int → Prop
  | one : Gr.JPath G goal s [s] s 0
  | snoc {l : List Nat} {p d u : Nat} {k : Int} : Gr.JPath G goal s l p k → G.jump goal p d = some u → Gr.JPath G goal s (l ++ [u]) u (k + G.guess p u)
theorem Bk.path {t : Nat} {l : List Nat} (h : Bk G s goal c fr t l) : Gr.JPath G goal s l.reverse t (cAt c t) := by
  induction h with
  | start h1 _ => rw [h1]; exact .one
  | step _ _ h3 h4 _ ih => rw [List.reverse_cons, h4]; exact .snoc ih h3
end
end Go.Proofs.YtdihnjhbopogoaaDoor
namespace Go.Proofs.YtdihnjhbopogoaaDoor
namespace Gr
variable (G : Gr)
/-- The tiles from one on by steps in a direction. -/
def rayN : Nat → Nat → Nat → List Nat
  | 0, _, _ => []
  | n + 1, t, d => match G.go t d with
    | none => []
    | some (u, _) => u :: rayN n u d
def ray (t d : Nat) : List Nat := G.rayN 40 t d
def _root_.Go.Proofs.YtdihnjhbopogoaaDoor.upto (b : Nat) : List Nat → Option (List Nat)
  | [] => none
  | x :: l => if x = b then some [x] else (upto b l).map (x :: ·)
def alongD (a b d : Nat) : Option (List Nat) := upto b (G.ray a d)
/-- The tiles of a jump from a tile to another one, without the first. -/
def along (a b : Nat) : Option (List Nat) := (List.range 8).findSome? (G.alongD a b)
def expT : List Nat → Option (List Nat)
  | a :: b :: l => (G.along a b).bind fun m => (expT (b :: l)).map (m ++ ·)
  | _ => some []
def _root_.Go.Proofs.YtdihnjhbopogoaaDoor.outE (ns : List Nat) : Option (List Nat) → Option (List Nat) × Int
  | some m => (some (ns.headD 0 :: m), 0)
  | none => (none, 9)
/-- All tiles of jumps, and the error's number. -/
def expand (l : List Int) : Option (List Nat) × Int :=
  if l = [] then (none, 3) else if l.all G.has = false then (none, 1) else if l.any (fun t => !G.free t.toNat) = true then (none, 9) else
  outE (l.map Int.toNat) (G.expT (l.map Int.toNat))
end Gr
section
variable {G : Gr}
theorem Gr.room_in (h : G.Ok) {t : Nat} (ht : t < G.fs.length) (d : Nat) : G.room t d ≤ 31 := by
  obtain ⟨a1, a2, a3, _⟩ := Gr.XY h t
  have a4 := Gr.Yin h ht
  have := h.w2; have := h.h2
  unfold Gr.room
  split
  · omega
  · split
    · omega
    · split <;> omega
theorem Gr.rayN_fuel (h : G.Ok) {d : Nat} : ∀ (n m t : Nat), G.room t d ≤ n → G.room t d ≤ m → G.rayN n t d = G.rayN m t d
  | 0, 0, _, _, _ => rfl
  | 0, m + 1, t, h1, _ => by
    unfold Gr.rayN
    cases hg : G.go t d with
    | none => rfl
    | some p => have := Gr.go_room h (u := p.1) (c := p.2) hg; omega
  | n + 1, 0, t, _, h2 => by
    unfold Gr.rayN
    cases hg : G.go t d with
    | none => rfl
    | some p => have := Gr.go_room h (u := p.1) (c := p.2) hg; omega
  | n + 1, m + 1, t, h1, h2 => by
    unfold Gr.rayN
    cases hg : G.go t d with
    | none => rfl
    | some p =>
      have := Gr.go_room h (u := p.1) (c := p.2) hg
      simp only
      rw [Gr.rayN_fuel h n m p.1 (by omega) (by omega)]
theorem Gr.ray_go (h : G.Ok) {t d u : Nat} {c : Int} (hg : G.go t d = some (u, c)) : G.ray t d = u :: G.ray u d := by
  have hr := Gr.go_room h hg
  have hl := Gr.room_le h (Gr.go_some hg).1 d
  unfold Gr.ray
  conv => lhs; unfold Gr.rayN
  rw [hg]
  simp only
  rw [Gr.rayN_fuel h 39 40 u (by omega) (by omega)]
theorem Gr.ray_none {t d : Nat} (hg : G.go t d = none) : G.ray t d = [] := by
  unfold Gr.ray Gr.rayN
  rw [hg]
theorem Gr.ray_len (h : G.Ok) {d : Nat} : ∀ (n : Nat) {t : Nat}, G.room t d ≤ n → (G.ray t d).length ≤ n := by
  intro n
  induction n with
  | zero =>
    intro t hr
    cases hg : G.go t d with
    | none => rw [Gr.ray_none hg]; simp
    | some p => have := Gr.go_room h (u := p.1) (c := p.2) hg; omega
  | succ n ih =>
    intro t hr
    cases hg : G.go t d with
    | none => rw [Gr.ray_none hg]; simp
    | some p =>
      have h1 := Gr.go_room h (u := p.1) (c := p.2) hg
      rw [Gr.ray_go h (u := p.1) (c := p.2) hg, List.length_cons]
      have := ih (t := p.1) (by omega)
      omega
theorem upto_len {b : Nat} : ∀ {l m : List Nat}, upto b l = some m → m.length ≤ l.length
  | [], m, h => by cases h
  | x :: l, m, h => by
    unfold upto at h
    split at h
    · cases h; simp
    · obtain ⟨m', h1, rfl⟩ := Option.map_eq_some_iff.1 h
      have := upto_len h1
      simp only [List.length_cons]; omega
theorem findRange {α : Type} {f : Nat → Option α} : ∀ (n : Nat) {d : Nat} {m : α}, d < n → (∀ e, e < d → f e = none) → f d = some m → (List.range n).findSome? f = some m := by
  intro n
  induction n with
  | zero => intro d m hd; omega
  | succ n ih =>
    intro d m hd h1 h2
    rw [List.range_succ, List.findSome?_append]
    by_cases e : d < n
    · rw [ih e h1 h2]; rfl
    · obtain rfl : d = n := by omega
      have : (List.range d).findSome? f = none := by
        rw [List.findSome?_eq_none_iff]
        intro x hx
        exact h1 x (List.mem_range.1 hx)
      rw [this]
      simp [h2]
theorem Gr.along_at {a b d : Nat} {m : List Nat} (hd : d < 8) (h1 : ∀ e, e < d → G.alongD a b e = none) (h2 : G.alongD a b d = some m) : G.along a b = some m := findRange 8 hd h1 h2
theorem Gr.along_no {a b : Nat} (h1 : ∀ e, e < 8 → G.alongD a b e = none) : G.along a b = none := by
  unfold Gr.along
  rw [List.findSome?_eq_none_iff]
  intro x hx
  exact h1 x (List.mem_range.1 hx)
theorem Gr.along_len (h : G.Ok) {a b : Nat} {m : List Nat} (ha : a < G.fs.length) (hm : G.along a b = some m) : m.length ≤ 31 := by
  obtain ⟨d, hd, he⟩ := List.exists_of_findSome?_eq_some hm
  have h1 := upto_len (show upto b (G.ray a d) = some m from he)
  have h2 := Gr.ray_len h _ (Nat.le_refl (G.room a d))
  have h3 := Gr.room_in h ha d
  omega
/-- A line's tiles: along it. -/
theorem Gr.line_upto (h : G.Ok) {d u : Nat} : ∀ (j : Nat) {t : Nat}, 1 ≤ j → G.wk t (List.replicate j d) = some u → ∃ m, G.alongD t u d = some m ∧ m.getLast? = some u ∧ (∀ x ∈ m, G.free x = true) ∧ G.walkC (t :: m) = some ((j : Int) * (if d % 2 = 0 then 10 else 14))
  | 0, t, hj, _ => by omega
  | j + 1, t, hj, hw => by
    have hw0 := hw
    rw [List.replicate_succ] at hw
    unfold Gr.wk at hw
    cases hg : G.go t d with
    | none => rw [hg] at hw; cases hw
    | some p =>
      obtain ⟨v, c⟩ := p
      rw [hg] at hw
      simp only at hw
      have hc := (Gr.go_some hg).2.2.2.2.1
      have hfv := (Gr.go_end h hg).1
      have he := Gr.edge_of h hg
      unfold Gr.alongD
      rw [Gr.ray_go h hg]
      unfold upto
      by_cases hj0 : j = 0
      · subst hj0
        obtain rfl : v = u := Option.some.inj hw
        rw [if_pos rfl]
        refine ⟨[v], rfl, rfl, fun x hx => by simp only [List.mem_singleton] at hx; rw [hx]; exact hfv, ?_⟩
        simp [Gr.walkC, he, hc]
      · have hne := (Gr.line_guess h hw (by omega)).2
        rw [if_neg hne]
        obtain ⟨m, m1, m2, m3, m4⟩ := Gr.line_upto h j (by omega) hw
        unfold Gr.alongD at m1
        refine ⟨v :: m, by rw [m1]; rfl, ?_, ?_, ?_⟩
        · cases m with
          | nil => cases m2
          | cons y m => rw [List.getLast?_cons_cons]; exact m2
        · intro x hx
          rcases List.mem_cons.1 hx with rfl | hx
          · exact hfv
          · exact m3 x hx
        · rw [Gr.walkC_cons m4 he, hc]
          congr 1
          split <;> omega
/-- Only one direction leads along. -/
theorem Gr.upto_wk (h : G.Ok) {d b : Nat} : ∀ (n : Nat) {t : Nat} {m : List Nat}, G.room t d ≤ n → upto b (G.ray t d) = some m → ∃ j, 1 ≤ j ∧ G.wk t (List.replicate j d) = some b
  | 0, t, m, hr, hm => by
    cases hg : G.go t d with
    | none => rw [Gr.ray_none hg] at hm; cases hm
    | some p => have := Gr.go_room h (u := p.1) (c := p.2) hg; omega
  | n + 1, t, m, hr, hm => by
    cases hg : G.go t d with
    | none => rw [Gr.ray_none hg] at hm; cases hm
    | some p =>
      obtain ⟨v, c⟩ := p
      have hr2 := Gr.go_room h hg
      rw [Gr.ray_go h hg] at hm
      unfold upto at hm
      split at hm
      · rename_i e
        subst e
        exact ⟨1, Nat.le_refl _, by simp [List.replicate, Gr.wk, hg]⟩
      · obtain ⟨m', h1, _⟩ := Option.map_eq_some_iff.1 hm
        obtain ⟨j, h2, h3⟩ := Gr.upto_wk h n (by omega) h1
        exact ⟨j + 1, by omega, by rw [List.replicate_succ]; unfold Gr.wk; rw [hg]; exact h3⟩
theorem Gr.one_dir (h : G.Ok) {t b d e j k : Nat} (h1 : 1 ≤ j) (h2 : G.wk t (List.replicate j d) = some b) (h3 : 1 ≤ k) (h4 : G.wk t (List.replicate k e) = some b) : d = e := by
  obtain ⟨a1, a2, a3⟩ := Gr.line h j h2
  obtain ⟨b1, b2, b3⟩ := Gr.line h k h4
  have hd := (a3 h1).1
  have he := (b3 h3).1
  have hd' : d = 0 ∨ d = 1 ∨ d = 2 ∨ d = 3 ∨ d = 4 ∨ d = 5 ∨ d = 6 ∨ d = 7 := by omega
  have he' : e = 0 ∨ e = 1 ∨ e = 2 ∨ e = 3 ∨ e = 4 ∨ e = 5 ∨ e = 6 ∨ e = 7 := by omega
  rcases hd' with rfl | rfl | rfl | rfl | rfl | rfl | rfl | rfl <;> rcases he' with rfl | rfl | rfl | rfl | rfl | rfl | rfl | rfl <;> first | rfl | (exfalso; simp [dxOf, dyOf] at a1 a2 b1 b2; omega)
theorem Gr.along_line (h : G.Ok) {t u d j : Nat} (hj : 1 ≤ j) (hw : G.wk t (List.replicate j d) = some u) : G.along t u = G.alongD t u d := by
  obtain ⟨m, m1, _⟩ := Gr.line_upto h j hj hw
  have hd := ((Gr.line h j hw).2.2 hj).1
  rw [m1]
  refine Gr.along_at hd (fun e he => ?_) m1
  cases hm : G.alongD t u e with
  | none => rfl
  | some m' =>
    obtain ⟨k, k1, k2⟩ := Gr.upto_wk h _ (Nat.le_refl _) hm
    have := Gr.one_dir h hj hw k1 k2
    omega
/-- Along a jump. -/
theorem Gr.along_jump (h : G.Ok) {goal : Int} {t d u : Nat} (hj : G.jump goal t d = some u) : ∃ m, G.along t u = some m ∧ m.getLast? = some u ∧ (∀ x ∈ m, G.free x = true) ∧ G.walkC (t :: m) = some (G.guess t u) := by
  obtain ⟨j, h1, h2⟩ := Gr.jump_line h _ (Nat.le_refl _) hj
  obtain ⟨m, m1, m2, m3, m4⟩ := Gr.line_upto h j h1 h2
  exact ⟨m, by rw [Gr.along_line h h1 h2, m1], m2, m3, by rw [m4, (Gr.line_guess h h2 h1).1]⟩
theorem Gr.expT_snoc : ∀ (l : List Nat) {p u : Nat} {W m : List Nat}, G.expT (l ++ [p]) = some W → G.along p u = some m → G.expT (l ++ [p] ++ [u]) = some (W ++ m)
  | [], p, u, W, m, h1, h2 => by
    simp [Gr.expT] at h1
    subst h1
    simp [Gr.expT, h2]
  | [x], p, u, W, m, h1, h2 => by
    simp only [List.cons_append, List.nil_append, Gr.expT] at h1 ⊢
    cases ha : G.along x p with
    | none => rw [ha] at h1; cases h1
    | some mx =>
      rw [ha] at h1
      simp at h1
      simp [h2, h1]
  | x :: y :: l, p, u, W, m, h1, h2 => by
    simp only [List.cons_append, Gr.expT] at h1 ⊢
    cases ha : G.along x y with
    | none => rw [ha] at h1; cases h1
    | some mx =>
      rw [ha] at h1
      simp only [Option.bind_some] at h1 ⊢
      obtain ⟨W', h3, rfl⟩ := Option.map_eq_some_iff.1 h1
      have := Gr.expT_snoc (y :: l) (p := p) (u := u) (by simpa using h3) h2
      simp only [List.cons_append] at this
      rw [this]
      simp
theorem walkC_join : ∀ (a : List Nat) {x : Nat} {b : List Nat} {k k' : Int}, G.walkC (a ++ [x]) = some k → G.walkC (x :: b) = some k' → G.walkC (a ++ [x] ++ b) = some (k + k')
  | [], x, b, k, k', h1, h2 => by
    simp [Gr.walkC] at h1; subst h1
    simpa using h2
  | [y], x, b, k, k', h1, h2 => by
    simp only [List.cons_append, List.nil_append, Gr.walkC] at h1 ⊢
    cases he : G.edge y x with
    | none => rw [he] at h1; cases h1
    | some e =>
      rw [he] at h1
      simp at h1
      simp [h2, h1]
  | y :: z :: a, x, b, k, k', h1, h2 => by
    simp only [List.cons_append, Gr.walkC] at h1 ⊢
    cases he : G.edge y z with
    | none => rw [he] at h1; cases h1
    | some e =>
      rw [he] at h1
      simp only [Option.bind_some] at h1 ⊢
      obtain ⟨k1, h3, h4⟩ := Option.map_eq_some_iff.1 h1
      have := walkC_join (z :: a) (x := x) (b := b) (by simpa using h3) h2
      simp only [List.cons_append] at this
      rw [this]
      simp only [Option.map_some, Option.some.injEq]
      omega
/-- A row of jumps, expanded, is a walk of its cost. -/
theorem Gr.JPath.expand (h : G.Ok) {goal s e : Nat} {l : List Nat} {k : Int} (hs : G.free s = true) (hp : Gr.JPath G goal s l e k) : (∃ r, l = s :: r) ∧ l.getLast? = some e ∧ (∀ t ∈ l, G.free t = true) ∧ (∃ W, G.expT l = some W ∧ G.walkC (s :: W) = some k ∧ (s :: W).getLast? = some e ∧ ∀ t ∈ W, G.free t = true) ∧ (0 ≤ k ∧ (l.length = 1 ↔ k = 0) ∧ (l.length = 1 → s = e)) := by
  induction hp with
  | one => exact ⟨⟨[], rfl⟩, rfl, by simpa using hs, ⟨[], rfl, rfl, rfl, by simp⟩, Int.le_refl _, by simp, fun _ => rfl⟩
  | @snoc l p d u k hp hj ih =>
    obtain ⟨⟨r, hr⟩, i2, i3, ⟨W, w1, w2, w3, w4⟩, i5, _, _⟩ := ih
    obtain ⟨m, m1, m2, m3, m4⟩ := Gr.along_jump h hj
    obtain ⟨hne, h10, _, _, hfu⟩ := Gr.jump_ne h hj
    have hlast : ∃ l0, l = l0 ++ [p] := by
      rcases List.eq_nil_or_concat l with rfl | ⟨l0, x, rfl⟩
      · cases i2
      · rw [List.concat_eq_append] at i2 ⊢
        rw [List.getLast?_append] at i2
        simp at i2
        exact ⟨l0, by rw [i2]⟩
    have hsW : ∃ W0, s :: W = W0 ++ [p] := by
      rcases List.eq_nil_or_concat (s :: W) with e | ⟨l0, x, e⟩
      · cases e
      · rw [List.concat_eq_append] at e
        rw [e, List.getLast?_append] at w3
        simp at w3
        exact ⟨l0, by rw [e, w3]⟩
    obtain ⟨l0, hl0⟩ := hlast
    obtain ⟨W0, hW0⟩ := hsW
    refine ⟨⟨r ++ [u], by rw [hr]; rfl⟩, by rw [List.getLast?_append]; rfl, ?_, ⟨W ++ m, ?_, ?_, ?_, ?_⟩, ?_, ?_⟩
    · intro t ht
      rcases List.mem_append.1 ht with ht | ht
      · exact i3 t ht
      · simp only [List.mem_singleton] at ht; rw [ht]; exact hfu
    · rw [hl0]
      exact Gr.expT_snoc l0 (by rw [← hl0]; exact w1) m1
    · rw [show s :: (W ++ m) = (s :: W) ++ m from rfl, hW0]
      exact walkC_join W0 (by rw [← hW0]; exact w2) m4
    · rw [show s :: (W ++ m) = (s :: W) ++ m from rfl, List.getLast?_append, m2]; rfl
    · intro t ht
      rcases List.mem_append.1 ht with ht | ht
      · exact w4 t ht
      · exact m3 t ht
    · omega
    · have hl1 : 1 ≤ l.length := by rw [hr]; simp
      rw [List.length_append, List.length_singleton]
      exact ⟨by omega, by omega⟩
end
end Go.Proofs.YtdihnjhbopogoaaDoor
