/-
  Least costs to goals, what they are; Dijkstra's invariant, step by step.
-/
import Derived.Test.YtilobedihjkpjaaDoorGrPlain
namespace Go.Proofs.YtilobedihjkpjaaDoor

/-- A walk from a tile to a free goal costs k. -/
inductive Gr.To (G : Gr) (gs : List Nat) : Nat → Int → Prop
  | goal {t : Nat} : t ∈ gs → G.free t = true → Gr.To G gs t 0
  | step {t d u : Nat} {c k : Int} : G.go t d = some (u, c) → Gr.To G gs u k → Gr.To G gs t (c + k)
/-- A tile's cost. -/
def cAt (c : List Int) (t : Nat) : Int := c.getD t (-1)
theorem cAt_get {c : List Int} {t : Nat} (h : t < c.length) : c[t]? = some (cAt c t) := by simp [cAt, h]
theorem cAt_in {c : List Int} {t : Nat} (h : 0 ≤ cAt c t) : t < c.length := by
  by_cases ht : t < c.length
  · exact ht
  · unfold cAt at h; rw [List.getD_eq_getElem?_getD, List.getElem?_eq_none (by omega)] at h; simp at h
theorem cAt_set (c : List Int) (t u : Nat) (k : Int) (ht : t < c.length) : cAt (c.set t k) u = if t = u then k else cAt c u := by
  unfold cAt
  simp only [List.getD_eq_getElem?_getD, List.getElem?_set]
  by_cases e : t = u
  · subst e; simp [ht]
  · simp [e]
/-- The least costs. -/
structure Least (G : Gr) (gs : List Nat) (c : List Int) : Prop where
  len : c.length = G.fs.length
  low : ∀ t, cAt c t = -1 ∨ 0 ≤ cAt c t
  real : ∀ t, 0 ≤ cAt c t → Gr.To G gs t (cAt c t)
  min : ∀ t k, Gr.To G gs t k → 0 ≤ cAt c t ∧ cAt c t ≤ k
section
variable {G : Gr} {gs : List Nat}
theorem Gr.go_pos {t d u : Nat} {c : Int} (h : G.go t d = some (u, c)) : c = 10 ∨ c = 14 := by
  obtain ⟨_, _, _, _, h, _⟩ := Gr.go_some h
  split at h <;> simp [h]
theorem Gr.To.free {t : Nat} {k : Int} (h : Gr.To G gs t k) : G.free t = true ∧ 0 ≤ k := by
  induction h with
  | goal _ h => exact ⟨h, Int.le_refl _⟩
  | step h _ ih => have := Gr.go_pos h; exact ⟨(Gr.go_some h).1, by omega⟩
theorem Least.unique {c c' : List Int} (h : Least G gs c) (h' : Least G gs c') : c = c' := by
  apply List.ext_getElem?
  intro t
  by_cases ht : t < G.fs.length
  · rw [cAt_get (by rw [h.len]; exact ht), cAt_get (by rw [h'.len]; exact ht)]
    congr 1
    rcases h.low t with a | a <;> rcases h'.low t with b | b
    · rw [a, b]
    · have := (h.min t _ (h'.real t b)).1; omega
    · have := (h'.min t _ (h.real t a)).1; omega
    · have h1 := (h.min t _ (h'.real t b)).2
      have h2 := (h'.min t _ (h.real t a)).2
      omega
  · rw [List.getElem?_eq_none (by rw [h.len]; omega), List.getElem?_eq_none (by rw [h'.len]; omega)]
/-- Costs that a check shows to be the least. -/
theorem Least.check {c : List Int} (hl : c.length = G.fs.length) (hlow : ∀ t, t < c.length → cAt c t = -1 ∨ 0 ≤ cAt c t) (hgoal : ∀ t ∈ gs, G.free t = true → cAt c t = 0)
    (hrel : ∀ t, t < c.length → ∀ s ∈ G.around t, 0 ≤ cAt c s.to → 0 ≤ cAt c t ∧ cAt c t ≤ cAt c s.to + s.c)
    (hreal : ∀ t, t < c.length → 0 ≤ cAt c t → (t ∈ gs ∧ G.free t = true ∧ cAt c t = 0) ∨ ∃ s ∈ G.around t, 0 ≤ cAt c s.to ∧ cAt c t = cAt c s.to + s.c) : Least G gs c := by
  refine ⟨hl, fun t => ?_, ?_, ?_⟩
  · by_cases ht : t < c.length
    · exact hlow t ht
    · exact .inl (by unfold cAt; rw [List.getD_eq_getElem?_getD, List.getElem?_eq_none (by omega)]; rfl)
  · have key : ∀ (n : Nat) (t : Nat), cAt c t ≤ n → 0 ≤ cAt c t → Gr.To G gs t (cAt c t) := by
      intro n
      induction n with
      | zero =>
        intro t hn h0
        rcases hreal t (cAt_in h0) h0 with ⟨h1, h2, h3⟩ | ⟨s, hs, h1, h2⟩
        · rw [h3]; exact .goal h1 h2
        · have := Gr.go_pos (Gr.mem_around.1 hs); omega
      | succ n ih =>
        intro t hn h0
        rcases hreal t (cAt_in h0) h0 with ⟨h1, h2, h3⟩ | ⟨s, hs, h1, h2⟩
        · rw [h3]; exact .goal h1 h2
        · have hp := Gr.go_pos (Gr.mem_around.1 hs)
          rw [h2, Int.add_comm]
          exact .step (Gr.mem_around.1 hs) (ih s.to (by omega) h1)
    intro t h0
    exact key (cAt c t).toNat t (by omega) h0
  · intro t k h
    induction h with
    | goal h1 h2 => rw [hgoal _ h1 h2]; omega
    | @step t d u c' k h _ ih =>
      have hm : (⟨d, u, c'⟩ : Gr.St) ∈ G.around t := Gr.mem_around.2 h
      have := hrel t (by rw [hl]; exact Gr.free_in (Gr.go_some h).1) _ hm ih.1
      simp only at this
      omega

/-- Dijkstra's state: D's tiles are gone from (P: along which of their steps), the entries es wait. -/
structure Dij (G : Gr) (gs gp : List Nat) (P : Nat → Gr.St → Prop) (c : List Int) (es : List (Int × Int)) (D : List Nat) (m : Int) : Prop where
  len : c.length = G.fs.length
  low : ∀ t, cAt c t = -1 ∨ 0 ≤ cAt c t
  real : ∀ t, 0 ≤ cAt c t → Gr.To G gs t (cAt c t)
  goal : ∀ t ∈ gp, G.free t = true → cAt c t = 0
  nodD : D.Nodup
  inD : ∀ t ∈ D, 0 ≤ cAt c t ∧ cAt c t ≤ m
  rel : ∀ t ∈ D, ∀ s ∈ G.around t, P t s → 0 ≤ cAt c s.to ∧ cAt c s.to ≤ cAt c t + s.c
  pend : ∀ t, t ∉ D → 0 ≤ cAt c t → (cAt c t, (t : Int)) ∈ es
  ent : ∀ e ∈ es, m ≤ e.1 ∧ ∃ t : Nat, e.2 = (t : Int) ∧ 0 ≤ cAt c t ∧ cAt c t ≤ e.1 ∧ (t ∈ D → cAt c t < e.1)
  nod : es.Nodup

variable {gp : List Nat} {P : Nat → Gr.St → Prop} {c : List Int} {es es' : List (Int × Int)} {D : List Nat} {m : Int}
theorem Dij.start (c : List Int) (hl : c.length = G.fs.length) (h : ∀ t, cAt c t = -1) : Dij G gs [] P c [] [] 0 :=
  ⟨hl, fun t => .inl (h t), fun t h0 => by rw [h t] at h0; omega, by simp, List.nodup_nil, by simp, by simp, fun t _ h0 => by rw [h t] at h0; omega, by simp, List.nodup_nil⟩
theorem Dij.perm (h : Dij G gs gp P c es D m) (hp : es'.Perm es) : Dij G gs gp P c es' D m :=
  ⟨h.len, h.low, h.real, h.goal, h.nodD, h.inD, h.rel, fun t h1 h2 => hp.mem_iff.2 (h.pend t h1 h2), fun e he => h.ent e (hp.mem_iff.1 he), hp.nodup_iff.2 h.nod⟩
/-- A tile is reached at less. -/
theorem Dij.reach (h : Dij G gs gp P c es D m) {t : Nat} {k : Int} (hT : Gr.To G gs t k) (hD : t ∉ D) (hm : m ≤ k) (hk : 0 ≤ k) (ht : t < c.length) (hlt : cAt c t = -1 ∨ k < cAt c t) (hg : t ∈ gp → G.free t = true → k = 0) :
    Dij G gs gp P (c.set t k) (es ++ [(k, (t : Int))]) D m := by
  have hs := fun u => cAt_set c t u k ht
  refine ⟨by simpa using h.len, fun u => ?_, fun u => ?_, fun u h1 h2 => ?_, h.nodD, fun u hu => ?_, fun u hu s hs' hp => ?_, fun u hu => ?_, fun e he => ?_, ?_⟩
  · rw [hs]; split
    · exact .inr hk
    · exact h.low u
  · rw [hs]; split
    · rename_i e; subst e; exact fun _ => hT
    · exact h.real u
  · rw [hs]; split
    · rename_i e; subst e; exact hg h1 h2
    · exact h.goal u h1 h2
  · rw [hs, if_neg (fun e : t = u => hD (e ▸ hu))]; exact h.inD u hu
  · have h1 := h.rel u hu s hs' hp
    rw [hs, hs, if_neg (fun e : t = u => hD (e ▸ hu))]
    split
    · rename_i e; subst e; omega
    · exact h1
  · rw [hs]; split
    · rename_i e; subst e; intro _; simp
    · intro h0; exact List.mem_append_left _ (h.pend u hu h0)
  · rcases List.mem_append.1 he with he | he
    · obtain ⟨h1, u, h2, h3, h4, h5⟩ := h.ent e he
      refine ⟨h1, u, h2, ?_⟩
      rw [hs]
      split
      · rename_i e'; subst e'; exact ⟨hk, by omega, fun hd => absurd hd hD⟩
      · exact ⟨h3, h4, h5⟩
    · simp only [List.mem_singleton] at he
      subst he
      refine ⟨hm, t, rfl, ?_⟩
      rw [hs, if_pos rfl]
      exact ⟨hk, Int.le_refl _, fun hd => absurd hd hD⟩
  · rw [List.nodup_append]
    refine ⟨h.nod, by simp, fun a ha b hb => ?_⟩
    simp only [List.mem_singleton] at hb
    subst hb
    rintro rfl
    obtain ⟨_, u, h2, h3, h4, _⟩ := h.ent _ ha
    simp only at h2 h4
    obtain rfl : t = u := by omega
    omega
/-- One goal more is done. -/
theorem Dij.goalMore (h : Dij G gs gp P c es D m) {t : Nat} (hg : G.free t = true → cAt c t = 0) : Dij G gs (gp ++ [t]) P c es D m :=
  ⟨h.len, h.low, h.real, fun u h1 h2 => by rcases List.mem_append.1 h1 with h1 | h1; exact h.goal u h1 h2; simp only [List.mem_singleton] at h1; subst h1; exact hg h2, h.nodD, h.inD, h.rel, h.pend, h.ent, h.nod⟩
/-- An entry that is out of date comes out. -/
theorem Dij.stale {e : Int × Int} (h : Dij G gs gp P c (e :: es) D m) {t : Nat} (ht : e.2 = (t : Int)) (hle : ∀ e' ∈ es, e.1 ≤ e'.1) (hst : cAt c t < e.1) : Dij G gs gp P c es D e.1 := by
  have hme := (h.ent e List.mem_cons_self).1
  refine ⟨h.len, h.low, h.real, h.goal, h.nodD, fun u hu => ⟨(h.inD u hu).1, Int.le_trans (h.inD u hu).2 hme⟩, h.rel, fun u hu h0 => ?_, fun e' he' => ⟨hle e' he', (h.ent e' (List.mem_cons_of_mem _ he')).2⟩, (List.nodup_cons.1 h.nod).2⟩
  rcases List.mem_cons.1 (h.pend u hu h0) with he | he
  · rw [← he] at ht hst
    simp only at ht hst
    obtain rfl : u = t := by omega
    omega
  · exact he
/-- An entry that is right comes out: its tile is gone from. -/
theorem Dij.valid {e : Int × Int} (h : Dij G gs gp (fun _ _ => True) c (e :: es) D m) {t : Nat} (ht : e.2 = (t : Int)) (hle : ∀ e' ∈ es, e.1 ≤ e'.1) (hst : ¬ cAt c t < e.1) :
    t ∉ D ∧ cAt c t = e.1 ∧ Dij G gs gp (fun u _ => u ≠ t) c es (t :: D) e.1 := by
  obtain ⟨hme, t', h1, h2, h3, h4⟩ := h.ent e List.mem_cons_self
  obtain rfl : t = t' := by omega
  have hnD : t ∉ D := fun hd => hst (h4 hd)
  have hc : cAt c t = e.1 := by omega
  have hn := List.nodup_cons.1 h.nod
  refine ⟨hnD, hc, h.len, h.low, h.real, h.goal, List.nodup_cons.2 ⟨hnD, h.nodD⟩, fun u hu => ?_, fun u hu s hs hp => ?_, fun u hu h0 => ?_, fun e' he' => ⟨hle e' he', ?_⟩, hn.2⟩
  · rcases List.mem_cons.1 hu with rfl | hu
    · omega
    · exact ⟨(h.inD u hu).1, Int.le_trans (h.inD u hu).2 hme⟩
  · rcases List.mem_cons.1 hu with rfl | hu
    · exact absurd rfl hp
    · exact h.rel u hu s hs trivial
  · rcases List.mem_cons.1 (h.pend u (fun hd => hu (List.mem_cons_of_mem _ hd)) h0) with he | he
    · rw [← he] at h1
      simp only at h1
      obtain rfl : u = t := by omega
      exact absurd List.mem_cons_self hu
    · exact he
  · obtain ⟨_, u, k1, k2, k3, k4⟩ := h.ent e' (List.mem_cons_of_mem _ he')
    refine ⟨u, k1, k2, k3, fun hu => ?_⟩
    rcases List.mem_cons.1 hu with rfl | hu
    · have hne : e' ≠ e := fun e => hn.1 (e ▸ he')
      have : e'.1 ≠ e.1 := fun e1 => hne (Prod.ext e1 (by omega))
      omega
    · exact k4 hu
/-- .. along the next of its steps, where nothing is reached. -/
theorem Dij.pass {Q : Nat → Gr.St → Prop} (h : Dij G gs gp P c es D m) (hQ : ∀ t ∈ D, ∀ s ∈ G.around t, Q t s → P t s ∨ (0 ≤ cAt c s.to ∧ cAt c s.to ≤ cAt c t + s.c)) : Dij G gs gp Q c es D m :=
  ⟨h.len, h.low, h.real, h.goal, h.nodD, h.inD, fun t ht s hs hq => by rcases hQ t ht s hs hq with h1 | h1; exact h.rel t ht s hs h1; exact h1, h.pend, h.ent, h.nod⟩
/-- At the end. -/
theorem Dij.done (hG : G.Ok) (h : Dij G gs gs (fun _ _ => True) c [] D m) : Least G gs c := by
  refine ⟨h.len, h.low, h.real, fun t k hT => ?_⟩
  induction hT with
  | goal h1 h2 => rw [h.goal _ h1 h2]; omega
  | @step t d u c' k hg _ ih =>
    have hD : u ∈ D := by
      by_cases hd : u ∈ D
      · exact hd
      · have := h.pend u hd ih.1; simp at this
    have hb := Gr.go_back hG hg
    have hm : (⟨(d + 4) % 8, t, c'⟩ : Gr.St) ∈ G.around u := Gr.mem_around.2 hb
    have := h.rel u hD _ hm trivial
    simp only at this
    omega
/-- Not more tiles are gone from than there are. -/
theorem Dij.card (h : Dij G gs gp P c es D m) : D.length ≤ G.fs.length := by
  have key : ∀ (n : Nat) {f : List Nat} (_ : f.Nodup) (_ : ∀ i ∈ f, i < n), f.length ≤ n := by
    intro n
    induction n with
    | zero =>
      intro f _ hb
      cases f with
      | nil => simp
      | cons x f => have := hb x List.mem_cons_self; omega
    | succ n ih =>
      intro f h hb
      by_cases hn : n ∈ f
      · have h1 := ih (h.erase n) (fun i hi => by
          have h2 := hb i (List.mem_of_mem_erase hi)
          have h3 := (h.mem_erase_iff).1 hi
          have := h3.1
          omega)
        rw [List.length_erase_of_mem hn] at h1
        omega
      · have := ih h (fun i hi => by have := hb i hi; have : i ≠ n := fun e => hn (e ▸ hi); omega)
        omega
  refine key _ h.nodD (fun t ht => ?_)
  have := cAt_in (h.inD t ht).1
  rw [h.len] at this
  exact this
/-- A step along which a tile is reached. -/
theorem Dij.along (hG : G.Ok) (h : Dij G gs gp P c es D m) {t : Nat} {s : Gr.St} (_ : t ∈ D) (hc : cAt c t = m) (hs : s ∈ G.around t) (hlt : cAt c s.to = -1 ∨ m + s.c < cAt c s.to) :
    s.to ∉ D ∧ s.to < c.length ∧ Dij G gs gp P (c.set s.to (m + s.c)) (es ++ [(m + s.c, (s.to : Int))]) D m ∧ cAt (c.set s.to (m + s.c)) t = m := by
  have hg := Gr.mem_around.1 hs
  have hp := Gr.go_pos hg
  have hD : s.to ∉ D := fun hd => by have := h.inD _ hd; omega
  have hend := (Gr.go_end hG hg).1
  have hl : s.to < c.length := by rw [h.len]; exact Gr.free_in hend
  have hm0 : 0 ≤ m := by have := h.inD t ‹_›; omega
  have hT : Gr.To G gs s.to (m + s.c) := by
    have := h.real t (by omega)
    rw [hc] at this
    rw [Int.add_comm]
    exact .step (Gr.go_back hG hg) this
  refine ⟨hD, hl, h.reach hT hD (by omega) (by omega) hl hlt (fun h1 h2 => ?_), ?_⟩
  · have := h.goal _ h1 h2; omega
  · rw [cAt_set _ _ _ _ hl, if_neg (fun e : s.to = t => hD (e ▸ ‹t ∈ D›))]; exact hc
end
end Go.Proofs.YtilobedihjkpjaaDoor
