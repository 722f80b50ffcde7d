/-
  The walk along costs, in plain Lean.
-/
import Derived.Test.YtilobedihjkpjaaDoorDij
namespace Go.Proofs.YtilobedihjkpjaaDoor

/-- The next tile along costs. -/
def Gr.nxt (G : Gr) (c : List Int) (s : Nat) : Option Gr.St := (G.around s).find? fun x => decide (0 ≤ cAt c x.to) && decide (cAt c x.to = cAt c s - x.c)
/-- Where the walk along costs goes from a tile; none: it doesn't come to an end. -/
inductive Gr.Fol (G : Gr) (c : List Int) : Nat → Option (List Nat) → Prop
  | done {s : Nat} : ¬ 0 < cAt c s → Gr.Fol G c s (some [s])
  | stuck {s : Nat} : 0 < cAt c s → G.nxt c s = none → Gr.Fol G c s none
  | go {s : Nat} {x : Gr.St} {r : Option (List Nat)} : 0 < cAt c s → G.nxt c s = some x → Gr.Fol G c x.to r → Gr.Fol G c s (r.map (s :: ·))
/-- A row of tiles, each the next one of that before it. -/
def Gr.chain (G : Gr) (c : List Int) : List Nat → Prop
  | a :: b :: l => 0 < cAt c a ∧ (∃ x, G.nxt c a = some x ∧ x.to = b) ∧ Gr.chain G c (b :: l)
  | _ => True
section
variable {G : Gr} {c : List Int} {gs : List Nat}
theorem Gr.Fol.det {s : Nat} {r r' : Option (List Nat)} (h : Gr.Fol G c s r) (h' : Gr.Fol G c s r') : r = r' := by
  induction h generalizing r' with
  | done h => cases h' with
    | done => rfl
    | stuck k _ => exact absurd k h
    | go k _ _ => exact absurd k h
  | stuck h hn => cases h' with
    | done k => exact absurd h k
    | stuck => rfl
    | go _ k _ => rw [hn] at k; cases k
  | go h hn _ ih => cases h' with
    | done k => exact absurd h k
    | stuck _ k => rw [hn] at k; cases k
    | go _ k hf => rw [hn] at k; cases k; rw [ih hf]
theorem Gr.nxt_some {s : Nat} {x : Gr.St} (h : G.nxt c s = some x) : x ∈ G.around s ∧ 0 ≤ cAt c x.to ∧ cAt c x.to = cAt c s - x.c := by
  unfold Gr.nxt at h
  have := List.find?_some h
  simp only [Bool.and_eq_true, decide_eq_true_eq] at this
  exact ⟨List.mem_of_find?_eq_some h, this⟩
theorem Gr.nxt_less {s : Nat} {x : Gr.St} (h : G.nxt c s = some x) : cAt c x.to < cAt c s := by
  obtain ⟨h1, _, h2⟩ := Gr.nxt_some h
  have := Gr.go_pos (Gr.mem_around.1 h1)
  omega
/-- Along least costs the walk comes to its end: a goal; it costs what the costs tell. -/
theorem Least.nxt (hG : G.Ok) (h : Least G gs c) {s : Nat} (hs : 0 < cAt c s) : ∃ x, G.nxt c s = some x := by
  have h1 := h.real s (by omega)
  obtain ⟨k, hk⟩ : ∃ k, k = cAt c s := ⟨_, rfl⟩
  rw [← hk] at h1
  cases h1 with
  | goal _ _ => omega
  | @step _ d u c' k' hg hT =>
    have hm := h.min _ _ hT
    have hb := Gr.go_back hG hg
    have hp := Gr.go_pos hg
    have hr := h.min s (c' + cAt c u) (.step hg (h.real u hm.1))
    cases hn : G.nxt c s with
    | some x => exact ⟨x, rfl⟩
    | none =>
      unfold Gr.nxt at hn
      have := List.find?_eq_none.1 hn _ (show (⟨d, u, c'⟩ : Gr.St) ∈ G.around s from Gr.mem_around.2 hg)
      simp only [Bool.and_eq_true, decide_eq_true_eq, not_and] at this
      have := this hm.1
      omega
/-- A walk along: its tiles are free, its steps cost c's fall. -/
theorem Gr.Fol.walk (hG : G.Ok) {s : Nat} {r : Option (List Nat)} (hf : Gr.Fol G c s r) (hfree : G.free s = true) (h0 : 0 ≤ cAt c s) : ∀ w, r = some w → (∃ l, w = s :: l) ∧ (∀ t ∈ w, G.free t = true) ∧ G.walkC w = some (cAt c s) ∧ (∃ e, w.getLast? = some e ∧ cAt c e = 0) := by
  induction hf with
  | @done s h =>
    rintro w e
    cases e
    have : cAt c s = 0 := by omega
    exact ⟨⟨[], rfl⟩, by simpa using hfree, by rw [this]; rfl, _, rfl, this⟩
  | stuck _ _ => rintro w e; cases e
  | @go s x r hp hn hr ih =>
    rintro w e
    obtain ⟨h1, h2, h3⟩ := Gr.nxt_some hn
    have hg := Gr.mem_around.1 h1
    cases r with
    | none => cases e
    | some l =>
      simp only [Option.map_some, Option.some.injEq] at e
      subst e
      obtain ⟨⟨l', rfl⟩, a2, a3, z, a4, a5⟩ := ih (Gr.go_end hG hg).1 h2 l rfl
      refine ⟨⟨_, rfl⟩, ?_, ?_, z, ?_, a5⟩
      · intro t ht
        rcases List.mem_cons.1 ht with rfl | ht
        · exact hfree
        · exact a2 t ht
      · rw [Gr.walkC_cons a3 (Gr.edge_of hG hg)]
        congr 1
        omega
      · rw [List.getLast?_cons_cons]; exact a4
theorem Least.fol (hG : G.Ok) (h : Least G gs c) {s : Nat} (h0 : 0 ≤ cAt c s) : ∃ w, Gr.Fol G c s (some w) := by
  obtain ⟨n, hn⟩ : ∃ n : Nat, cAt c s ≤ n := ⟨(cAt c s).toNat, by omega⟩
  induction n generalizing s with
  | zero => exact ⟨_, .done (by omega)⟩
  | succ n ih =>
    by_cases hp : 0 < cAt c s
    · obtain ⟨x, hx⟩ := h.nxt hG hp
      obtain ⟨h1, h2, h3⟩ := Gr.nxt_some hx
      have := Gr.nxt_less hx
      obtain ⟨w, hw⟩ := ih (s := x.to) h2 (by omega)
      exact ⟨_, .go hp hx hw⟩
    · exact ⟨_, .done hp⟩
/-- Where a least cost is 0 a goal is. -/
theorem Least.zero (h : Least G gs c) {t : Nat} (h0 : cAt c t = 0) : t ∈ gs ∧ G.free t = true := by
  have h1 := h.real t (by omega)
  obtain ⟨k, hk⟩ : ∃ k, k = cAt c t := ⟨_, rfl⟩
  rw [← hk] at h1
  cases h1 with
  | goal a b => exact ⟨a, b⟩
  | @step _ d u c' k' hg hT =>
    have := (hT.free).2
    have := Gr.go_pos hg
    omega
/-- A walk of steps, from its end on. -/
theorem Gr.edge_go {a b : Nat} {k : Int} (h : G.edge a b = some k) : ∃ d, G.go a d = some (b, k) := by
  unfold Gr.edge at h
  cases hf : (G.around a).find? (fun s => s.to == b) with
  | none => rw [hf] at h; cases h
  | some s =>
    rw [hf] at h
    simp only [Option.map_some, Option.some.injEq] at h
    have h1 := List.find?_some hf
    have h2 := Gr.mem_around.1 (List.mem_of_find?_eq_some hf)
    have e : s.to = b := by simpa using h1
    rw [e, h] at h2
    exact ⟨s.d, h2⟩
/-- .. is a walk to its last tile. -/
theorem Gr.walk_to : ∀ (l : List Nat) {s e : Nat} {k : Int}, G.walkC (s :: l) = some k → (s :: l).getLast? = some e → G.free e = true → e ∈ gs → Gr.To G gs s k
  | [], s, e, k, hk, he, hf, hg => by
    simp [Gr.walkC] at hk
    simp at he
    subst hk he
    exact .goal hg hf
  | b :: l, s, e, k, hk, he, hf, hg => by
    simp only [Gr.walkC] at hk
    cases h1 : G.edge s b with
    | none => rw [h1] at hk; cases hk
    | some c =>
      rw [h1] at hk
      simp only [Option.bind_some] at hk
      cases h2 : G.walkC (b :: l) with
      | none => rw [h2] at hk; cases hk
      | some k' =>
        rw [h2] at hk
        simp only [Option.map_some, Option.some.injEq] at hk
        obtain ⟨d, hd⟩ := Gr.edge_go h1
        have := Gr.walk_to l h2 (by rw [List.getLast?_cons_cons] at he; exact he) hf hg
        rw [← hk]
        exact .step hd this
/-- To one goal, turned round. -/
theorem Gr.To.snoc (hG : G.Ok) {t d u : Nat} {k k' : Int} (h : G.go t d = some (u, k)) {s : Nat} (hT : Gr.To G [t] s k') : Gr.To G [u] s (k' + k) := by
  induction hT with
  | goal h1 h2 =>
    simp only [List.mem_singleton] at h1
    subst h1
    have := Gr.To.step h (.goal (List.mem_singleton.2 rfl) (Gr.go_end hG h).1)
    rwa [Int.add_comm] at this
  | step hg _ ih => rw [Int.add_assoc]; exact .step hg ih
theorem Gr.To.turn (hG : G.Ok) {s t : Nat} {k : Int} (h : Gr.To G [t] s k) : Gr.To G [s] t k := by
  have key : ∀ {gs : List Nat} {s : Nat} {k : Int}, Gr.To G gs s k → ∀ t, gs = [t] → Gr.To G [s] t k := by
    intro gs s k h
    induction h with
    | goal h1 h2 =>
      rintro t rfl
      simp only [List.mem_singleton] at h1
      subst h1
      exact .goal (List.mem_singleton.2 rfl) h2
    | @step a d u c' k' hg _ ih =>
      rintro t rfl
      have := (ih t rfl).snoc hG (Gr.go_back hG hg)
      rwa [Int.add_comm] at this
  exact key h t rfl
/-- .. and one behind the other. -/
theorem Gr.To.trans {a b d : Nat} {j k : Int} (h : Gr.To G [b] a j) (h' : Gr.To G [d] b k) : Gr.To G [d] a (j + k) := by
  have key : ∀ {gs : List Nat} {a : Nat} {j : Int}, Gr.To G gs a j → gs = [b] → Gr.To G [d] a (j + k) := by
    intro gs a j h
    induction h with
    | goal h1 h2 =>
      rintro rfl
      simp only [List.mem_singleton] at h1
      subst h1
      rw [Int.zero_add]; exact h'
    | step hg _ ih => intro e; rw [Int.add_assoc]; exact .step hg (ih e)
  exact key h rfl
theorem Gr.To.guess (hG : G.Ok) {a b : Nat} {k : Int} (h : Gr.To G [b] a k) : G.guess a b ≤ k := by
  have key : ∀ {gs : List Nat} {a : Nat} {j : Int}, Gr.To G gs a j → gs = [b] → G.guess a b ≤ j := by
    intro gs a j h
    induction h with
    | goal h1 h2 =>
      rintro rfl
      simp only [List.mem_singleton] at h1
      subst h1
      rw [Gr.guess_self]; exact Int.le_refl _
    | @step a d u c' k' hg _ ih =>
      intro e
      have h1 := ih e
      have h2 := Gr.go_guess hG hg
      have h3 := Gr.guess_tri (G := G) a u b
      omega
  exact key h rfl
theorem Gr.To.mono {t a : Nat} {k : Int} (h : Gr.To G gs a k) : Gr.To (G.set t true) gs a k := by
  induction h with
  | goal h1 h2 => exact .goal h1 (Gr.set_mono h2)
  | step hg _ ih => exact .step (Gr.go_mono hg) ih
/-- The way back costs the same. -/
theorem Least.turned (hG : G.Ok) {s t : Nat} {c d : List Int} (hc : Least G [t] c) (hd : Least G [s] d) : cAt c s = cAt d t := by
  rcases hc.low s with h0 | h0
  · rcases hd.low t with h1 | h1
    · rw [h0, h1]
    · have := (hc.min s _ ((hd.real t h1).turn hG)).1; omega
  · have h1 := hd.min t _ ((hc.real s h0).turn hG)
    have h2 := hc.min s _ ((hd.real t h1.1).turn hG)
    omega
/-- A walk along costs goes on from each of its tiles as from there. -/
theorem Gr.Fol.parts (hG : G.Ok) {s : Nat} {r : Option (List Nat)} (hf : Gr.Fol G c s r) (hfree : G.free s = true) (h0 : 0 ≤ cAt c s) : ∀ V, r = some V → ∀ (i u : Nat), V[i]? = some u →
    Gr.Fol G c u (some (V.drop i)) ∧ 0 ≤ cAt c u ∧ G.walkC (V.take (i + 1)) = some (cAt c s - cAt c u) ∧ ∀ x ∈ V.take (i + 1), G.free x = true := by
  induction hf with
  | @done s h =>
    rintro V e i u hi
    cases e
    cases i with
    | zero =>
      simp only [List.getElem?_cons_zero, Option.some.injEq] at hi
      subst hi
      exact ⟨.done h, h0, by simp [Gr.walkC, Int.sub_self], by simpa using hfree⟩
    | succ i => simp at hi
  | stuck _ _ => rintro V e; cases e
  | @go s x r hp hn hr ih =>
    rintro V e i u hi
    obtain ⟨h1, h2, h3⟩ := Gr.nxt_some hn
    have hg := Gr.mem_around.1 h1
    have hxf := (Gr.go_end hG hg).1
    cases r with
    | none => cases e
    | some l =>
      simp only [Option.map_some, Option.some.injEq] at e
      subst e
      cases i with
      | zero =>
        simp only [List.getElem?_cons_zero, Option.some.injEq] at hi
        subst hi
        have := Gr.Fol.go hp hn hr
        exact ⟨this, h0, by simp [Gr.walkC, Int.sub_self], by simpa using hfree⟩
      | succ i =>
        simp only [List.getElem?_cons_succ] at hi
        obtain ⟨a1, a2, a3, a4⟩ := ih hxf h2 l rfl i u hi
        obtain ⟨⟨l', hl'⟩, _⟩ := hr.walk hG hxf h2 l rfl
        refine ⟨by simpa using a1, a2, ?_, ?_⟩
        · rw [List.take_succ_cons]
          rw [hl', List.take_succ_cons] at a3 ⊢
          rw [Gr.walkC_cons a3 (Gr.edge_of hG hg)]
          congr 1
          omega
        · rw [List.take_succ_cons]
          intro y hy
          rcases List.mem_cons.1 hy with rfl | hy
          · exact hfree
          · exact a4 y hy
end
end Go.Proofs.YtilobedihjkpjaaDoor
