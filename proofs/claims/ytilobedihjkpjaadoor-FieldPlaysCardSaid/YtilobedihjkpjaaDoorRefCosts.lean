/-
  paddockref16's Costs: they come to the least costs.
-/
import Derived.Test.YtilobedihjkpjaaDoorDij
import Derived.Test.YtilobedihjkpjaaDoorRouteRun
import Derived.Test.YtilobedihjkpjaaDoorRouteFind
import Derived.Test.YtilobedihjkpjaaDoorRefGo
namespace Go.Proofs.YtilobedihjkpjaaDoor

/-- One step asked: the costs behind it. -/
def Gr.down1 (G : Gr) (c : List Int) (t d : Nat) : List Int :=
  match G.go t d with
  | some (u, k) => if 0 ≤ cAt c u ∧ (cAt c t < 0 ∨ cAt c u + k < cAt c t) then c.set t (cAt c u + k) else c
  | none => c
/-- Costs that are no less than the least ones. -/
structure Bf (G : Gr) (gs : List Nat) (c : List Int) : Prop where
  len : c.length = G.fs.length
  low : ∀ t, cAt c t = -1 ∨ 0 ≤ cAt c t
  real : ∀ t, 0 ≤ cAt c t → Gr.To G gs t (cAt c t)
  goal : ∀ t ∈ gs, G.free t = true → cAt c t = 0
/-- A round that began with c0: tile i is asked, d of its directions have been. -/
structure Rnd (G : Gr) (gs : List Nat) (c0 c : List Int) (i d : Nat) (b : Bool) : Prop where
  bf : Bf G gs c
  down : ∀ t, 0 ≤ cAt c0 t → 0 ≤ cAt c t ∧ cAt c t ≤ cAt c0 t
  did : ∀ t e u k, (t < i ∨ t = i ∧ e < d) → G.go t e = some (u, k) → 0 ≤ cAt c0 u → 0 ≤ cAt c t ∧ cAt c t ≤ cAt c0 u + k
  same : b = false → c = c0
def wrongs (cs c : List Int) (n : Nat) : Nat := (List.range n).countP fun t => decide (cAt c t ≠ cAt cs t)
section
variable {G : Gr} {gs : List Nat} {c c0 cs : List Int}
theorem Bf.in {t : Nat} (h : Bf G gs c) (ht : G.free t = true) : t < c.length := by rw [h.len]; exact Gr.free_in ht
theorem Bf.set (h : Bf G gs c) {t d u : Nat} {k : Int} (hg : G.go t d = some (u, k)) (hu : 0 ≤ cAt c u) (hl : cAt c t < 0 ∨ cAt c u + k < cAt c t) : Bf G gs (c.set t (cAt c u + k)) := by
  have hf := (Gr.go_some hg).1
  have hp := Gr.go_pos hg
  have hs := fun v => cAt_set c t v (cAt c u + k) (h.in hf)
  refine ⟨by simpa using h.len, fun v => ?_, fun v => ?_, fun v h1 h2 => ?_⟩
  · rw [hs]; split
    · right; omega
    · exact h.low v
  · rw [hs]; split
    · rename_i e; subst e; intro _
      rw [Int.add_comm]
      exact .step hg (h.real u hu)
    · exact h.real v
  · rw [hs]; split
    · rename_i e; subst e
      have := h.goal t h1 h2
      omega
    · exact h.goal v h1 h2
theorem Rnd.start (h : Bf G gs c) : Rnd G gs c c 0 0 false := ⟨h, fun _ h => ⟨h, Int.le_refl _⟩, fun t e u k h => by omega, fun _ => rfl⟩
theorem Rnd.next {i : Nat} {b : Bool} (h : Rnd G gs c0 c i 8 b) : Rnd G gs c0 c (i + 1) 0 b := ⟨h.bf, h.down, fun t e u k ht hg => h.did t e u k (by have := (Gr.go_some hg).2.1; omega) hg, h.same⟩
theorem Rnd.no {i d : Nat} {b : Bool} (h : Rnd G gs c0 c i d b) (hn : G.go i d = none) : Rnd G gs c0 c i (d + 1) b :=
  ⟨h.bf, h.down, fun t e u k ht hg => by
    by_cases he : t = i ∧ e = d
    · obtain ⟨rfl, rfl⟩ := he; rw [hn] at hg; cases hg
    · exact h.did t e u k (by omega) hg, h.same⟩
theorem Rnd.pass {i d u : Nat} {k : Int} {b : Bool} (h : Rnd G gs c0 c i d b) (hg : G.go i d = some (u, k)) (hn : ¬ (0 ≤ cAt c u ∧ (cAt c i < 0 ∨ cAt c u + k < cAt c i))) : Rnd G gs c0 c i (d + 1) b :=
  ⟨h.bf, h.down, fun t e v j ht hg' h0 => by
    by_cases he : t = i ∧ e = d
    · obtain ⟨rfl, rfl⟩ := he; rw [hg] at hg'; cases hg'
      have := h.down u h0
      omega
    · exact h.did t e v j (by omega) hg' h0, h.same⟩
theorem Rnd.yes {i d u : Nat} {k : Int} {b : Bool} (h : Rnd G gs c0 c i d b) (hg : G.go i d = some (u, k)) (hu : 0 ≤ cAt c u) (hl : cAt c i < 0 ∨ cAt c u + k < cAt c i) : Rnd G gs c0 (c.set i (cAt c u + k)) i (d + 1) true := by
  have hf := (Gr.go_some hg).1
  have hp := Gr.go_pos hg
  have hs := fun v => cAt_set c i v (cAt c u + k) (h.bf.in hf)
  refine ⟨h.bf.set hg hu hl, fun t h0 => ?_, fun t e v j ht hg' h0 => ?_, fun e => by cases e⟩
  · have := h.down t h0
    rw [hs]; split
    · rename_i e; subst e; omega
    · exact this
  · rw [hs]
    split
    · rename_i e'; subst e'
      by_cases he : e = d
      · subst he; rw [hg] at hg'; cases hg'
        have := h.down u h0
        omega
      · have := h.did i e v j (by omega) hg' h0
        omega
    · rename_i e'
      exact h.did t e v j (by omega) hg' h0
/-- A round in which nothing changes: the least costs. -/
theorem Rnd.still (h : Rnd G gs c0 c G.fs.length 0 false) : Least G gs c := by
  have e := h.same rfl
  subst e
  refine ⟨h.bf.len, h.bf.low, h.bf.real, fun t k hT => ?_⟩
  induction hT with
  | goal h1 h2 => rw [h.bf.goal _ h1 h2]; omega
  | @step t d u c' k hg _ ih =>
    have := h.did t d u c' (.inl (Gr.free_in (Gr.go_some hg).1)) hg ih.1
    omega
theorem Bf.high (h : Bf G gs c) (hs : Least G gs cs) (t : Nat) (h0 : 0 ≤ cAt c t) : 0 ≤ cAt cs t ∧ cAt cs t ≤ cAt c t := hs.min t _ (h.real t h0)
theorem Rnd.keeps {i d : Nat} {b : Bool} (h : Rnd G gs c0 c i d b) (hs : Least G gs cs) {t : Nat} (e : cAt c0 t = cAt cs t) : cAt c t = cAt cs t := by
  rcases hs.low t with h1 | h1
  · rcases h.bf.low t with h2 | h2
    · omega
    · have := h.bf.high hs t h2; omega
  · have h2 := h.down t (by omega)
    have h3 := h.bf.high hs t h2.1
    omega
theorem countP_lt {p q : Nat → Bool} : ∀ (l : List Nat) (_ : ∀ t ∈ l, q t = true → p t = true) (_ : ∃ t ∈ l, p t = true ∧ q t = false), l.countP q < l.countP p
  | [], _, h => by obtain ⟨t, h, _⟩ := h; cases h
  | a :: l, h1, h2 => by
    simp only [List.countP_cons]
    have hle : l.countP q ≤ l.countP p := List.countP_mono_left (fun t ht => h1 t (List.mem_cons_of_mem _ ht))
    obtain ⟨t, ht, hp, hq⟩ := h2
    rcases List.mem_cons.1 ht with rfl | ht
    · rw [hp, hq]; simp; omega
    · have := countP_lt l (fun t ht => h1 t (List.mem_cons_of_mem _ ht)) ⟨t, ht, hp, hq⟩
      have ha := h1 a List.mem_cons_self
      cases hqa : q a with
      | true => rw [ha hqa]; simp; omega
      | false => simp; omega
/-- Each round puts one tile right, if one is wrong. -/
theorem Rnd.better {b : Bool} (h0 : Bf G gs c0) (h : Rnd G gs c0 c G.fs.length 0 b) (hs : Least G gs cs) : wrongs cs c G.fs.length < wrongs cs c0 G.fs.length ∨ c0 = cs := by
  by_cases hx : ∃ t, t < G.fs.length ∧ cAt c0 t ≠ cAt cs t ∧ cAt c t = cAt cs t
  · obtain ⟨t, h1, h2, h3⟩ := hx
    left
    unfold wrongs
    refine countP_lt _ (fun u _ hu => ?_) ⟨t, List.mem_range.2 h1, by simpa using h2, by simpa using h3⟩
    simp only [decide_eq_true_eq] at hu ⊢
    exact fun e => hu (h.keeps hs e)
  · right
    have H : ∀ t, t < G.fs.length → cAt c t = cAt cs t → cAt c0 t = cAt cs t := fun t ht e => by
      by_cases e0 : cAt c0 t = cAt cs t
      · exact e0
      · exact absurd ⟨t, ht, e0, e⟩ hx
    have key : ∀ (n : Nat) (t : Nat), t < G.fs.length → cAt cs t ≤ n → cAt c0 t = cAt cs t := by
      intro n
      induction n with
      | zero =>
        intro t ht hn
        rcases hs.low t with h1 | h1
        · rcases h0.low t with h2 | h2
          · omega
          · have := h0.high hs t h2; omega
        · have hz := hs.real t h1
          obtain ⟨k, hk⟩ : ∃ k, k = cAt cs t := ⟨_, rfl⟩
          rw [← hk] at hz
          cases hz with
          | goal a b => rw [h0.goal t a b]; exact hk
          | @step _ d u c' k' hg hT =>
            have := hT.free.2
            have := Gr.go_pos hg
            omega
      | succ n ih =>
        intro t ht hn
        rcases hs.low t with h1 | h1
        · exact ih t ht (by omega)
        · have hz := hs.real t h1
          obtain ⟨k, hk⟩ : ∃ k, k = cAt cs t := ⟨_, rfl⟩
          rw [← hk] at hz
          cases hz with
          | goal a b => rw [h0.goal t a b]; exact hk
          | @step _ d u c' k' hg hT =>
            have hp := Gr.go_pos hg
            have hu := hs.min u k' hT
            have hul : u < G.fs.length := by have := cAt_in hu.1; rwa [hs.len] at this
            have hr := ih u hul (by omega)
            have hd := h.did t d u c' (.inl ht) hg (by omega)
            have hh := h.bf.high hs t hd.1
            exact H t ht (by omega)
    apply List.ext_getElem?
    intro t
    by_cases ht : t < G.fs.length
    · rw [cAt_get (by rw [h0.len]; exact ht), cAt_get (by rw [hs.len]; exact ht), key (cAt cs t).toNat t ht (by omega)]
    · rw [List.getElem?_eq_none (by rw [h0.len]; omega), List.getElem?_eq_none (by rw [hs.len]; omega)]
theorem wrongs_le (cs c : List Int) (n : Nat) : wrongs cs c n ≤ n := by unfold wrongs; exact Nat.le_trans List.countP_le_length (by simp)
theorem wrongs_none (h : Bf G gs c) (hs : Least G gs cs) (h0 : wrongs cs c G.fs.length = 0) : c = cs := by
  unfold wrongs at h0
  rw [List.countP_eq_zero] at h0
  apply List.ext_getElem?
  intro t
  by_cases ht : t < G.fs.length
  · have := h0 t (List.mem_range.2 ht)
    rw [cAt_get (by rw [h.len]; exact ht), cAt_get (by rw [hs.len]; exact ht)]
    simpa using this
  · rw [List.getElem?_eq_none (by rw [h.len]; omega), List.getElem?_eq_none (by rw [hs.len]; omega)]
end
end Go.Proofs.YtilobedihjkpjaaDoor
namespace Go.Proofs.YtilobedihjkpjaaDoor
/-- The goals' costs, so far. -/
structure BfS (G : Gr) (gs gp : List Nat) (c : List Int) : Prop where
  len : c.length = G.fs.length
  low : ∀ t, cAt c t = -1 ∨ (cAt c t = 0 ∧ t ∈ gs ∧ G.free t = true)
  goal : ∀ t ∈ gp, G.free t = true → cAt c t = 0
/-- What the rounds keep: each puts a tile right, if one is wrong. -/
def Good (cs c : List Int) (n round : Nat) : Prop := wrongs cs c n + round ≤ n ∨ c = cs
def RndB (G : Gr) (gs : List Nat) (c0 c : List Int) (i d : Nat) (b : Bool) (K : Nat) : Prop := Rnd G gs c0 c i d b ∧ ∀ t, cAt c t ≤ 14 * K
section
variable {G : Gr} {gs gp : List Nat} {c c0 cs : List Int} {t i d K : Nat} {b : Bool}
theorem BfS.start {n : Nat} (hl : c.length = G.fs.length) (h : ∀ t, cAt c t = -1) : BfS G gs [] c := by
  have _ := n
  exact ⟨hl, fun t => .inl (h t), by simp⟩
theorem BfS.pass (h : BfS G gs gp c) (hf : G.free t = false) : BfS G gs (gp ++ [t]) c :=
  ⟨h.len, h.low, fun u hu hfu => by
    rw [List.mem_append] at hu
    rcases hu with hu | hu
    · exact h.goal u hu hfu
    · simp only [List.mem_singleton] at hu; subst hu; rw [hf] at hfu; cases hfu⟩
theorem BfS.yes (h : BfS G gs gp c) (hf : G.free t = true) (hm : t ∈ gs) : BfS G gs (gp ++ [t]) (c.set t 0) := by
  have hl : t < c.length := by rw [h.len]; exact Gr.free_in hf
  have hs := fun u => cAt_set c t u 0 hl
  refine ⟨by simpa using h.len, fun u => ?_, fun u hu hfu => ?_⟩
  · rw [hs]; split
    · rename_i e; subst e; exact .inr ⟨rfl, hm, hf⟩
    · exact h.low u
  · rw [hs]; split
    · rfl
    · rename_i e
      rw [List.mem_append] at hu
      rcases hu with hu | hu
      · exact h.goal u hu hfu
      · simp only [List.mem_singleton] at hu; exact absurd hu.symm e
theorem BfS.bf (h : BfS G gs gs c) : Bf G gs c ∧ ∀ t, cAt c t ≤ 0 :=
  ⟨⟨h.len, fun t => by rcases h.low t with a | a; exact .inl a; exact .inr (by rw [a.1]; exact Int.le_refl _), fun t h0 => by
    rcases h.low t with a | a
    · omega
    · rw [a.1]; exact .goal a.2.1 a.2.2, h.goal⟩, fun t => by rcases h.low t with a | a <;> omega⟩
theorem Good.start (n : Nat) : Good cs c n 0 := .inl (by have := wrongs_le cs c n; omega)
theorem Good.next {n round : Nat} (hg : Good cs c0 n round) (hn : n = G.fs.length) (h0 : Bf G gs c0) (h : Rnd G gs c0 c n 0 b) (hs : Least G gs cs) : Good cs c n (round + 1) := by
  subst hn
  have hk : c0 = cs → c = cs := fun e => by
    apply List.ext_getElem?
    intro t
    by_cases ht : t < G.fs.length
    · rw [cAt_get (by rw [h.bf.len]; exact ht), cAt_get (by rw [hs.len]; exact ht), h.keeps hs (by rw [e])]
    · rw [List.getElem?_eq_none (by rw [h.bf.len]; omega), List.getElem?_eq_none (by rw [hs.len]; omega)]
  rcases hg with hg | hg
  · rcases h.better h0 hs with h1 | h1
    · left; omega
    · right; exact hk h1
  · right; exact hk hg
theorem Good.end {n : Nat} (hg : Good cs c n (n + 1)) : c = cs := by
  rcases hg with h | h
  · omega
  · exact h
theorem RndB.none (h : RndB G gs c0 c i d b K) (hn : G.go i d = none) : RndB G gs c0 c i (d + 1) b (K + 1) := ⟨h.1.no hn, fun t => by have := h.2 t; omega⟩
theorem RndB.pass {u : Nat} {k : Int} (h : RndB G gs c0 c i d b K) (hg : G.go i d = some (u, k)) (hn : ¬ (0 ≤ cAt c u ∧ (cAt c i < 0 ∨ cAt c u + k < cAt c i))) : RndB G gs c0 c i (d + 1) b (K + 1) := ⟨h.1.pass hg hn, fun t => by have := h.2 t; omega⟩
theorem RndB.yes {u : Nat} {k : Int} (h : RndB G gs c0 c i d b K) (hg : G.go i d = some (u, k)) (hu : 0 ≤ cAt c u) (hl : cAt c i < 0 ∨ cAt c u + k < cAt c i) : RndB G gs c0 (c.set i (cAt c u + k)) i (d + 1) true (K + 1) :=
  ⟨h.1.yes hg hu hl, fun t => by
    rw [cAt_set _ _ _ _ (h.1.bf.in (Gr.go_some hg).1)]
    have h1 := h.2 t
    have h2 := h.2 u
    have h3 := Gr.go_pos hg
    split <;> omega⟩
theorem RndB.next (h : RndB G gs c0 c i 8 b K) : RndB G gs c0 c (i + 1) 0 b K := ⟨h.1.next, h.2⟩
end
end Go.Proofs.YtilobedihjkpjaaDoor
namespace Go.Proofs.YtilobedihjkpjaaDoor.Route
open Go Go.RowKit Go.Proofs.YtilobedihjkpjaaDoor.Steps
section
variable {w0 w : World} {L : List Res} {g n cc : Nat} {c : List Int}
theorem row_cell (X : Star w0 w (costR g n cc c :: L)) (t : Nat) (ht : t < n) : c.length = n ∧ w.cell? ⟨g, t, none⟩ = some (.int .i64 (cAt c t)) ∧ w.frozen? ⟨g, t, none⟩ = false ∧ g < w.heap.size := by
  have hr := (X.row 0 rfl).1
  have hl : c.length = n := by have := hr.1; simpa using this
  exact ⟨hl, (hr.cellAt t (by omega)).trans (by rw [List.getElem?_map, cAt_get (by omega)]; rfl), hr.frozenAt t, (hr.lt g rfl).2⟩
theorem row_set (X : Star w0 w (costR g n cc c :: L)) (t : Nat) (k : Int) : Star w0 (w.setCell ⟨g, t, none⟩ (.int .i64 k)) (costR g n cc (c.set t k) :: L) := by
  have h := X.store 0 rfl t (.int .i64 k)
  simp only [List.set_cons_zero] at h
  rw [← List.map_set] at h
  exact h
end
section
variable {w : World} {p pg pc : Nat} {G : Gr}
set_option maxRecDepth 100000 in
set_option maxHeartbeats 8000000 in
theorem rcosts_any (hG : Gnd 76 w p pg pc G) (gs : List Nat) (v : Value) (hr : Reads w v gs.length 1 (gC gs)) (h8 : gs.length ≤ 1000000) (hin : ∀ t ∈ gs, t < G.fs.length) :
    Calls Tryd.prog 79 #[.pointer (some ⟨p, 0, none⟩), v] w fun r w' => ∃ c g cc, r = .returned (.slice (some ⟨g, 0, none⟩) G.fs.length cc) ∧ Least G gs c ∧ Star w w' [costR g G.fs.length cc c] := by
  obtain ⟨i0, hi0, hz0, hz1, hz2⟩ := info_parts infoInt
  obtain ⟨av, cv, rfl⟩ := hr.slice
  obtain ⟨cs, hcs⟩ := Least.exists G gs
  have HCS := hid hcs
  have HG := hid hG
  have HR := hid hr
  have HIN := hid hin
  have hN := hG.ok.max
  have c2 := hG.c2
  have hpl := hG.pl
  obtain ⟨n, hn⟩ : ∃ n, n = G.fs.length := ⟨_, rfl⟩
  obtain ⟨l, hl⟩ : ∃ l, l = gs.length := ⟨_, rfl⟩
  have HN := hid hn
  have HL := hid hl
  rw [← hn] at hN HIN c2 ⊢
  rw [← hl] at h8 HR ⊢
  have hby : i0.bytes * n ≤ 281474976710656 := by rw [hz2]; omega
  clear hG hr hin hn hl hcs
  go_enter Tryd.func79, Tryd.ntmps79
  go_wp2_with (at_make; refine wpList_make_full _ rfl _ _ 24 rfl 0 3 i0 (.int .i64 0) 1 Tryd.underlying24 hi0 hz0 hz1 _ _ _ _ n rfl rfl rfl rfl hby (by unfold maxLen; omega) (Nat.zero_le _) ?_; intro wc hoc hgc; have XC := hid ((Star.new w).add (w' := wc) ((Chg.refl _).grown hgc (fun k e _ => by cases e)) (R := costR w.heap.size n n (noC n 0)) ⟨by rw [made_zeros, ← noC_zero] at hoc; exact hoc, rfl⟩ (fun k h => by have h' := Option.some.inj h; rw [← h']; exact Nat.le_refl _)); clear hoc hgc)
  clear hby c2 hpl
  generalize w.heap.size = g at *
  go_loopw [6, 23] (fun _ iv wr => ∃ k : Nat, k ≤ n ∧ iv = .int .i64 k ∧ Star w wr [costR g n n (noC n k)]) (fun _ iv _ => n - (intOf iv).toNat)
  case atStart => exact ⟨0, by omega, rfl, XC.out⟩
  case round =>
    obtain ⟨k, hk, rfl, hX⟩ := hrel
    clear XC
    by_cases hkn : k < n
    · obtain ⟨-, e0, ef, gl⟩ := row_cell hX k hkn
      have hY := row_set hX k (-1)
      rw [noC_set] at hY
      have Y := hid hY
      clear hX hY
      go_wp2
      go_roundw
      case rel => exact ⟨k + 1, by omega, by go_num, Y.out⟩
      case measure => simp [intOf]; omega
    · obtain rfl : k = n := by omega
      have X := hid hX
      clear hX
      have HB : Hid (∀ (j t : Nat), gs[j]? = some t → ∃ b off cap, Value.slice av l cv = .slice (some ⟨b, off, none⟩) l cap ∧ w.cell? ⟨b, off + j, none⟩ = some (.int .i64 t) ∧ t < k) := hid (fun j t ht => by
        have hj := (List.getElem?_eq_some_iff.1 ht).1
        obtain ⟨b, off, cap, e, _, hc⟩ := HR.out.open (by have := HL.out; omega)
        exact ⟨b, off, cap, e, hc j _ (by unfold gC; rw [List.getElem?_map, ht]; rfl), HIN.out t (List.mem_of_getElem? ht)⟩)
      have hst : BfS G gs (gs.take 0) (noC k k) := by rw [List.take_zero]; exact BfS.start (n := k) (by rw [noC_len]; exact HN.out) (noC_at k)
      have HS := hid hst
      clear HR hst
      go_wp2_with fail
      go_loopw [8, 32] (fun _ iv wr => ∃ (j : Nat) (c : List Int), j ≤ l ∧ iv = .int .i64 j ∧ BfS G gs (gs.take j) c ∧ Star w wr [costR g k k c]) (fun _ iv _ => l - (intOf iv).toNat)
      case atStart => exact ⟨0, _, by omega, rfl, HS.out, X.out⟩
      case round =>
        obtain ⟨j, c, hj, rfl, hI, hX⟩ := hrel
        have X2 := hid hX
        have HI := hid hI
        clear hX hI X HS
        by_cases hjl : j < l
        · obtain ⟨t, ht⟩ : ∃ t, gs[j]? = some t := ⟨_, List.getElem?_eq_getElem (by have := HL.out; omega)⟩
          obtain ⟨b, off, cap, e1, hc, htk⟩ := HB.out j t ht
          cases e1
          have hcj := X2.out.same.keep hc
          have hbl := World.block_lt_of_cell? _ _ hcj
          have HTK := hid (show gs.take (j + 1) = gs.take j ++ [t] by
            obtain ⟨h1, h2⟩ := List.getElem?_eq_some_iff.1 ht
            rw [List.take_succ_eq_append_getElem h1, h2])
          have HM := hid (List.mem_of_getElem? ht)
          have H2 := hid (HG.out.same X2.out.same)
          have hht : G.has (t : Int) = true := by unfold Gr.has; rw [← HN.out]; exact decide_eq_true (by omega)
          have g2 := H2.out.c2
          have gp := H2.out.pl
          have gt := H2.out.get t (by rw [← HN.out]; exact htk)
          have gg := H2.out.gl
          obtain ⟨-, e0, ef, gl⟩ := row_cell X2.out t htk
          have hY := row_set X2.out t 0
          have Y := hid hY
          rw [← HN.out] at g2
          clear hc ht hY
          go_wp2_with fail
          refine (rhas_any H2.out _).mono ?_
          rintro r w' ⟨rfl, rfl⟩
          rw [hht]
          cases hf : G.free t with
          | true =>
            rw [hf] at gt
            have HI2 := hid (HI.out.yes hf HM.out)
            go_wp2
            go_roundw
            case rel => exact ⟨j + 1, _, by omega, by go_num, by rw [HTK.out]; exact HI2.out, Y.out⟩
            case measure => simp [intOf]; omega
          | false =>
            rw [hf] at gt
            have HI2 := hid (HI.out.pass hf)
            go_wp2
            go_roundw
            case rel => exact ⟨j + 1, _, by omega, by go_num, by rw [HTK.out]; exact HI2.out, X2.out⟩
            case measure => simp [intOf]; omega
        · have hbf := HI.out
          rw [List.take_of_length_le (by have := HL.out; omega)] at hbf
          have HBF := hid hbf.bf
          clear hbf HI HB
          go_wp2_with fail
          go_loopw [9, 10] (fun rv _ wr => ∃ (round : Nat) (c : List Int), round ≤ k + 1 ∧ rv = .int .i64 round ∧ Bf G gs c ∧ Good cs c k round ∧ (∀ t, cAt c t ≤ 14 * (8 * k * round : Nat)) ∧ Star w wr [costR g k k c]) (fun rv _ _ => k + 1 - (intOf rv).toNat)
          case atStart => exact ⟨0, c, by omega, rfl, HBF.out.1, Good.start k, fun t => by have := HBF.out.2 t; simpa using this, X2.out⟩
          case round =>
            obtain ⟨round, c0, hrd, rfl, hb0, hgd, htop, hX⟩ := hrel
            have X := hid hX
            have HB0 := hid hb0
            have HGD := hid hgd
            obtain ⟨Kr, hKr⟩ : ∃ x, x = 8 * k * round := ⟨_, rfl⟩
            have HK1 := hid (show 8 * k * (round + 1) = Kr + 8 * k by rw [hKr, Nat.mul_succ])
            have hKb : Kr ≤ 8 * 1024 * 1025 := by rw [hKr]; exact Nat.mul_le_mul (by omega) (by omega)
            rw [← hKr] at htop
            have HTOP := hid htop
            clear hb0 hgd hX htop hKr X2 HBF
            by_cases hrk : round ≤ k
            · go_wp2_with fail
              have hr0 : RndB G gs c0 c0 0 0 false Kr := ⟨Rnd.start HB0.out, HTOP.out⟩
              have HR0 := hid hr0
              clear hr0
              go_loopw [10, 11, 60] (fun bv _ iv wr => ∃ (i : Nat) (c : List Int) (b : Bool), i ≤ k ∧ iv = .int .i64 i ∧ bv = .bool b ∧ RndB G gs c0 c i 0 b (Kr + 8 * i) ∧ Star w wr [costR g k k c]) (fun _ _ iv _ => k - (intOf iv).toNat)
              case atStart => exact ⟨0, c0, false, by omega, rfl, rfl, HR0.out, X.out⟩
              case round =>
                obtain ⟨i, c, b, hi, rfl, rfl, hI, hX⟩ := hrel
                have X2 := hid hX
                have HI := hid hI
                clear hX hI X HR0
                by_cases hik : i < k
                · have HI0 : Hid (RndB G gs c0 c i 0 b (Kr + 8 * i + 0)) := HI
                  go_wp2_with fail
                  go_loopw [10, 12] (fun bv dv wr => ∃ (d : Nat) (c : List Int) (b : Bool), d ≤ 8 ∧ dv = .int .i64 d ∧ bv = .bool b ∧ RndB G gs c0 c i d b (Kr + 8 * i + d) ∧ Star w wr [costR g k k c]) (fun _ dv _ => 8 - (intOf dv).toNat)
                  case atStart => exact ⟨0, c, b, by omega, rfl, rfl, HI0.out, X2.out⟩
                  case round =>
                    obtain ⟨d, c, b, hd, rfl, rfl, hI, hX⟩ := hrel
                    have X := hid hX
                    have HI := hid hI
                    clear hX hI X2 HI0
                    by_cases hd8 : d < 8
                    · have H5 := hid (HG.out.same X.out.same)
                      go_wp2_with fail
                      refine (rgo_any H5.out i d).mono ?_
                      rintro r w6 ⟨rfl, hs6⟩
                      rw [Gr.goI_nat]
                      have X6 := hid (X.out.go hs6)
                      clear hs6 X H5
                      obtain ⟨-, e0, ef, gl⟩ := row_cell X6.out i hik
                      have hti := HI.out.2 i
                      cases hgo : G.go i d with
                      | none =>
                        have HI2 := hid (HI.out.none hgo)
                        unfold refV
                        clear e0 ef gl hgo
                        go_wp2
                        go_quiet (fail)
                        go_wp2
                        go_roundw
                        case rel => exact ⟨d + 1, c, b, by omega, by go_num, rfl, HI2.out, X6.out.go ((Chg.refl _).drewN _)⟩
                        case measure => simp [intOf]; omega
                      | some p1 =>
                        obtain ⟨u, kc⟩ := p1
                        have hpos := Gr.go_pos hgo
                        have hul : u < k := by have := Gr.free_in (Gr.go_end HG.out.ok hgo).1; rwa [← HN.out] at this
                        obtain ⟨-, f0, -, -⟩ := row_cell X6.out u hul
                        have htu := HI.out.2 u
                        have HGO := hid hgo
                        unfold refV
                        clear hgo
                        by_cases hu : 0 ≤ cAt c u
                        · by_cases hi0 : cAt c i < 0
                          · have HI2 := hid (HI.out.yes HGO.out hu (.inl hi0))
                            have hw1 : IntKind.i64.wrap (cAt c u + kc) = cAt c u + kc := IntWalk.i64_in _ (by omega)
                            generalize hce : cAt c u = cu at *
                            generalize hci : cAt c i = ci at *
                            have hY := row_set (X6.out.go ((Chg.refl _).drewN 0)) i (cu + kc)
                            have YS := hid (fun nq => row_set (X6.out.go ((Chg.refl w6).drewN nq)) i (cu + kc))
                            clear hY hce hci
                            go_wp2
                            go_quiet (fail)
                            go_wp2
                            go_roundw
                            case rel => exact ⟨d + 1, _, true, by omega, by go_num, rfl, HI2.out, YS.out _⟩
                            case measure => simp [intOf]; omega
                          · by_cases hlt : cAt c u + kc < cAt c i
                            · have HI2 := hid (HI.out.yes HGO.out hu (.inr hlt))
                              have hw1 : IntKind.i64.wrap (cAt c u + kc) = cAt c u + kc := IntWalk.i64_in _ (by omega)
                              have hd0 : decide (cAt c i < 0) = false := decide_eq_false hi0
                              generalize hce : cAt c u = cu at *
                              generalize hci : cAt c i = ci at *
                              have YS := hid (fun nq => row_set (X6.out.go ((Chg.refl w6).drewN nq)) i (cu + kc))
                              clear hce hci
                              go_wp2
                              go_quiet (fail)
                              go_wp2
                              go_roundw
                              case rel => exact ⟨d + 1, _, true, by omega, by go_num, rfl, HI2.out, YS.out _⟩
                              case measure => simp [intOf]; omega
                            · have HI2 := hid (HI.out.pass HGO.out (by omega))
                              have hw1 : IntKind.i64.wrap (cAt c u + kc) = cAt c u + kc := IntWalk.i64_in _ (by omega)
                              have hd0 : decide (cAt c i < 0) = false := decide_eq_false hi0
                              generalize hce : cAt c u = cu at *
                              generalize hci : cAt c i = ci at *
                              clear hce hci
                              go_wp2
                              go_quiet (fail)
                              go_wp2
                              go_roundw
                              case rel => exact ⟨d + 1, c, b, by omega, by go_num, rfl, HI2.out, X6.out.go ((Chg.refl _).drewN _)⟩
                              case measure => simp [intOf]; omega
                        · have HI2 := hid (HI.out.pass HGO.out (fun h => hu h.1))
                          have hd0 : decide (0 ≤ cAt c u) = false := decide_eq_false hu
                          generalize hce : cAt c u = cu at *
                          generalize hci : cAt c i = ci at *
                          clear hce hci
                          go_wp2
                          go_quiet (fail)
                          go_wp2
                          go_roundw
                          case rel => exact ⟨d + 1, c, b, by omega, by go_num, rfl, HI2.out, X6.out.go ((Chg.refl _).drewN _)⟩
                          case measure => simp [intOf]; omega
                    · obtain rfl : d = 8 := by omega
                      have HI2 := hid (HI.out.next)
                      go_wp2
                      go_roundw
                      case rel => exact ⟨i + 1, c, b, by omega, by go_num, rfl, HI2.out, X.out⟩
                      case measure => simp [intOf]; omega
                · obtain rfl : i = k := by omega
                  have HG2 := hid (HGD.out.next HN.out HB0.out HI.out.1 HCS.out)
                  cases b with
                  | false =>
                    have HLE := hid ((show Rnd G gs c0 c G.fs.length 0 false by rw [← HN.out]; exact HI.out.1).still)
                    go_wp2
                    go_ret
                    exact ⟨c, g, i, rfl, HLE.out, X2.out⟩
                  | true =>
                    go_wp2
                    go_roundw
                    case rel => exact ⟨round + 1, c, by omega, by go_num, HI.out.1.bf, HG2.out, fun t => by rw [HK1.out]; exact HI.out.2 t, X2.out⟩
                    case measure => simp [intOf]; omega
            · obtain rfl : round = k + 1 := by omega
              have HE := hid (HGD.out.end)
              go_wp2
              go_ret
              exact ⟨c0, g, k, rfl, by rw [HE.out]; exact HCS.out, X.out⟩
end
end Go.Proofs.YtilobedihjkpjaaDoor.Route
