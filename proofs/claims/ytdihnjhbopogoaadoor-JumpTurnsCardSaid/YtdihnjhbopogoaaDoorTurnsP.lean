/-
  Where a walk turns, in plain Lean: these tiles, expanded, are the walk.
-/
import Derived.Test.YtdihnjhbopogoaaDoorExpP
import Derived.Test.YtdihnjhbopogoaaDoorStepCostP
namespace Go.Proofs.YtdihnjhbopogoaaDoor
open Go.Proofs.YtdihnjhbopogoaaDoor.Steps
/-- The direction of the step from a tile to another one. -/
def Gr.dirTo (G : Gr) (a b : Nat) : Int := match (G.aroundI a).find? (fun s => (s.to : Int) == (b : Int)) with
  | some s => s.d
  | none => -1
def Gr.Lin (G : Gr) (d : Nat) : Nat → List Nat → Prop
  | _, [] => True
  | t, u :: l => (∃ c, G.go t d = some (u, c)) ∧ Gr.Lin G d u l
/-- Does the walk turn at its i-th tile? -/
def Gr.turnAt (G : Gr) (ns : List Nat) (i : Nat) : Bool := decide (0 < i) && (G.dirTo (ns.getD i 0) (ns.getD (i + 1) 0) != G.dirTo (ns.getD (i - 1) 0) (ns.getD i 0))
def Gr.tr (G : Gr) (ns : List Nat) : Nat → List Nat
  | 0 => [ns.getD 0 0]
  | i + 1 => Gr.tr G ns i ++ (if G.turnAt ns i = true then [ns.getD i 0] else [])
def Gr.turns (G : Gr) (ns : List Nat) : List Nat := if 1 < ns.length then G.tr ns (ns.length - 1) ++ [ns.getD (ns.length - 1) 0] else G.tr ns 0
def Gr.refTurn (G : Gr) (a t b : Nat) : Bool := (G.X t - G.X a != G.X b - G.X t) || (G.Y t - G.Y a != G.Y b - G.Y t)
section
variable {G : Gr}
theorem getD_of {ns : List Nat} {i a : Nat} (h : ns[i]? = some a) : ns.getD i 0 = a := by rw [List.getD_eq_getElem?_getD, h]; rfl
theorem Gr.walkC_edge : ∀ (l : List Nat) {k : Int}, G.walkC l = some k → ∀ (i a b : Nat), l[i]? = some a → l[i + 1]? = some b → ∃ e, G.edge a b = some e
  | [], _, _, i, a, b, h, _ => by simp at h
  | [_], _, _, i, a, b, _, h => by simp at h
  | x :: y :: l, k, h, i, a, b, h1, h2 => by
    unfold Gr.walkC at h
    cases he : G.edge x y with
    | none => rw [he] at h; cases h
    | some e =>
      rw [he] at h
      simp only [Option.bind_some] at h
      obtain ⟨k1, h3, _⟩ := Option.map_eq_some_iff.1 h
      cases i with
      | zero =>
        simp at h1 h2
        subst h1 h2
        exact ⟨e, he⟩
      | succ i => exact Gr.walkC_edge (y :: l) h3 i a b (by simpa using h1) (by simpa using h2)
/-- A step's direction. -/
theorem Gr.edge_dir {a b : Nat} {e : Int} (h : G.edge a b = some e) : ∃ (d : Nat) (c : Int), G.go a d = some (b, c) ∧ G.dirTo a b = d ∧ ∃ s : Gr.St, (G.aroundI a).find? (fun s => (s.to : Int) == (b : Int)) = some s ∧ s.d = d := by
  rw [edge_find] at h
  obtain ⟨s, hs, _⟩ := Option.map_eq_some_iff.1 h
  have hm := List.mem_of_find?_eq_some hs
  have ht := List.find?_some hs
  rw [Gr.aroundI_nat] at hm
  have hg := Gr.mem_around.1 hm
  have e2 : s.to = b := by have := beq_iff_eq.1 ht; omega
  rw [e2] at hg
  exact ⟨s.d, s.c, hg, by unfold Gr.dirTo; rw [hs], s, hs, rfl⟩
theorem Gr.Lin.wk {d : Nat} : ∀ (l : List Nat) {t u : Nat}, Gr.Lin G d t l → (t :: l).getLast? = some u → G.wk t (List.replicate l.length d) = some u
  | [], t, u, _, h => by simpa [Gr.wk] using h
  | v :: l, t, u, ⟨⟨c, hc⟩, h1⟩, h => by
    rw [List.length_cons, List.replicate_succ]
    unfold Gr.wk
    rw [hc]
    rw [List.getLast?_cons_cons] at h
    exact Gr.Lin.wk l h1 h
theorem Gr.Lin.upto (hG : G.Ok) {d : Nat} : ∀ (l : List Nat) {t u : Nat}, Gr.Lin G d t l → l ≠ [] → (t :: l).getLast? = some u → upto u (G.ray t d) = some l
  | [], _, _, _, h, _ => absurd rfl h
  | v :: l, t, u, ⟨⟨c, hc⟩, h1⟩, _, h => by
    rw [Gr.ray_go hG hc]
    unfold Go.Proofs.YtdihnjhbopogoaaDoor.upto
    rw [List.getLast?_cons_cons] at h
    cases l with
    | nil =>
      obtain rfl : v = u := by simpa using h
      rw [if_pos rfl]
    | cons x l =>
      have hw := Gr.Lin.wk (x :: l) h1 h
      have hne := (Gr.line_guess hG hw (by simp)).2
      rw [if_neg hne, Gr.Lin.upto hG (x :: l) h1 (by simp) h]
      rfl
theorem Gr.Lin.along (hG : G.Ok) {d : Nat} {l : List Nat} {t u : Nat} (h : Gr.Lin G d t l) (hl : l ≠ []) (hu : (t :: l).getLast? = some u) : G.along t u = some l := by
  have hlen : 1 ≤ l.length := by cases l with | nil => exact absurd rfl hl | cons _ _ => simp
  rw [Gr.along_line hG hlen (Gr.Lin.wk l h hu)]
  exact Gr.Lin.upto hG l h hl hu
theorem Gr.Lin.snoc {d : Nat} : ∀ (l : List Nat) {t p u : Nat} {c : Int}, Gr.Lin G d t l → (t :: l).getLast? = some p → G.go p d = some (u, c) → Gr.Lin G d t (l ++ [u])
  | [], t, p, u, c, _, h, hg => by
    obtain rfl : t = p := by simpa using h
    exact ⟨⟨c, hg⟩, trivial⟩
  | v :: l, t, p, u, c, ⟨h0, h1⟩, h, hg => by
    rw [List.getLast?_cons_cons] at h
    exact ⟨h0, Gr.Lin.snoc l h1 h hg⟩
theorem take_more {ns : List Nat} {i b : Nat} (h : ns[i]? = some b) : ns.take (i + 1) = ns.take i ++ [b] := by rw [List.take_add_one, h]; rfl
/-- What is so of a walk's turns before its i-th tile. -/
theorem Gr.turnInv (hG : G.Ok) {ns : List Nat} {k : Int} (hw : G.walkC ns = some k) : ∀ (i a x : Nat), ns[i]? = some a → ns[0]? = some x →
    ∃ (pre : List Nat) (p : Nat) (W seg : List Nat) (d : Nat), G.tr ns i = pre ++ [p] ∧ (pre ++ [p])[0]? = some x ∧ G.expT (pre ++ [p]) = some W ∧ Gr.Lin G d p seg ∧ ns.take (i + 1) = x :: (W ++ seg) ∧ (p :: seg).getLast? = some a ∧ (0 < i → seg ≠ [] ∧ G.dirTo (ns.getD (i - 1) 0) a = d) ∧ (i = 0 → seg = []) := by
  intro i
  induction i with
  | zero =>
    intro a x ha hx
    rw [ha] at hx
    obtain rfl := Option.some.inj hx
    refine ⟨[], a, [], [], 0, by show [ns.getD 0 0] = [] ++ [a]; rw [getD_of ha]; rfl, rfl, rfl, trivial, by rw [take_more ha]; rfl, rfl, by omega, fun _ => rfl⟩
  | succ i ih =>
    intro b x hb hx
    have hil : i < ns.length := by have := (List.getElem?_eq_some_iff.1 hb).1; omega
    obtain ⟨a, ha⟩ : ∃ a, ns[i]? = some a := ⟨_, List.getElem?_eq_getElem hil⟩
    obtain ⟨pre, p, W, seg, d, h1, h2, h3, h4, h5, h6, h7, h8⟩ := ih a x ha hx
    obtain ⟨e0, he0⟩ := Gr.walkC_edge ns hw i a b ha hb
    obtain ⟨e, c, hgo, hdir, _⟩ := Gr.edge_dir he0
    have hta : G.turnAt ns i = (decide (0 < i) && ((e : Int) != G.dirTo (ns.getD (i - 1) 0) a)) := by
      unfold Gr.turnAt
      rw [getD_of ha, getD_of hb, hdir]
    have htk : ns.take (i + 1 + 1) = ns.take (i + 1) ++ [b] := take_more hb
    by_cases hi : i = 0
    · subst hi
      obtain rfl := h8 rfl
      obtain rfl : p = a := by simpa using h6
      refine ⟨pre, p, W, [b], e, ?_, h2, h3, ⟨⟨c, hgo⟩, trivial⟩, by rw [htk, h5]; simp, by simp, fun _ => ⟨by simp, ?_⟩, by omega⟩
      · unfold Gr.tr
        rw [hta, h1]
        simp
      · rw [Nat.add_sub_cancel, getD_of ha]; exact hdir
    · obtain ⟨h9, h10⟩ := h7 (by omega)
      rw [h10] at hta
      by_cases hed : e = d
      · subst hed
        refine ⟨pre, p, W, seg ++ [b], e, ?_, h2, h3, Gr.Lin.snoc seg h4 h6 hgo, by rw [htk, h5]; simp, by rw [← List.cons_append, List.getLast?_append]; rfl, fun _ => ⟨by simp, ?_⟩, by omega⟩
        · unfold Gr.tr
          rw [hta, h1]
          simp
        · rw [Nat.add_sub_cancel, getD_of ha]; exact hdir
      · have hal := Gr.Lin.along hG h4 h9 h6
        refine ⟨pre ++ [p], a, W ++ seg, [b], e, ?_, ?_, Gr.expT_snoc pre h3 hal, ⟨⟨c, hgo⟩, trivial⟩, by rw [htk, h5]; simp, by simp, fun _ => ⟨by simp, ?_⟩, by omega⟩
        · unfold Gr.tr
          have : G.turnAt ns i = true := by
            rw [hta, decide_eq_true (by omega), Bool.true_and, bne_iff_ne]
            omega
          rw [this, if_pos rfl, h1, getD_of ha]
        · rw [List.getElem?_append_left (by simp)]; exact h2
        · rw [Nat.add_sub_cancel, getD_of ha]; exact hdir
theorem Gr.tr_mem {ns : List Nat} : ∀ (i : Nat), i < ns.length → ∀ t ∈ G.tr ns i, t ∈ ns := by
  have hat : ∀ i, i < ns.length → ns.getD i 0 ∈ ns := fun i hi => by rw [List.getD_eq_getElem?_getD, List.getElem?_eq_getElem hi]; exact List.getElem_mem hi
  intro i
  induction i with
  | zero => intro hi t ht; simp only [Gr.tr, List.mem_singleton] at ht; rw [ht]; exact hat 0 hi
  | succ i ih =>
    intro hi t ht
    unfold Gr.tr at ht
    rcases List.mem_append.1 ht with ht | ht
    · exact ih (by omega) t ht
    · split at ht
      · simp only [List.mem_singleton] at ht; rw [ht]; exact hat i (by omega)
      · cases ht
theorem Gr.tr_len (ns : List Nat) : ∀ (i : Nat), (G.tr ns i).length ≤ i + 1 := by
  intro i
  induction i with
  | zero => simp [Gr.tr]
  | succ i ih =>
    unfold Gr.tr
    rw [List.length_append]
    split <;> simp <;> omega
theorem Gr.turns_len (ns : List Nat) : (G.turns ns).length ≤ ns.length + 1 := by
  unfold Gr.turns
  split
  · have := Gr.tr_len (G := G) ns (ns.length - 1)
    rw [List.length_append, List.length_singleton]; omega
  · have := Gr.tr_len (G := G) ns 0; omega
/-- The turns, expanded, are the walk. -/
theorem Gr.turns_expand (hG : G.Ok) {ns : List Nat} {k : Int} (hne : ns ≠ []) (hfr : ∀ t ∈ ns, G.free t = true) (hw : G.walkC ns = some k) : G.expand ((G.turns ns).map Int.ofNat) = (some ns, 0) := by
  have hback : ∀ l : List Nat, (l.map Int.ofNat).map Int.toNat = l := fun l => by simp [List.map_map, Function.comp_def]
  have hpos : 0 < ns.length := by cases ns with | nil => exact absurd rfl hne | cons _ _ => simp
  obtain ⟨x, hx⟩ : ∃ x, ns[0]? = some x := ⟨_, List.getElem?_eq_getElem hpos⟩
  obtain ⟨a, ha⟩ : ∃ a, ns[ns.length - 1]? = some a := ⟨_, List.getElem?_eq_getElem (by omega)⟩
  obtain ⟨pre, p, W, seg, d, h1, h2, h3, h4, h5, h6, h7, h8⟩ := Gr.turnInv hG hw (ns.length - 1) a x ha hx
  have hall : ns.take (ns.length - 1 + 1) = ns := List.take_of_length_le (by omega)
  rw [hall] at h5
  have hT : (G.turns ns) ≠ [] ∧ (G.turns ns).headD 0 = x ∧ (∀ t ∈ G.turns ns, t ∈ ns) ∧ G.expT (G.turns ns) = some (W ++ seg) := by
    have hm := Gr.tr_mem (G := G) (ns := ns)
    have hhd : ∀ r : List Nat, (pre ++ [p] ++ r).headD 0 = x := fun r => by
      rw [List.headD_eq_head?_getD, List.head?_eq_getElem?, List.getElem?_append_left (by simp), h2]; rfl
    unfold Gr.turns
    split
    · rename_i h9
      obtain ⟨h10, _⟩ := h7 (by omega)
      rw [h1, getD_of ha]
      refine ⟨by simp, hhd _, ?_, Gr.expT_snoc pre h3 (Gr.Lin.along hG h4 h10 h6)⟩
      intro t ht
      rcases List.mem_append.1 ht with ht | ht
      · rw [← h1] at ht; exact hm _ (by omega) t ht
      · simp only [List.mem_singleton] at ht; rw [ht]; exact List.mem_of_getElem? ha
    · rename_i h9
      have h10 : ns.length - 1 = 0 := by omega
      rw [h10] at h1
      rw [h8 h10, List.append_nil, h1]
      refine ⟨by simp, by have := hhd []; rwa [List.append_nil] at this, ?_, h3⟩
      intro t ht
      rw [← h1] at ht
      exact hm 0 hpos t ht
  obtain ⟨t1, t2, t3, t4⟩ := hT
  have ha1 : ((G.turns ns).map Int.ofNat).all G.has = true := by
    rw [List.all_eq_true]
    intro y hy
    obtain ⟨z, hz, rfl⟩ := List.mem_map.1 hy
    have := Gr.free_in (hfr z (t3 z hz))
    exact decide_eq_true (by simp only [Int.ofNat_eq_natCast]; omega)
  have ha2 : ((G.turns ns).map Int.ofNat).any (fun t => !G.free t.toNat) = false := by
    rw [List.any_eq_false]
    intro y hy
    obtain ⟨z, hz, rfl⟩ := List.mem_map.1 hy
    simp [hfr z (t3 z hz)]
  unfold Gr.expand
  rw [if_neg (by simpa using t1), if_neg (by rw [ha1]; simp), if_neg (by rw [ha2]; simp), hback, t4]
  unfold outE
  simp only
  rw [t2, ← h5]
/-- By columns and rows. -/
theorem Gr.turn_ref (hG : G.Ok) {a t b d e : Nat} {c c' : Int} (h1 : G.go a d = some (t, c)) (h2 : G.go t e = some (b, c')) : G.refTurn a t b = ((e : Int) != (d : Int)) := by
  obtain ⟨_, a2, a3⟩ := Gr.go_end hG h1
  obtain ⟨_, b2, b3⟩ := Gr.go_end hG h2
  have hd := (Gr.go_some h1).2.1
  have he := (Gr.go_some h2).2.1
  have e1 : G.X t - G.X a = dxOf d := by omega
  have e2 : G.X b - G.X t = dxOf e := by omega
  have e3 : G.Y t - G.Y a = dyOf d := by omega
  have e4 : G.Y b - G.Y t = dyOf e := by omega
  unfold Gr.refTurn
  rw [e1, e2, e3, e4]
  have hd' : d = 0 ∨ d = 1 ∨ d = 2 ∨ d = 3 ∨ d = 4 ∨ d = 5 ∨ d = 6 ∨ d = 7 := by omega
  have he' : e = 0 ∨ e = 1 ∨ e = 2 ∨ e = 3 ∨ e = 4 ∨ e = 5 ∨ e = 6 ∨ e = 7 := by omega
  rcases hd' with rfl | rfl | rfl | rfl | rfl | rfl | rfl | rfl <;> rcases he' with rfl | rfl | rfl | rfl | rfl | rfl | rfl | rfl <;> decide
end
end Go.Proofs.YtdihnjhbopogoaaDoor
