/-
  Package jump: Search by least costs, and Cost.
-/
import Derived.Test.YtdihnjhbopogoaaDoorSearchAll
import Derived.Test.YtdihnjhbopogoaaDoorRouteFind
namespace Go.Proofs.YtdihnjhbopogoaaDoor.Jmp
open Go Go.RowKit Go.Proofs.YtdihnjhbopogoaaDoor.Hp Go.Proofs.YtdihnjhbopogoaaDoor.Steps Go.Proofs.YtdihnjhbopogoaaDoor.Route
theorem gC_ints (l : List Nat) : (l.map Int.ofNat).map (Value.int .i64) = gC l := by simp [gC, List.map_map, Function.comp_def]
theorem rowInts {w : World} {v : Value} {l : List Nat} (h : w.ownsRow 0 3 1 v l.length (gC l)) : Ints w v (l.map Int.ofNat) := by
  have := Reads.of_own h
  unfold Ints
  rw [gC_ints, List.length_map]
  exact this
theorem walkC_len {G : Gr} : ∀ (l : List Nat) {k : Int}, G.walkC l = some k → 10 * (l.length : Int) ≤ k + 10
  | [], k, h => by simp [Gr.walkC] at h; subst h; simp
  | [_], k, h => by simp [Gr.walkC] at h; subst h; simp
  | a :: b :: l, k, h => by
    unfold Gr.walkC at h
    cases he : G.edge a b with
    | none => rw [he] at h; cases h
    | some e =>
      rw [he] at h
      obtain ⟨d, hd⟩ := Gr.edge_go he
      have h1 := Gr.go_pos hd
      simp only [Option.bind_some] at h
      obtain ⟨k1, h3, h4⟩ := Option.map_eq_some_iff.1 h
      have h5 := walkC_len (b :: l) h3
      simp only [List.length_cons] at h5 ⊢
      omega
theorem jpath_len {G : Gr} (h : G.Ok) {t s u : Nat} {pts : List Nat} {k : Int} (hp : Gr.JPath G t s pts u k) : 10 * (pts.length : Int) ≤ k + 10 := by
  induction hp with
  | one => simp
  | snoc _ hj ih =>
    have := (Gr.jump_ne h hj).2.1
    rw [List.length_append, List.length_singleton]
    omega
/-- The points of a search: what the document's Expand says of them, and their ends. -/
theorem pts_facts {G : Gr} (h : G.Ok) {s t : Nat} {pts : List Nat} {k : Int} (hs : G.free s = true) (hp : Gr.JPath G t s pts t k) (hk : Gr.To G [t] s k) (hmin : ∀ k', Gr.To G [t] s k' → k ≤ k') :
    ∃ lw : List Nat, G.expand (pts.map Int.ofNat) = (some lw, 0) ∧ G.cost (lw.map Int.ofNat) = (k, 0) ∧ 1 ≤ pts.length ∧ pts[0]? = some s ∧ pts[pts.length - 1]? = some t ∧ (pts.length = 1 ↔ s = t) ∧ 10 * (pts.length : Int) ≤ k + 10 ∧ 10 * (lw.length : Int) ≤ k + 10 := by
  obtain ⟨⟨r, hr⟩, h2, h3, ⟨W, w1, w2, w3, w4⟩, h5, h6, h7⟩ := hp.expand h hs
  have hback : ∀ l : List Nat, (l.map Int.ofNat).map Int.toNat = l := fun l => by simp [List.map_map, Function.comp_def]
  have hall : ∀ l : List Nat, (∀ x ∈ l, G.free x = true) → (l.map Int.ofNat).all G.has = true ∧ (l.map Int.ofNat).any (fun t => !G.free t.toNat) = false := by
    intro l hl
    constructor
    · rw [List.all_eq_true]
      intro x hx
      obtain ⟨y, hy, rfl⟩ := List.mem_map.1 hx
      have := Gr.free_in (hl y hy)
      exact decide_eq_true (by simp only [Int.ofNat_eq_natCast]; omega)
    · rw [List.any_eq_false]
      intro x hx
      obtain ⟨y, hy, rfl⟩ := List.mem_map.1 hx
      simp [hl y hy]
  have hne : pts ≠ [] := by rw [hr]; simp
  refine ⟨s :: W, ?_, ?_, ?_, ?_, ?_, ?_, jpath_len h hp, walkC_len _ w2⟩
  · have ha := hall pts h3
    unfold Gr.expand
    rw [if_neg (by simpa using hne), if_neg (by rw [ha.1]; simp), if_neg (by rw [ha.2]; simp), hback, w1]
    simp [outE, hr]
  · have ha := hall (s :: W) (fun x hx => by rcases List.mem_cons.1 hx with rfl | hx; exact hs; exact w4 x hx)
    unfold Gr.cost
    rw [if_neg (by simp), if_neg (by rw [ha.1]; simp), if_neg (by rw [ha.2]; simp), hback, w2]
  · rw [hr]; simp
  · rw [hr]; rfl
  · rw [← List.getLast?_eq_getElem?]; exact h2
  · constructor
    · exact h7
    · intro e
      subst e
      have := hmin 0 (.goal (by simp) hs)
      exact h6.2 (by omega)
section
variable {w : World} {p pg pc : Nat} {G : Gr}
theorem has_not {s t : Int} (h : ¬ (0 ≤ s ∧ s < G.fs.length) ∨ ¬ (0 ≤ t ∧ t < G.fs.length)) : ¬ (G.has s = true ∧ G.has t = true) := by
  rintro ⟨h1, h2⟩
  have h1 := of_decide_eq_true h1
  have h2 := of_decide_eq_true h2
  rcases h with h | h
  · exact h h1
  · exact h h2
theorem search_path (hG : Gnd 93 w p pg pc G) (s t : Nat) (hsl : s < G.fs.length) (htl : t < G.fs.length) {c : List Int} (hL : Least G [t] c) (h0 : cAt c s = -1) (e : Value) (he : w.cell? ⟨2, 0, none⟩ = some e) :
    Calls Tryd.prog 19 #[.pointer (some ⟨p, 0, none⟩), .int .i64 s, .int .i64 t] w fun r w' => r = .returned (.tuple #[.slice none 0 0, .int .i64 0, e]) ∧ Same w w' := by
  have hhs : G.has (s : Int) = true := decide_eq_true (by omega)
  have hht : G.has (t : Int) = true := decide_eq_true (by omega)
  cases hfs : G.free s with
  | false => exact search_block hG s t hsl htl (.inl hfs) e he
  | true =>
    cases hft : G.free t with
    | false => exact search_block hG s t hsl htl (.inr hft) e he
    | true =>
      refine (search_free hG s t hfs hft e e he).mono ?_
      rintro r w' (⟨h, _⟩ | ⟨s', t', _, _, _, _, h⟩ | ⟨s', t', pts, k, v, h1, h2, _, h3, _⟩)
      · exact absurd ⟨hhs, hht⟩ h
      · exact h
      · obtain rfl : s = s' := by omega
        obtain rfl : t = t' := by omega
        have := (hL.min s k h3).1
        omega
theorem search_ok (hG : Gnd 93 w p pg pc G) (s t : Nat) {c : List Int} (hL : Least G [t] c) (h0 : 0 ≤ cAt c s) (e : Value) (he : w.cell? ⟨2, 0, none⟩ = some e) :
    Calls Tryd.prog 19 #[.pointer (some ⟨p, 0, none⟩), .int .i64 s, .int .i64 t] w fun r w' => ∃ pts v, Gr.JPath G t s pts t (cAt c s) ∧ pts.length ≤ 1000000 ∧ r = .returned (.tuple #[v, .int .i64 (cAt c s), .nilIface]) ∧ Star w w' [Row 3 1 v pts.length (gC pts)] := by
  have hT := hL.real s h0
  have hfs := hT.free.1
  have hft := (hT.turn hG.ok).free.1
  have hhs : G.has (s : Int) = true := decide_eq_true (by have := Gr.free_in hfs; omega)
  have hht : G.has (t : Int) = true := decide_eq_true (by have := Gr.free_in hft; omega)
  refine (search_free hG s t hfs hft e e he).mono ?_
  rintro r w' (⟨h, _⟩ | ⟨s', t', h1, h2, _, h, _⟩ | ⟨s', t', pts, k, v, h1, h2, h3, h4, h5, h6, _, h7, h8⟩)
  · exact absurd ⟨hhs, hht⟩ h
  · obtain rfl : s = s' := by omega
    obtain rfl : t = t' := by omega
    exact absurd hT (h _)
  · obtain rfl : s = s' := by omega
    obtain rfl : t = t' := by omega
    have e1 := (hL.min s k h4).2
    have e2 := h5 _ hT
    obtain rfl : k = cAt c s := by omega
    exact ⟨pts, v, h3, h6, h7, h8⟩
set_option maxRecDepth 100000 in
theorem jcost_of {s t : Int} {k : Int} {e : Value} (HF : Calls Tryd.prog 19 #[.pointer (some ⟨p, 0, none⟩), .int .i64 s, .int .i64 t] w fun r w' => ∃ v, r = .returned (.tuple #[v, .int .i64 k, e]) ∧ Same w w') :
    Calls Tryd.prog 20 #[.pointer (some ⟨p, 0, none⟩), .int .i64 s, .int .i64 t] w fun r w' => r = .returned (.tuple #[.int .i64 k, e]) ∧ Same w w' := by
  have HF := hid HF
  go_enter Tryd.func20, Tryd.ntmps20
  go_wp2_with fail
  refine HF.out.mono ?_
  rintro r w2 ⟨v, rfl, hs⟩
  have S := hid hs
  clear hs HF
  go_wp2
  go_ret2
  exact ⟨rfl, S.out⟩
end
end Go.Proofs.YtdihnjhbopogoaaDoor.Jmp
