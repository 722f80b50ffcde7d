/-
  HandlesOnce: what the loop keeps, in plain words.
-/
import Derived.Test.YtminjgfobcnmhaaDoorHandlesBack
import Derived.Test.YtminjgfobcnmhaaDoorMapO
import Derived.Test.YtminjgfobcnmhaaDoorKeyS
namespace Go.Proofs.YtminjgfobcnmhaaDoor.HandlesOnce
open Go Go.RowKit Go.Proofs.YtminjgfobcnmhaaDoor.Pool Go.Proofs.YtminjgfobcnmhaaDoor.HandlesBack

theorem laidOut' : laidOutB Tryd.prog = true := by kernel_rfl
theorem keyLaw : WideMaps.KeyLaw Tryd.prog 42 := deep_law_laid laidOut' (m := 3) (by omega) (of_decide_eq_true (by kernel_rfl)) (by kernel_rfl) (by rw [Tryd.underlying42])
theorem keyed : Maps.Keyed Tryd.prog 42 := Maps.Keyed.of_law keyLaw
theorem zeroB (w : World) : (zeroValue 4).run Tryd.prog w = .ok (.bool false) w := by kernel_rfl
noncomputable def keyH (e : Hand) : Lit := (keyOf Tryd.prog 42 (hv e)).getD .nil
def Wf (h : Hand) : Prop := (0 ≤ h.1 ∧ h.1 ≤ 1000) ∧ 0 ≤ h.2 ∧ h.2 ≤ 1073741824
theorem keyH_ok (h : Hand) (hw : Wf h) : keyOf Tryd.prog 42 (hv h) = some (keyH h) := by
  obtain ⟨⟨a1, a2⟩, a3, a4⟩ := hw
  have e1 : IntKind.i64.min = -9223372036854775808 := rfl
  have e2 : IntKind.i64.max = 9223372036854775807 := rfl
  obtain ⟨kl, hk⟩ := pair_key (P := Tryd.prog) (K := 42) (I := 3) Tryd.underlying42 ⟨rfl, rfl⟩ ⟨rfl, rfl⟩ ⟨by decide, by decide⟩ Tryd.underlying3 (by kernel_rfl) (by kernel_rfl) (by kernel_rfl) (Tryd.prog.types.size - 1) (by kernel_rfl) h.1 h.2
    (by simp only [Lit.wf, Bool.and_eq_true, decide_eq_true_eq]; omega) (by simp only [Lit.wf, Bool.and_eq_true, decide_eq_true_eq]; omega)
  unfold keyH
  rw [hk]
  rfl
theorem keyH_inj {h k : Hand} (hh : Wf h) (hk : Wf k) (e : keyH h = keyH k) : h = k := by
  have a := keyH_ok h hh
  rw [e] at a
  have := keyed.inj a (keyH_ok k hk)
  obtain ⟨h1, h2⟩ := h
  obtain ⟨k1, k2⟩ := k
  simp only [Value.agg.injEq, Array.mk.injEq, List.cons.injEq, Value.int.injEq, true_and, and_true] at this
  exact Prod.ext this.1 this.2

/-- A handle that was given: it is not given again. -/
def Spent (S : List Slot) (f : List Nat) (h : Hand) : Prop := Wf h ∧ ∃ (i : Nat) (g : Int) (b : Bool), h.1 = (i : Int) ∧ S[i]? = some (g, b) ∧ (h.2 < g ∨ (h.2 = g ∧ (b = true ∨ i ∉ f)))
/-- A handle that is gone for good. -/
def Gone (S : List Slot) (f : List Nat) (h : Hand) : Prop := Wf h ∧ ∃ (i : Nat) (g : Int) (b : Bool), h.1 = (i : Int) ∧ S[i]? = some (g, b) ∧ (h.2 < g ∨ (h.2 = g ∧ b = false ∧ i ∉ f))
theorem Gone.spent {S : List Slot} {f : List Nat} {h : Hand} (H : Gone S f h) : Spent S f h := by
  obtain ⟨hw, i, g, b, h1, h2, h3⟩ := H
  exact ⟨hw, i, g, b, h1, h2, h3.imp_right fun h => ⟨h.1, .inr h.2.2⟩⟩
theorem Gone.dead {S : List Slot} {f : List Nat} {h : Hand} (H : Gone S f h) : livesB S h = false := by
  obtain ⟨hw, i, g, b, h1, h2, h3⟩ := H
  unfold livesB
  rw [h1, Int.toNat_natCast, h2]
  have : (some (g, b) == some (h.2, true)) = false := by
    rw [beq_eq_false_iff_ne]
    intro e
    simp only [Option.some.injEq, Prod.mk.injEq] at e
    rcases h3 with h | ⟨_, hb, _⟩
    · omega
    · rw [hb] at e; simp at e
  rw [this, Bool.and_false]

section
variable {S : List Slot} {f : List Nat} {c : Int}
theorem take_keeps (ok : Ok S f c) {x : Hand} {S' : List Slot} {f' : List Nat} (ht : takeM S f = some (x, S', f')) {h : Hand} {i : Nat} {g : Int} {b : Bool} (h1 : h.1 = (i : Int)) (h2 : S[i]? = some (g, b)) (hn : h.2 < g ∨ (h.2 = g ∧ (b = true ∨ i ∉ f))) :
    h ≠ x ∧ ∃ b', S'[i]? = some (g, b') ∧ (i ∉ f → i ∉ f') ∧ (b = true → b' = true) ∧ (b' = b ∨ h.2 < g) := by
  have hil := (List.getElem?_eq_some_iff.1 h2).1
  obtain ⟨_, ⟨k, rfl, k1, k2, rfl⟩ | ⟨rfl, rfl, hl, rfl, rfl⟩⟩ := ok.take ht
  · by_cases e : i = k
    · subst e
      rw [h2] at k2
      simp only [Option.some.injEq, Prod.mk.injEq] at k2
      obtain ⟨rfl, rfl⟩ := k2
      have hlt : h.2 < x.2 := by
        rcases hn with h | ⟨_, h | h⟩
        · exact h
        · cases h
        · exact absurd (by simp) h
      refine ⟨fun e => by rw [e] at hlt; omega, true, by rw [List.getElem?_set_self hil], fun h => absurd (by simp) h, fun _ => rfl, .inr hlt⟩
    · refine ⟨fun e' => e (by rw [e'] at h1; omega), b, by rw [List.getElem?_set_ne (fun e' => e e'.symm)]; exact h2, fun h h' => h (List.mem_append_left _ h'), fun h => h, .inl rfl⟩
  · refine ⟨fun e => ?_, b, by rw [List.getElem?_append_left hil]; exact h2, fun h => h, fun h => h, .inl rfl⟩
    rw [e] at h1
    simp only at h1
    omega
theorem Spent.take (ok : Ok S f c) {x : Hand} {S' : List Slot} {f' : List Nat} (ht : takeM S f = some (x, S', f')) {h : Hand} (H : Spent S f h) : h ≠ x ∧ Spent S' f' h := by
  obtain ⟨hw, i, g, b, h1, h2, h3⟩ := H
  obtain ⟨k1, b', k2, k3, k4, k5⟩ := take_keeps ok ht h1 h2 h3
  refine ⟨k1, hw, i, g, b', h1, k2, ?_⟩
  rcases h3 with h | ⟨h, h' | h'⟩
  · exact .inl h
  · exact .inr ⟨h, .inl (k4 h')⟩
  · exact .inr ⟨h, .inr (k3 h')⟩
theorem Gone.take (ok : Ok S f c) {x : Hand} {S' : List Slot} {f' : List Nat} (ht : takeM S f = some (x, S', f')) {h : Hand} (H : Gone S f h) : Gone S' f' h := by
  obtain ⟨hw, i, g, b, h1, h2, h3⟩ := H
  obtain ⟨k1, b', k2, k3, k4, k5⟩ := take_keeps ok ht h1 h2 (h3.imp_right fun h => ⟨h.1, .inr h.2.2⟩)
  refine ⟨hw, i, g, b', h1, k2, ?_⟩
  rcases h3 with h | ⟨h, h', h''⟩
  · exact .inl h
  · rcases k5 with k | k
    · exact .inr ⟨h, k.trans h', k3 h''⟩
    · exact .inl k
theorem take_wf (ok : Ok S f c) {x : Hand} {S' : List Slot} {f' : List Nat} (ht : takeM S f = some (x, S', f')) : Wf x ∧ Spent S' f' x := by
  have hl' := ok.len
  obtain ⟨_, ⟨k, rfl, k1, k2, rfl⟩ | ⟨rfl, rfl, hl, rfl, rfl⟩⟩ := ok.take ht
  · have hil := (List.getElem?_eq_some_iff.1 k2).1
    have hg := ok.gen _ (List.mem_of_getElem? k2)
    simp only at hg
    have hw : Wf x := ⟨by omega, by omega⟩
    exact ⟨hw, hw, k, x.2, true, k1, by rw [List.getElem?_set_self hil], .inr ⟨rfl, .inl rfl⟩⟩
  · have hw : Wf ((S.length : Int), 1) := ⟨by simp only; omega, by simp only; omega⟩
    exact ⟨hw, hw, S.length, 1, true, rfl, by simp, .inr ⟨rfl, .inl rfl⟩⟩
theorem free_keeps (ok : Ok S f c) {k : Nat} {q : Int} (hk : S[k]? = some (q, true)) {i : Nat} {g : Int} {b : Bool} (h2 : S[i]? = some (g, b)) :
    ∃ g' b', (S.set k (gone q))[i]? = some (g', b') ∧ ((i ≠ k ∧ g' = g ∧ b' = b ∧ (i ∉ f → i ∉ freed f k q)) ∨ (i = k ∧ g = q ∧ b = true ∧ b' = false ∧ (g' = q + 1 ∨ (g' = q ∧ i ∉ freed f k q)))) := by
  have hkl := (List.getElem?_eq_some_iff.1 hk).1
  have hnf : k ∉ f := fun h => by
    obtain ⟨g', hg'⟩ := ok.free k h
    rw [hk] at hg'; simp at hg'
  by_cases e : i = k
  · subst e
    rw [hk] at h2
    simp only [Option.some.injEq, Prod.mk.injEq] at h2
    obtain ⟨rfl, rfl⟩ := h2
    refine ⟨(gone q).1, (gone q).2, by rw [List.getElem?_set_self hkl], .inr ⟨rfl, rfl, rfl, rfl, ?_⟩⟩
    unfold gone freed
    simp only
    by_cases hq : q < 1073741824
    · exact .inl (if_pos hq)
    · rw [if_neg hq, if_neg hq]
      exact .inr ⟨rfl, hnf⟩
  · refine ⟨g, b, by rw [List.getElem?_set_ne (fun e' => e e'.symm)]; exact h2, .inl ⟨e, rfl, rfl, fun h => ?_⟩⟩
    unfold freed
    split
    · simp only [List.mem_append, List.mem_singleton, not_or]; exact ⟨h, e⟩
    · exact h
theorem Spent.free (ok : Ok S f c) {k : Nat} {q : Int} (hk : S[k]? = some (q, true)) {h : Hand} (H : Spent S f h) : Spent (S.set k (gone q)) (freed f k q) h := by
  obtain ⟨hw, i, g, b, h1, h2, h3⟩ := H
  obtain ⟨g', b', k1, ⟨_, rfl, rfl, k2⟩ | ⟨rfl, rfl, rfl, rfl, k2⟩⟩ := free_keeps ok hk h2
  · exact ⟨hw, i, g', b', h1, k1, h3.imp_right fun h => ⟨h.1, h.2.imp_right k2⟩⟩
  · refine ⟨hw, i, g', false, h1, k1, ?_⟩
    rcases k2 with k2 | ⟨k2, k3⟩
    · exact .inl (by rcases h3 with h | ⟨h, _⟩ <;> omega)
    · rcases h3 with h | ⟨h, _⟩
      · exact .inl (by omega)
      · exact .inr ⟨by omega, .inr k3⟩
theorem Gone.free (ok : Ok S f c) {k : Nat} {q : Int} (hk : S[k]? = some (q, true)) {h : Hand} (H : Gone S f h) : Gone (S.set k (gone q)) (freed f k q) h := by
  obtain ⟨hw, i, g, b, h1, h2, h3⟩ := H
  obtain ⟨g', b', k1, ⟨_, rfl, rfl, k2⟩ | ⟨rfl, rfl, rfl, rfl, k2⟩⟩ := free_keeps ok hk h2
  · exact ⟨hw, i, g', b', h1, k1, h3.imp_right fun h => ⟨h.1, h.2.1, k2 h.2.2⟩⟩
  · refine ⟨hw, i, g', false, h1, k1, ?_⟩
    rcases k2 with k2 | ⟨k2, k3⟩
    · exact .inl (by rcases h3 with h | ⟨h, _⟩ <;> omega)
    · rcases h3 with h | ⟨h, _⟩
      · exact .inl (by omega)
      · exact .inr ⟨by omega, rfl, k3⟩
theorem free_gone (ok : Ok S f c) {k : Nat} {q : Int} (hk : S[k]? = some (q, true)) : Gone (S.set k (gone q)) (freed f k q) ((k : Int), q) := by
  have hg := ok.gen _ (List.mem_of_getElem? hk)
  have hkl := (List.getElem?_eq_some_iff.1 hk).1
  have hl := ok.len
  simp only at hg
  obtain ⟨g', b', k1, ⟨h, _⟩ | ⟨_, _, _, rfl, k2⟩⟩ := free_keeps ok hk hk
  · exact absurd rfl h
  · refine ⟨⟨by simp only; omega, by simp only; omega⟩, k, g', false, rfl, k1, ?_⟩
    rcases k2 with k2 | ⟨k2, k3⟩
    · exact .inl (by simp only; omega)
    · exact .inr ⟨k2.symm, rfl, k3⟩
theorem full_count (ok : Ok S f c) (low : ∀ s ∈ S, s.1 < 1073741824) (ht : takeM S f = none) : c = 128 := by
  obtain ⟨rfl, hl⟩ := ok.take_none ht
  rw [ok.count, List.countP_eq_length.2, hl]
  · rfl
  · intro s hs
    obtain ⟨i, hi⟩ := List.getElem?_of_mem hs
    obtain ⟨g, b⟩ := s
    cases b with
    | true => rfl
    | false => exact absurd (ok.dead i g hi (low _ hs)) (by simp)
end

/-- What the loop keeps. -/
structure Keeps (S : List Slot) (f : List Nat) (c : Int) (hs : List Hand) (g1 g2 : Lit → Option Bool) (j : Nat) : Prop where
  ok : Ok S f c
  lv : Lv S hs
  low : ∀ s ∈ S, s.1 ≤ 1 + (j : Int)
  cnt : c = hs.length
  given : ∀ kl y, g1 kl = some y → ∃ h, kl = keyH h ∧ Spent S f h
  dead : ∀ kl y, g2 kl = some y → ∃ h, kl = keyH h ∧ Gone S f h
theorem Keeps.new : Keeps [] [] 0 [] (fun _ => none) (fun _ => none) 0 := ⟨Ok.new, Lv.nil _, by simp, rfl, by simp, by simp⟩
section
variable {S : List Slot} {f : List Nat} {c : Int} {hs : List Hand} {g1 g2 : Lit → Option Bool} {j : Nat}
theorem Keeps.more (K : Keeps S f c hs g1 g2 j) : Keeps S f c hs g1 g2 (j + 1) := ⟨K.ok, K.lv, fun s h => by have := K.low s h; omega, K.cnt, K.given, K.dead⟩
theorem Keeps.full (K : Keeps S f c hs g1 g2 j) (hj : j ≤ 1000) (ht : takeM S f = none) : hs.length = 128 := by
  have := full_count K.ok (fun s h => by have := K.low s h; omega) ht
  have := K.cnt
  omega
theorem Keeps.take (K : Keeps S f c hs g1 g2 j) {x : Hand} {S' : List Slot} {f' : List Nat} (ht : takeM S f = some (x, S', f')) :
    Wf x ∧ g1 (keyH x) = none ∧ g2 (keyH x) = none ∧ Keeps S' f' (c + 1) (hs ++ [x]) (updO g1 (keyH x) (some true)) g2 (j + 1) := by
  obtain ⟨hw, hsp⟩ := take_wf K.ok ht
  have hno : ∀ h, Spent S f h → keyH x ≠ keyH h := fun h H e => (H.take K.ok ht).1 (keyH_inj hw H.1 e).symm
  refine ⟨hw, ?_, ?_, (K.ok.take ht).1, K.lv.take K.ok ht, ?_, ?_, ?_, ?_⟩
  · cases h : g1 (keyH x) with
    | none => rfl
    | some y => obtain ⟨k, e, H⟩ := K.given _ _ h; exact absurd e (hno k H)
  · cases h : g2 (keyH x) with
    | none => rfl
    | some y => obtain ⟨k, e, H⟩ := K.dead _ _ h; exact absurd e (hno k H.spent)
  · obtain ⟨_, ⟨k, rfl, k1, k2, rfl⟩ | ⟨rfl, rfl, hl, rfl, rfl⟩⟩ := K.ok.take ht
    · intro s h
      rcases List.mem_or_eq_of_mem_set h with h | rfl
      · have := K.low s h; omega
      · have := K.low _ (List.mem_of_getElem? k2); simp only at this ⊢; omega
    · intro s h
      rcases List.mem_append.1 h with h | h
      · have := K.low s h; omega
      · simp only [List.mem_singleton] at h; subst h; simp only; omega
  · rw [List.length_append]; have := K.cnt; simp; omega
  · intro kl y h
    by_cases e : kl = keyH x
    · exact ⟨x, e, hsp⟩
    · rw [updO_other _ _ e] at h
      obtain ⟨k, e, H⟩ := K.given _ _ h
      exact ⟨k, e, (H.take K.ok ht).2⟩
  · intro kl y h
    obtain ⟨k, e, H⟩ := K.dead _ _ h
    exact ⟨k, e, H.take K.ok ht⟩
theorem Keeps.free (K : Keeps S f c hs g1 g2 j) {t i : Nat} {g : Int} (hh : hs[t]? = some ((i : Int), g)) (hi : S[i]? = some (g, true)) :
    Wf ((i : Int), g) ∧ livesB (S.set i (gone g)) ((i : Int), g) = false ∧ Keeps (S.set i (gone g)) (freed f i g) (c - 1) (hs.eraseIdx t) g1 (updO g2 (keyH ((i : Int), g)) (some true)) (j + 1) := by
  have hgo := free_gone K.ok hi
  have htl := (List.getElem?_eq_some_iff.1 hh).1
  refine ⟨hgo.1, hgo.dead, K.ok.free' hi, K.lv.erase hh _, ?_, ?_, ?_, ?_⟩
  · intro s h
    rcases List.mem_or_eq_of_mem_set h with h | rfl
    · have := K.low s h; omega
    · have := K.low _ (List.mem_of_getElem? hi); unfold gone; simp only at this ⊢; split <;> omega
  · rw [List.length_eraseIdx, if_pos htl]; have := K.cnt; omega
  · intro kl y h
    obtain ⟨k, e, H⟩ := K.given _ _ h
    exact ⟨k, e, H.free K.ok hi⟩
  · intro kl y h
    by_cases e : kl = keyH ((i : Int), g)
    · exact ⟨_, e, hgo⟩
    · rw [updO_other _ _ e] at h
      obtain ⟨k, e, H⟩ := K.dead _ _ h
      exact ⟨k, e, H.free K.ok hi⟩
end
end Go.Proofs.YtminjgfobcnmhaaDoor.HandlesOnce
