/-
  Rows of components, plain: what the document's Right takes is a right row, and back.
-/
import Derived.Test.YtegcnkcjmebheaaDoorRef06e
namespace Go.Proofs.YtegcnkcjmebheaaDoor.Tab
open Go Go.RowKit Go.Proofs.YtegcnkcjmebheaaDoor.Mask
theorem rowOf_kind {vs : List Vl} {k : Nat} {x : Vl} (h : x ∈ rowOf vs k) : x ∈ vs ∧ x.k = (k : Int) := by
  unfold rowOf at h
  have := List.mem_filter.1 h
  exact ⟨this.1, by simpa using this.2⟩
theorem sortTo_mem {vs : List Vl} : ∀ {j : Nat} {x : Vl}, x ∈ sortTo vs j → x ∈ vs ∧ ∃ k : Nat, k < j ∧ x.k = (k : Int)
  | j, x, h => by
    unfold sortTo at h
    obtain ⟨k, hk, hx⟩ := List.mem_flatMap.1 h
    obtain ⟨h1, h2⟩ := rowOf_kind hx
    exact ⟨h1, k, List.mem_range.1 hk, h2⟩
theorem pair_one {l : List Vl} (h : l.length ≤ 1) : l.Pairwise (fun a b => a.k < b.k) := by
  match l, h with
  | [], _ => exact List.Pairwise.nil
  | [a], _ => simp
theorem sortTo_rise {vs : List Vl} (h : ∀ k, k < 10 → (rowOf vs k).length ≤ 1) : ∀ j, j ≤ 10 → (sortTo vs j).Pairwise (fun a b => a.k < b.k)
  | 0, _ => by simp [sortTo]
  | j + 1, hj => by
    rw [sortTo_succ, List.pairwise_append]
    refine ⟨sortTo_rise h j (by omega), pair_one (h j (by omega)), fun a ha b hb => ?_⟩
    obtain ⟨_, k, hk, ha2⟩ := sortTo_mem ha
    have hb2 := (rowOf_kind hb).2
    omega
theorem RefRight.rise {vs : List Vl} (h : RefRight vs) : vs.Pairwise (fun a b => a.k < b.k) := by
  have h2 := sortTo_rise h.2.1 10 (Nat.le_refl _)
  rw [← h.2.2] at h2
  exact h2
theorem RefRight.right {vs : List Vl} (h : RefRight vs) : Right vs := by
  refine ⟨fun i v hi hv => h.1 v (List.mem_of_getElem? hv), fun i u v hi hu hv => ?_⟩
  obtain ⟨h1, h2⟩ := List.getElem?_eq_some_iff.1 hu
  obtain ⟨h3, h4⟩ := List.getElem?_eq_some_iff.1 hv
  have := List.pairwise_iff_getElem.1 h.rise i (i + 1) h1 h3 (by omega)
  rw [h2, h4] at this
  exact this
theorem RefRight.takes {vs : List Vl} (h : RefRight vs) : Takes (rowMask vs) vs := ⟨h.right, rfl⟩
theorem fold_bit : ∀ (xs : List Int) (m i : Nat), (xs.foldl (fun m k => m ||| 2 ^ k.toNat) m).testBit i = (m.testBit i || xs.any (fun k => k.toNat == i))
  | [], m, i => by simp
  | k :: xs, m, i => by
    rw [List.foldl_cons, fold_bit xs, Nat.testBit_or, Nat.testBit_two_pow, List.any_cons, Bool.or_assoc]
    rfl
theorem rise_one {a b : List Int} (ha : a.Pairwise (· < ·)) (hb : b.Pairwise (· < ·)) (h : ∀ x, x ∈ a ↔ x ∈ b) : a = b := by
  have hp : a.Perm b := (List.perm_ext_iff_of_nodup (ha.imp (fun h e => by omega)) (hb.imp (fun h e => by omega))).2 h
  exact List.Perm.eq_of_pairwise (le := fun x y : Int => x < y) (fun x y _ _ h1 h2 => by omega) ha hb hp
theorem RefRight.kind {vs : List Vl} (h : RefRight vs) {x : Vl} (hx : x ∈ vs) : ∃ k : Nat, k < 10 ∧ x.k = (k : Int) := by
  rw [h.2.2] at hx
  exact (sortTo_mem hx).2
/-- The kinds of a right row are the bits of its mask. -/
theorem RefRight.kinds {vs : List Vl} (h : RefRight vs) : (bitsOf (rowMask vs)).map (fun k : Nat => (k : Int)) = vs.map (·.k) := by
  refine rise_one ?_ ?_ (fun y => ?_)
  · rw [List.pairwise_map]
    exact (bits_rise _).imp (fun h => by omega)
  · rw [List.pairwise_map]
    exact h.rise
  · rw [List.mem_map, List.mem_map]
    constructor
    · rintro ⟨k, hk, rfl⟩
      have h2 := ((mem_bitsOf _ _).1 hk).2
      unfold rowMask Mask.maskOf at h2
      rw [fold_bit] at h2
      simp only [Nat.zero_testBit, Bool.false_or, List.any_eq_true, List.mem_map, beq_iff_eq] at h2
      obtain ⟨_, ⟨x, hx, rfl⟩, h3⟩ := h2
      obtain ⟨k2, hk2, e⟩ := h.kind hx
      exact ⟨x, hx, by omega⟩
    · rintro ⟨x, hx, rfl⟩
      obtain ⟨k, hk, e⟩ := h.kind hx
      refine ⟨k, (mem_bitsOf _ _).2 ⟨by omega, ?_⟩, e.symm⟩
      unfold rowMask Mask.maskOf
      rw [fold_bit]
      simp only [Nat.zero_testBit, Bool.false_or, List.any_eq_true, List.mem_map, beq_iff_eq]
      exact ⟨x.k, ⟨x, hx, rfl⟩, by omega⟩
theorem RefRight.once {vs : List Vl} (h : RefRight vs) (j k : Nat) (x : Vl) (hx : vs[j]? = some x) (hk : x.k = ((k : Nat) : Int)) : rowOf (vs.take j) k = [] := by
  unfold rowOf
  rw [List.filter_eq_nil_iff]
  intro y hy hyk
  obtain ⟨i, hi, rfl⟩ := List.mem_take_iff_getElem.1 hy
  obtain ⟨h1, h2⟩ := List.getElem?_eq_some_iff.1 hx
  have h3 := List.pairwise_iff_getElem.1 h.rise i j (by omega) h1 (by omega)
  rw [h2] at h3
  have h4 : vs[i].k = (k : Int) := by simpa using hyk
  omega
theorem RefRight.cols {vs : List Vl} (h : RefRight vs) {t : Pl} (hT : TOk t (bitsOf (rowMask vs))) : ∀ x ∈ vs, ∃ (k c : Nat), x.k = (k : Int) ∧ k < 10 ∧ t.cols k = some c := by
  intro x hx
  obtain ⟨k, hk, e⟩ := h.kind hx
  have hm : x.k ∈ vs.map (·.k) := List.mem_map.2 ⟨x, hx, rfl⟩
  rw [← h.kinds, List.mem_map] at hm
  obtain ⟨k2, hk2, e2⟩ := hm
  obtain rfl : k2 = k := by omega
  obtain ⟨c, hc⟩ := Option.isSome_iff_exists.1 ((hT k2).2 hk2)
  exact ⟨k2, c, e, hk, hc⟩
/-- A row's component of a kind that it has. -/
def valOf (vs : List Vl) (k : Nat) : Vl := (rowOf vs k).headD ⟨0, 0, 0⟩
theorem RefRight.row {vs : List Vl} (h : RefRight vs) {k : Nat} (hk : k ∈ bitsOf (rowMask vs)) : rowOf vs k = [valOf vs k] := by
  have hm : (k : Int) ∈ vs.map (·.k) := by
    rw [← h.kinds]
    exact List.mem_map.2 ⟨k, hk, rfl⟩
  obtain ⟨x, hx, e⟩ := List.mem_map.1 hm
  obtain ⟨k2, hk2, e2⟩ := h.kind hx
  have hkk : k < 10 := by omega
  have h1 := h.2.1 k hkk
  have hx2 : x ∈ rowOf vs k := List.mem_filter.2 ⟨hx, by simpa using e⟩
  unfold valOf
  match hr : rowOf vs k, h1, hx2 with
  | [y], _, _ => rfl
theorem RefRight.map {vs : List Vl} (h : RefRight vs) : (bitsOf (rowMask vs)).map (valOf vs) = vs := by
  have key : ∀ (l : List Vl), (∀ x ∈ l, x ∈ vs) → ∀ ks : List Nat, (∀ k ∈ ks, k ∈ bitsOf (rowMask vs)) → ks.map (fun k : Nat => (k : Int)) = l.map (·.k) → ks.map (valOf vs) = l := by
    intro l
    induction l with
    | nil =>
      intro _ ks _ e
      match ks, e with
      | [], _ => rfl
    | cons x l ih =>
      intro hin ks hks e
      match ks, e with
      | k :: ks, e =>
        simp only [List.map_cons, List.cons.injEq] at e
        rw [List.map_cons, ih (fun y hy => hin y (List.mem_cons_of_mem _ hy)) ks (fun y hy => hks y (List.mem_cons_of_mem _ hy)) e.2]
        have hr := h.row (hks k List.mem_cons_self)
        have hx : x ∈ rowOf vs k := List.mem_filter.2 ⟨hin x List.mem_cons_self, by simpa using e.1.symm⟩
        rw [hr, List.mem_singleton] at hx
        rw [hx]
  exact key vs (fun x hx => hx) _ (fun k hk => hk) h.kinds
theorem Right.rise {vs : List Vl} (h : Right vs) : vs.Pairwise (fun a b => a.k < b.k) := by
  rw [List.pairwise_iff_getElem]
  have key : ∀ d i (hj : i + d + 1 < vs.length), (vs[i]'(by omega)).k < vs[i + d + 1].k := by
    intro d
    induction d with
    | zero => intro i hj; exact h.2 i _ _ hj (List.getElem?_eq_getElem (by omega)) (List.getElem?_eq_getElem hj)
    | succ d ih =>
      intro i hj
      have h1 := ih i (by omega)
      have h2 := h.2 (i + d + 1) _ _ hj (List.getElem?_eq_getElem (by omega)) (List.getElem?_eq_getElem hj)
      exact Int.lt_trans h1 h2
  intro i j hi hj hij
  have := key (j - i - 1) i (by omega)
  simpa only [show i + (j - i - 1) + 1 = j by omega] using this
theorem Right.ref {vs : List Vl} (h : Right vs) : RefRight vs := by
  have hok : ∀ x ∈ vs, chkN x = 0 := fun x hx => by
    obtain ⟨i, hi, rfl⟩ := List.getElem_of_mem hx
    exact h.1 i _ hi (List.getElem?_eq_getElem hi)
  have hr := Right.rise h
  have hone : ∀ k, k < 10 → (rowOf vs k).length ≤ 1 := fun k _ => by
    have hp : (rowOf vs k).Pairwise (fun a b => a.k < b.k) := List.Pairwise.filter _ hr
    have hm : ∀ x ∈ rowOf vs k, x.k = (k : Int) := fun x hx => (rowOf_kind hx).2
    match hq : rowOf vs k with
    | [] => simp
    | [_] => simp
    | a :: b :: l =>
      rw [hq] at hp hm
      have h1 := hm a List.mem_cons_self
      have h2 := hm b (List.mem_cons_of_mem _ List.mem_cons_self)
      have h3 := (List.pairwise_cons.1 hp).1 b List.mem_cons_self
      omega
  refine ⟨hok, hone, ?_⟩
  have hs := sortTo_rise hone 10 (Nat.le_refl _)
  have hp : vs.Perm (sortTo vs 10) := (List.perm_ext_iff_of_nodup (hr.imp (fun h e => by subst e; omega)) (hs.imp (fun h e => by subst e; omega))).2 (fun x => ⟨fun hx => by
    have hk : okKind x.k = true := by
      cases e : okKind x.k with
      | true => rfl
      | false => have := hok x hx; rw [chk_kind e] at this; cases this
    simp only [okKind, Bool.and_eq_true, decide_eq_true_eq] at hk
    unfold sortTo
    refine List.mem_flatMap.2 ⟨x.k.toNat, List.mem_range.2 (by omega), List.mem_filter.2 ⟨hx, by simp; omega⟩⟩, fun hx => (sortTo_mem hx).1⟩)
  exact List.Perm.eq_of_pairwise (le := fun a b : Vl => a.k < b.k) (fun a b _ _ h1 h2 => by omega) hr hs hp
theorem RefRight.not {vs : List Vl} (h : RefRight vs) {k : Nat} (hk : k ∉ bitsOf (rowMask vs)) : rowOf vs k = [] := by
  unfold rowOf
  rw [List.filter_eq_nil_iff]
  intro x hx hxk
  have hm : x.k ∈ vs.map (·.k) := List.mem_map.2 ⟨x, hx, rfl⟩
  rw [← h.kinds, List.mem_map] at hm
  obtain ⟨k2, hk2, e2⟩ := hm
  have h4 : x.k = (k : Int) := by simpa using hxk
  exact hk ((show k2 = k by omega) ▸ hk2)
theorem rowOf_put (vs : List Vl) (x : Vl) (k : Nat) : rowOf (dropK vs x.k ++ [x]) k = if x.k = (k : Int) then [x] else rowOf vs k := by
  rw [rowOf_snoc]
  by_cases e : x.k = (k : Int)
  · rw [if_pos e, if_pos e]
    have : rowOf (dropK vs x.k) k = [] := by
      unfold rowOf dropK
      rw [List.filter_filter, List.filter_eq_nil_iff]
      intro y _ hy
      simp only [Bool.and_eq_true, beq_iff_eq, bne_iff_ne, ne_eq] at hy
      exact hy.2 (hy.1.trans e.symm)
    rw [this]
    rfl
  · rw [if_neg e, if_neg e]
    unfold rowOf dropK
    rw [List.filter_filter]
    apply List.filter_congr
    intro y _
    by_cases hy : y.k = (k : Int)
    · have : y.k ≠ x.k := fun h => e (h.symm.trans hy)
      simp [hy]
      exact fun h => e h.symm
    · simp [hy]
/-- The component x, or the row's own. -/
def putVal (vs : List Vl) (x : Vl) (k : Nat) : Vl := if x.k = (k : Int) then x else valOf vs k
theorem valOf_kind {vs : List Vl} (h : RefRight vs) {k : Nat} (hk : k ∈ bitsOf (rowMask vs)) : (valOf vs k).k = (k : Int) := by
  have : valOf vs k ∈ rowOf vs k := by rw [h.row hk]; exact List.mem_cons_self
  exact (rowOf_kind this).2
theorem rowOf_map {ks : List Nat} (hn : ks.Nodup) {g : Nat → Vl} (hg : ∀ k ∈ ks, (g k).k = (k : Int)) (k : Nat) : rowOf (ks.map g) k = if k ∈ ks then [g k] else [] := by
  induction ks with
  | nil => rfl
  | cons a ks ih =>
    have ih' := ih (List.nodup_cons.1 hn).2 (fun k hk => hg k (List.mem_cons_of_mem _ hk))
    have ha := hg a List.mem_cons_self
    unfold rowOf at ih' ⊢
    rw [List.map_cons, List.filter_cons]
    by_cases e : a = k
    · subst e
      rw [if_pos (by simpa using ha), ih', if_neg (List.nodup_cons.1 hn).1, if_pos List.mem_cons_self]
    · rw [if_neg (by rw [ha]; simp; omega), ih']
      have : (k ∈ a :: ks) ↔ k ∈ ks := by
        rw [List.mem_cons]
        exact ⟨fun h => h.resolve_left (fun h => e h.symm), .inr⟩
      simp only [this]
theorem putVal_kind {vs : List Vl} (h : RefRight vs) (x : Vl) {k : Nat} (hk : k ∈ bitsOf (rowMask vs)) : (putVal vs x k).k = (k : Int) := by
  unfold putVal
  by_cases e : x.k = (k : Int)
  · rw [if_pos e]; exact e
  · rw [if_neg e]; exact valOf_kind h hk
theorem put_ok {vs : List Vl} (h : RefRight vs) {x : Vl} (hx : chkN x = 0) : ∀ y ∈ dropK vs x.k ++ [x], chkN y = 0 := by
  intro y hy
  rcases List.mem_append.1 hy with hy | hy
  · exact h.1 y (List.mem_filter.1 hy).1
  · rw [List.mem_singleton.1 hy]; exact hx
theorem put_one {vs : List Vl} (h : RefRight vs) (x : Vl) : ∀ k, k < 10 → (rowOf (dropK vs x.k ++ [x]) k).length ≤ 1 := by
  intro k hk
  rw [rowOf_put]
  split
  · simp
  · exact h.2.1 k hk
/-- Put, where the row has the kind: that component alone is another. -/
theorem put_row {vs : List Vl} (h : RefRight vs) {x : Vl} {kx : Nat} (hkx : x.k = (kx : Int)) (hin : kx ∈ bitsOf (rowMask vs)) :
    sortTo (dropK vs x.k ++ [x]) 10 = (bitsOf (rowMask vs)).map (putVal vs x) := by
  have hnd : (bitsOf (rowMask vs)).Nodup := (bits_rise _).imp (fun h e => by omega)
  have hrow : ∀ k, rowOf (dropK vs x.k ++ [x]) k = rowOf ((bitsOf (rowMask vs)).map (putVal vs x)) k := by
    intro k
    rw [rowOf_put, rowOf_map hnd (fun k hk => putVal_kind h x hk)]
    by_cases hk : k ∈ bitsOf (rowMask vs)
    · rw [if_pos hk]
      unfold putVal
      by_cases e : x.k = (k : Int)
      · rw [if_pos e, if_pos e]
      · rw [if_neg e, if_neg e, h.row hk]
    · have hne : ¬ x.k = (k : Int) := fun e => hk ((show kx = k by omega) ▸ hin)
      rw [if_neg hk, if_neg hne, h.not hk]
  have hrise : ((bitsOf (rowMask vs)).map (putVal vs x)).Pairwise (fun a b => a.k < b.k) := by
    rw [List.pairwise_map]
    refine (bits_rise _).imp_of_mem (fun {a b} ha hb hab => ?_)
    rw [putVal_kind h x ha, putVal_kind h x hb]
    omega
  have hb10 : ∀ k ∈ bitsOf (rowMask vs), k < 10 := fun k hk => by
    have hm : (k : Int) ∈ vs.map (·.k) := by rw [← h.kinds]; exact List.mem_map.2 ⟨k, hk, rfl⟩
    obtain ⟨y, hy, e⟩ := List.mem_map.1 hm
    obtain ⟨k2, hk2, e2⟩ := h.kind hy
    omega
  have e1 : sortTo (dropK vs x.k ++ [x]) 10 = sortTo ((bitsOf (rowMask vs)).map (putVal vs x)) 10 := by
    unfold sortTo
    congr 1
    funext k
    exact hrow k
  rw [e1]
  have hone : ∀ k, k < 10 → (rowOf ((bitsOf (rowMask vs)).map (putVal vs x)) k).length ≤ 1 := fun k _ => by
    rw [rowOf_map hnd (fun k hk => putVal_kind h x hk)]
    split <;> simp
  have hs := sortTo_rise hone 10 (Nat.le_refl _)
  refine List.Perm.eq_of_pairwise (le := fun a b : Vl => a.k < b.k) (fun a b _ _ h1 h2 => by omega) hs hrise ?_
  refine (List.perm_ext_iff_of_nodup (hs.imp (fun h e => by subst e; omega)) (hrise.imp (fun h e => by subst e; omega))).2 (fun y => ⟨fun hy => (sortTo_mem hy).1, fun hy => ?_⟩)
  obtain ⟨k, hk, rfl⟩ := List.mem_map.1 hy
  unfold sortTo
  exact List.mem_flatMap.2 ⟨k, List.mem_range.2 (hb10 k hk), List.mem_filter.2 ⟨hy, by simpa using putVal_kind h x hk⟩⟩
end Go.Proofs.YtegcnkcjmebheaaDoor.Tab
