/-
  Maps that the call itself makes, with whole numbers as elements: what a map reads as, as a function of its keys.
-/
import Derived.Test.YtkjecihiipjngaaDoorLib
import Derived.Maps.OwnOps
import Derived.Maps.Views
import Derived.Maps.RangeWalk
namespace Go.Proofs.YtkjecihiipjngaaDoor
open Go Go.RowKit Go.Maps

/-- Block b is a map of at most n entries; at key k it reads as f k (0 where there is none). -/
def MapI (P : Program) (K E : TypeId) (w : World) (b n : Nat) (f : Lit → Int) : Prop :=
  ∃ D : DataW Unit, w.ownsMap P K (plainElem P E) b n D ∧ IsMap D ∧ ∀ kl, WideAt.IsKeyLit kl → D.atKey kl (.lit (.int .i64 0)) = .lit (.int .i64 (f kl))

/-- f, but y at kl. -/
noncomputable def updI (f : Lit → Int) (kl : Lit) (y : Int) : Lit → Int := fun k => @ite _ (k = kl) (Classical.propDecidable _) y (f k)
theorem updI_same (f : Lit → Int) (kl : Lit) (y : Int) : updI f kl y kl = y := by simp [updI]
theorem updI_other (f : Lit → Int) {kl k : Lit} (y : Int) (h : k ≠ kl) : updI f kl y k = f k := by simp [updI, h]

section
variable {P : Program} {K E T : TypeId} {w : World} {b n : Nat} {f : Lit → Int}

theorem MapI.made (w : World) : MapI P K E (w.alloc (.map #[] 0)) w.heap.size 0 (fun _ => 0) := ⟨_, World.ownsMap_made w P K _, isMap_empty, fun _ _ => rfl⟩
theorem MapI.lt (h : MapI P K E w b n f) : b < w.heap.size := by obtain ⟨D, h, _⟩ := h; exact h.lt
theorem MapI.congr {g : Lit → Int} (h : MapI P K E w b n f) (e : ∀ kl, f kl = g kl) : MapI P K E w b n g := by
  obtain ⟨D, h1, h2, h3⟩ := h
  exact ⟨D, h1, h2, fun kl hk => by rw [h3 kl hk, e kl]⟩
theorem MapI.chg {S : Nat → Prop} {w' : World} (h : MapI P K E w b n f) (hc : Chg S w w') (hb : ¬ S b) : MapI P K E w' b n f := by
  obtain ⟨D, ⟨es, cl, h1, h1'⟩, h2, h3⟩ := h
  exact ⟨D, ⟨es, cl, hc.heap h1 hb, h1'⟩, h2, h3⟩
theorem MapI.wf (h : MapI P K E w b n f) (KL : Keyed P K) (hT : P.underlying T = some (.map K E)) (hE : P.underlying E = some (.int .i64)) (hz : ∀ w, (zeroValue E).run P w = .ok (.int .i64 0) w) {key : Value} {kl : Lit} (hk : keyOf P K key = some kl) :
    -9223372036854775808 ≤ f kl ∧ f kl ≤ 9223372036854775807 := by
  obtain ⟨D, h1, _, h3⟩ := h
  obtain ⟨c, _, hat, hw⟩ := h1.lookup_int KL hT hE (hz w) hk
  rw [h3 kl (KL.key hk)] at hat
  simp only [DataW.lit.injEq, Lit.int.injEq, true_and] at hat
  have e1 : IntKind.i64.min = -9223372036854775808 := rfl
  have e2 : IntKind.i64.max = 9223372036854775807 := rfl
  simp only [Lit.wf, Bool.and_eq_true, decide_eq_true_eq, ← hat] at hw
  omega

/-- The look-up. -/
theorem wpList_lookI {ops : Array Oper} {rest : List Oper} {o : Oper} {a : Act} {Q : Exit → Act → World → Prop} (hg : o.guard = none) (m x : Operand) (hop : o.op = Op.lookup T m x false)
    (KL : Keyed P K) (hT : P.underlying T = some (.map K E)) (hE : P.underlying E = some (.int .i64)) (hz : ∀ w, (zeroValue E).run P w = .ok (.int .i64 0) w)
    (hm : a.eval m = .map (some b)) (h : MapI P K E w b n f) (key : Value) (kl : Lit) (hx : a.eval x = key) (hk : keyOf P K key = some kl)
    (hK : wpList P ops Q rest (a.put o.dst (.int .i64 (f kl))) w) : wpList P ops Q (o :: rest) a w := by
  obtain ⟨D, h1, h2, h3⟩ := h
  refine wpList_lookup_own_int w hg m x T hop K E .i64 KL hT hE (hz w) b n D hm h1 key kl hx hk ?_
  intro c hat _
  rw [h3 kl (KL.key hk)] at hat
  simp only [DataW.lit.injEq, Lit.int.injEq, true_and] at hat
  subst hat
  exact hK

/-- The store. -/
theorem wpList_storeI {ops : Array Oper} {rest : List Oper} {o : Oper} {a : Act} {Q : Exit → Act → World → Prop} (hg : o.guard = none) (m x v : Operand) (hop : o.op = Op.mapUpdate T m x v)
    (KL : Keyed P K) (hT : P.underlying T = some (.map K E)) (hE : P.underlying E = some (.int .i64)) (hm : a.eval m = .map (some b)) (h : MapI P K E w b n f) (hn : n < 9223372036854775807) (key : Value) (kl : Lit) (y : Int)
    (hx : a.eval x = key) (hv : a.eval v = .int .i64 y) (hk : keyOf P K key = some kl) (hy : -9223372036854775808 ≤ y ∧ y ≤ 9223372036854775807)
    (hK : ∀ w', MapI P K E w' b (n + 1) (updI f kl y) → Chg (fun k => k = b) w w' → wpList P ops Q rest (a.put o.dst undef) w') : wpList P ops Q (o :: rest) a w := by
  obtain ⟨D, h1, h2, h3⟩ := h
  have e1 : IntKind.i64.min = -9223372036854775808 := rfl
  have e2 : IntKind.i64.max = 9223372036854775807 := rfl
  refine wpList_mapUpdate_own w hg m x v T hop K E KL hT _ b n D hm h1 (by unfold maxLen; omega) key _ kl hx hv hk (.lit (.int .i64 y)) [] (plainElem_int hE (by simp only [Lit.wf, Bool.and_eq_true, decide_eq_true_eq]; omega)) ?_
  intro w' hw' hg'
  refine hK w' ⟨_, hw', h2.put _ _, fun k hkk => ?_⟩ ((Chg.refl w).grown hg' (fun k e _ => by cases e; rfl))
  by_cases e : k = kl
  · subst e; rw [updI_same]; exact atKey_put_same h2 (KL.key hk) _ _
  · rw [updI_other _ _ e, atKey_put_other e]; exact h3 k hkk

/-- A range over the map is under way: cnt entries are still to come. -/
def RangeI (P : Program) (K E : TypeId) (w : World) (b r n : Nat) (f : Lit → Int) (cnt : Nat) : Prop :=
  ∃ (D : DataW Unit) (left : Lit → Bool), w.ranges P K (plainElem P E) b r n D left cnt ∧ IsMap D ∧ ∀ kl, WideAt.IsKeyLit kl → D.atKey kl (.lit (.int .i64 0)) = .lit (.int .i64 (f kl))

theorem RangeI.left {r cnt : Nat} (h : RangeI P K E w b r n f cnt) : w.rangeLeft b r = cnt := by obtain ⟨_, _, h, _⟩ := h; exact h.left_eq
theorem RangeI.ne {r cnt : Nat} (h : RangeI P K E w b r n f cnt) : r ≠ b := by obtain ⟨_, _, h, _⟩ := h; exact h.ne

theorem wpList_rangeI {ops : Array Oper} {rest : List Oper} {o : Oper} {a : Act} {Q : Exit → Act → World → Prop} (hg : o.guard = none) (m : Operand) (hop : o.op = Op.range T m)
    (KL : Keyed P K) (hT : P.underlying T = some (.map K E)) (hm : a.eval m = .map (some b)) (h : MapI P K E w b n f)
    (hK : ∀ w' cnt, RangeI P K E w' b w.heap.size n f cnt → Same w w' → wpList P ops Q rest (a.put o.dst (.pointer (some ⟨w.heap.size, 0, none⟩))) w') : wpList P ops Q (o :: rest) a w := by
  obtain ⟨D, h1, h2, h3⟩ := h
  refine wpList_range_own w hg m T hop K E KL hT _ b n D hm h1 ?_
  intro w' hr hgr _
  exact hK w' _ ⟨D, _, hr, h2, h3⟩ ((Chg.refl w).grown hgr (fun k e _ => by cases e))

theorem wpList_nextI {ops : Array Oper} {rest : List Oper} {o : Oper} {a : Act} {Q : Exit → Act → World → Prop} {r cnt : Nat} (hg : o.guard = none) (it : Operand) (hop : o.op = Op.next it false)
    (KL : Keyed P K) (hE : P.underlying E = some (.int .i64)) (hit : a.eval it = .pointer (some ⟨r, 0, none⟩)) (h : RangeI P K E w b r n f cnt)
    (hDone : wpList P ops Q rest (a.put o.dst (.tuple #[.bool false])) w)
    (hMore : ∀ (x : Value) (kl : Lit) (w' : World) (cnt' : Nat), keyOf P K x = some kl → RangeI P K E w' b r n f cnt' → cnt' < cnt → Chg (fun k => k = r) w w' →
      (Instr.entry (.pointer (some ⟨r, 0, none⟩))).run P w' = .ok (.tuple #[x, .int .i64 (f kl)]) w' → wpList P ops Q rest (a.put o.dst (.tuple #[.bool true, x, .int .i64 (f kl)])) w') : wpList P ops Q (o :: rest) a w := by
  obtain ⟨D, left, h1, h2, h3⟩ := h
  refine wpList_next_ranges w hg it hop K KL (plainElem P E) (fun x : Value => x) (Value.int .i64) (fun key kl _ => ⟨key, rfl⟩) (fun v y hv => by obtain ⟨c, rfl, _⟩ := plainElem_int_inv hE hv; exact ⟨c, rfl⟩) b r n D left cnt hit h1 (fun _ _ => hDone) ?_
  intro x c kl y w' cnt' hk _ hv hat hr hlt hgr _ hen
  obtain ⟨c', ec, rfl, _⟩ := plainElem_int_inv hE hv
  cases ec
  have e := h3 kl (KL.key hk)
  rw [hat] at e
  simp only [DataW.lit.injEq, Lit.int.injEq, true_and] at e
  subst e
  exact hMore x kl w' cnt' hk ⟨D, _, hr, h2, h3⟩ hlt ((Chg.refl w).grown hgr (fun k e _ => by cases e; rfl)) hen
end
end Go.Proofs.YtkjecihiipjngaaDoor
