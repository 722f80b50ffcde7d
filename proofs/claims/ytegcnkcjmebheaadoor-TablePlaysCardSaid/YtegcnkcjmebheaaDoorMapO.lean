/-
  Maps that the call itself makes, whatever their elements are: what a map holds, as a function of its keys.
-/
import Derived.Test.YtegcnkcjmebheaaDoorStar
import Derived.Maps.OwnOps
import Derived.Maps.OwnSet
import Derived.Maps.Views
import Derived.Maps.RangeWalk
namespace Go.Proofs.YtegcnkcjmebheaaDoor
open Go Go.RowKit Go.Maps

/-- How the elements of a map are told. -/
structure Elem (α : Type) where
  R : Value → Option (DataW Unit × List MemPlace)
  val : α → Value
  cd : α → DataW Unit
  put : ∀ a, R (val a) = some (cd a, [])
  inv : ∀ {v : Value} {y : DataW Unit × List MemPlace}, R v = some y → ∃ a, v = val a ∧ y = (cd a, [])
  inj : ∀ {a b : α}, cd a = cd b → a = b

/-- Pointers to whole blocks. -/
def ptrE : Elem Nat where
  R v := match v with
    | .pointer (some ⟨b, 0, none⟩) => some (.lit (.int .u64 (b : Int)), [])
    | _ => none
  val b := .pointer (some ⟨b, 0, none⟩)
  cd b := .lit (.int .u64 (b : Int))
  put _ := rfl
  inv := by
    intro v y h
    split at h
    · cases h; exact ⟨_, rfl, rfl⟩
    · cases h
  inj := by
    intro a b h
    simp only [DataW.lit.injEq, Lit.int.injEq, true_and] at h
    omega
def boolE : Elem Bool where
  R v := match v with
    | .bool b => some (.lit (.bool b), [])
    | _ => none
  val b := .bool b
  cd b := .lit (.bool b)
  put _ := rfl
  inv := by
    intro v y h
    split at h
    · cases h; exact ⟨_, rfl, rfl⟩
    · cases h
  inj := by
    intro a b h
    simpa only [DataW.lit.injEq, Lit.bool.injEq] using h
def intE : Elem Int where
  R v := match v with
    | .int .i64 b => some (.lit (.int .i64 b), [])
    | _ => none
  val b := .int .i64 b
  cd b := .lit (.int .i64 b)
  put _ := rfl
  inv := by
    intro v y h
    split at h
    · cases h; exact ⟨_, rfl, rfl⟩
    · cases h
  inj := by
    intro a b h
    simpa only [DataW.lit.injEq, Lit.int.injEq, true_and] using h

/-- What a map gives at a key, as a datum. -/
def giveO {α : Type} (E : Elem α) (o : Option α) (zd : DataW Unit) : DataW Unit := match o with
  | some a => E.cd a
  | none => zd
/-- .. as a value. -/
def valO {α : Type} (E : Elem α) (o : Option α) (z : Value) : Value := match o with
  | some a => E.val a
  | none => z
theorem giveO_none {α : Type} {E : Elem α} {o : Option α} (h : ∀ zd, giveO E o zd = zd) : o = none := by
  cases o with
  | none => rfl
  | some a =>
    have h1 := h .nil
    have h2 := h (.lit (.bool true))
    simp only [giveO] at h1 h2
    rw [h1] at h2
    cases h2
theorem giveO_some {α : Type} {E : Elem α} {o : Option α} {a : α} (h : ∀ zd, giveO E o zd = E.cd a) : o = some a := by
  cases o with
  | none =>
    have h1 := h .nil
    have h2 := h (.lit (.bool true))
    simp only [giveO] at h1 h2
    rw [← h1] at h2
    cases h2
  | some b =>
    have h1 := h .nil
    simp only [giveO] at h1
    rw [E.inj h1]

/-- Block b is a map of n entries; at key k it holds what f says. -/
def MapO (P : Program) (K : TypeId) {α : Type} (E : Elem α) (w : World) (b n : Nat) (f : Lit → Option α) : Prop :=
  ∃ D : DataW Unit, w.ownsMap P K E.R b n D ∧ Maps.size D = n ∧ ∀ kl, WideAt.IsKeyLit kl → ∀ zd, D.atKey kl zd = giveO E (f kl) zd

/-- f, but o at kl. -/
noncomputable def updO {α : Type} (f : Lit → Option α) (kl : Lit) (o : Option α) : Lit → Option α := fun k => @ite _ (k = kl) (Classical.propDecidable _) o (f k)
theorem updO_same {α : Type} (f : Lit → Option α) (kl : Lit) (o : Option α) : updO f kl o kl = o := by simp [updO]
theorem updO_other {α : Type} (f : Lit → Option α) {kl k : Lit} (o : Option α) (h : k ≠ kl) : updO f kl o k = f k := by simp [updO, h]

section
variable {α : Type} {E : Elem α} {P : Program} {K Et T : TypeId} {w : World} {b n : Nat} {f : Lit → Option α}

theorem ownsMap_block {R : Value → Option (DataW Unit × List MemPlace)} {w w' : World} {D : DataW Unit} (h : w.ownsMap P K R b n D) (hb : w'.heap[b]? = w.heap[b]?) : w'.ownsMap P K R b n D := by
  obtain ⟨es, cl, h1, h2⟩ := h
  exact ⟨es, cl, hb.trans h1, h2⟩
theorem MapO.made (w : World) : MapO P K E (w.alloc (.map #[] 0)) w.heap.size 0 (fun _ => none) := ⟨_, World.ownsMap_made w P K _, rfl, fun _ _ _ => rfl⟩
theorem MapO.lt (h : MapO P K E w b n f) : b < w.heap.size := by obtain ⟨D, h, _⟩ := h; exact h.lt
theorem MapO.congr {g : Lit → Option α} (h : MapO P K E w b n f) (e : ∀ kl, f kl = g kl) : MapO P K E w b n g := by
  obtain ⟨D, h1, h2, h3⟩ := h
  exact ⟨D, h1, h2, fun kl hk => by rw [← e kl]; exact h3 kl hk⟩
theorem MapO.block {w' : World} (h : MapO P K E w b n f) (hb : w'.heap[b]? = w.heap[b]?) : MapO P K E w' b n f := by
  obtain ⟨D, h1, h2⟩ := h
  exact ⟨D, ownsMap_block h1 hb, h2⟩
theorem MapO.has {D : DataW Unit} (h3 : ∀ kl, WideAt.IsKeyLit kl → ∀ zd, D.atKey kl zd = giveO E (f kl) zd) {kl : Lit} (hk : WideAt.IsKeyLit kl) : Maps.has D kl = (f kl).isSome := by
  cases hf : f kl with
  | none => exact has_false_of_atKey (fun z => by rw [h3 kl hk z, hf]; rfl)
  | some a => exact has_true_of_atKey (y := E.cd a) (fun z => by rw [h3 kl hk z, hf]; rfl)

/-- v is what is held. -/
def Held {α : Type} (E : Elem α) (o : Option α) (v : Value) : Prop := ∃ y, o = some y ∧ v = E.val y
/-- The thing that a map is. -/
def MapR (P : Program) (K : TypeId) {α : Type} (E : Elem α) (b n : Nat) (f : Lit → Option α) : Res where
  rel w F := MapO P K E w b n f ∧ F = (fun k => k = b)
  here := by rintro w F ⟨h, rfl⟩ k rfl; exact h.lt
  keep := by rintro w w' F ⟨h, rfl⟩ hk; exact ⟨h.block (hk b rfl), rfl⟩
theorem Star.map {w0 : World} {L : List Res} (X : Star w0 w L) (i : Nat) (hi : L[i]? = some (MapR P K E b n f)) : MapO P K E w b n f ∧ w0.heap.size ≤ b := by
  obtain ⟨F, ⟨h, rfl⟩, h2, _⟩ := X.at i hi
  exact ⟨h, h2 b rfl⟩
theorem Star.mapSet {w0 w' : World} {L : List Res} (X : Star w0 w L) (i : Nat) {n' : Nat} {g : Lit → Option α} (hi : L[i]? = some (MapR P K E b n f)) (h : MapO P K E w' b n' g) (hc : Chg (fun k => k = b) w w') : Star w0 w' (L.set i (MapR P K E b n' g)) := by
  obtain ⟨F, ⟨_, rfl⟩, h2, h3⟩ := X.at i hi
  exact h3 _ _ _ ⟨h, rfl⟩ hc (fun k f => .inl f)
theorem Star.mapNew {w0 : World} {L : List Res} (X : Star w0 w L) (P : Program) (K : TypeId) (E : Elem α) : Star w0 (w.alloc (.map #[] 0)) (MapR P K E w.heap.size 0 (fun _ => none) :: L) :=
  X.add ((Chg.refl _).alloc _) ⟨MapO.made w, rfl⟩ (fun k h => by cases h; exact Nat.le_refl _)

/-- What a look-up gives. -/
theorem MapO.look (c : Bool) (h : MapO P K E w b n f) (KL : Keyed P K) (hT : P.underlying T = some (.map K Et)) {z : Value} (hz : (zeroValue Et).run P w = .ok z w) {key : Value} {kl : Lit} (hk : keyOf P K key = some kl) :
    (Instr.lookup T (.map (some b)) key c).run P w = .ok (if c then .tuple #[valO E (f kl) z, .bool (f kl).isSome] else valO E (f kl) z) w := by
  obtain ⟨D, ⟨es, clock, hb, F, _, rfl⟩, _, h3⟩ := h
  have h3' := h3 kl (KL.key hk)
  rcases Maps.fit_look c KL hT hz hb F hk with ⟨hrun, _, hat⟩ | ⟨e0, y, _, _, hrun, hRv, hat, _⟩
  · have : f kl = none := giveO_none (E := E) (fun zd => by rw [← h3' zd]; exact hat zd)
    rw [this]
    exact hrun
  · obtain ⟨a, ha, rfl⟩ := E.inv hRv
    have : f kl = some a := giveO_some (E := E) (fun zd => by rw [← h3' zd]; exact hat zd)
    rw [this]
    rw [ha] at hrun
    exact hrun
section
variable {ops : Array Oper} {rest : List Oper} {o : Oper} {a : Act} {Q : Exit → Act → World → Prop}
/-- The look-up. -/
theorem wpList_lookO (hg : o.guard = none) (m x : Operand) (hop : o.op = Op.lookup T m x false)
    (KL : Keyed P K) (hT : P.underlying T = some (.map K Et)) (z : Value) (hz : ∀ w, (zeroValue Et).run P w = .ok z w) (hm : a.eval m = .map (some b)) (h : MapO P K E w b n f) (key : Value) (kl : Lit) (hx : a.eval x = key) (hk : keyOf P K key = some kl)
    (v : Value) (hv : valO E (f kl) z = v) (hK : wpList P ops Q rest (a.put o.dst v) w) : wpList P ops Q (o :: rest) a w := by
  refine wpList_plain hg fun K' hK' => ?_
  have hrun := h.look false KL hT (hz w) hk
  rw [if_neg (by decide), hv] at hrun
  unfold Oper.wp
  simp [execOp, hop, hm, hx, hrun, Result.andThen]
  exact hK' _ _ hK
/-- .. where it is guarded. -/
theorem wpList_lookO_want (hw : Region.wanted o (yielded ops a.tmps) = true) (m x : Operand) (hop : o.op = Op.lookup T m x false)
    (KL : Keyed P K) (hT : P.underlying T = some (.map K Et)) (z : Value) (hz : ∀ w, (zeroValue Et).run P w = .ok z w) (hm : a.eval m = .map (some b)) (h : MapO P K E w b n f) (key : Value) (kl : Lit) (hx : a.eval x = key) (hk : keyOf P K key = some kl)
    (v : Value) (hv : valO E (f kl) z = v) (hK : wpList P ops Q rest (a.put o.dst v) w) : wpList P ops Q (o :: rest) a w := by
  refine BigFrame.wpList_want hw fun K' hK' => ?_
  have hrun := h.look false KL hT (hz w) hk
  rw [if_neg (by decide), hv] at hrun
  unfold Oper.wp
  simp [execOp, hop, hm, hx, hrun, Result.andThen]
  exact hK' _ _ hK
/-- .. with 'ok'. -/
theorem wpList_lookOk (hg : o.guard = none) (m x : Operand) (hop : o.op = Op.lookup T m x true)
    (KL : Keyed P K) (hT : P.underlying T = some (.map K Et)) (z : Value) (hz : ∀ w, (zeroValue Et).run P w = .ok z w) (hm : a.eval m = .map (some b)) (h : MapO P K E w b n f) (key : Value) (kl : Lit) (hx : a.eval x = key) (hk : keyOf P K key = some kl)
    (v : Value) (ok : Bool) (hv : valO E (f kl) z = v) (hok : (f kl).isSome = ok) (hK : wpList P ops Q rest (a.put o.dst (.tuple #[v, .bool ok])) w) : wpList P ops Q (o :: rest) a w := by
  refine wpList_plain hg fun K' hK' => ?_
  have hrun := h.look true KL hT (hz w) hk
  rw [if_pos rfl, hv, hok] at hrun
  unfold Oper.wp
  simp [execOp, hop, hm, hx, hrun, Result.andThen]
  exact hK' _ _ hK
end

/-- The store. -/
theorem MapO.store (h : MapO P K E w b n f) (KL : Keyed P K) (hT : P.underlying T = some (.map K Et)) (hn : n < 9223372036854775807) {key : Value} {kl : Lit} (hk : keyOf P K key = some kl) (y : α) :
    ∃ w', (Instr.mapUpdate T (.map (some b)) key (E.val y)).run P w = .ok () w' ∧ MapO P K E w' b (if (f kl).isSome then n else n + 1) (updO f kl (some y)) ∧ Chg (fun k => k = b) w w' := by
  obtain ⟨D, h1, h2, h3⟩ := h
  obtain ⟨w', hrun, ho, ht⟩ := h1.store KL hT (by unfold maxLen; omega) hk (E.put y)
  have hs := size_put (h1.tidy KL) (k := kl) (E.cd y)
  rw [MapO.has h3 (KL.key hk), h2] at hs
  refine ⟨w', hrun, ⟨_, ?_, hs, fun k hkk zd => ?_⟩, (Chg.refl w).grown ht.grown (fun k e _ => by cases e; rfl)⟩
  · obtain ⟨es, cl, hb, F, _, hD⟩ := ho
    refine ⟨es, cl, hb, F, ?_, hD⟩
    rw [← hs, hD]
    simp [Maps.size, length_sorted]
  · by_cases e : k = kl
    · subst e; rw [updO_same]; exact atKey_put_same h1.isMap (KL.key hk) _ _
    · rw [updO_other _ _ e, atKey_put_other e]; exact h3 k hkk zd
/-- delete. -/
theorem MapO.del (h : MapO P K E w b n f) (KL : Keyed P K) (hT : P.underlying T = some (.map K Et)) {key : Value} {kl : Lit} (hk : keyOf P K key = some kl) (ty : TypeId) :
    ∃ w', (Builtin.delete_ #[T, K] ty #[.map (some b), key]).run P w = .ok (.tuple #[]) w' ∧ MapO P K E w' b (if (f kl).isSome then n - 1 else n) (updO f kl none) ∧ Chg (fun k => k = b) w w' := by
  obtain ⟨D, h1, h2, h3⟩ := h
  obtain ⟨w', hrun, ho, ht⟩ := h1.drop KL hT hk ty
  have hs := size_del (h1.tidy KL) (k := kl)
  rw [MapO.has h3 (KL.key hk), h2] at hs
  have hs' : Maps.size (D.del kl) = if (f kl).isSome then n - 1 else n := by
    split at hs <;> simp_all <;> omega
  refine ⟨w', hrun, ⟨_, ?_, hs', fun k hkk zd => ?_⟩, (Chg.refl w).grown ht.grown (fun k e _ => by cases e; rfl)⟩
  · obtain ⟨es, cl, hb, F, _, hD⟩ := ho
    refine ⟨es, cl, hb, F, ?_, hD⟩
    rw [← hs', hD]
    simp [Maps.size, length_sorted]
  · by_cases e : k = kl
    · subst e; rw [updO_same]; exact atKey_del_same _
    · rw [updO_other _ _ e, atKey_del_other e]; exact h3 k hkk zd
section
variable {ops : Array Oper} {rest : List Oper} {o : Oper} {a : Act} {Q : Exit → Act → World → Prop}
theorem wpList_storeO (hg : o.guard = none) (m x v : Operand) (hop : o.op = Op.mapUpdate T m x v)
    (KL : Keyed P K) (hT : P.underlying T = some (.map K Et)) (hm : a.eval m = .map (some b)) (h : MapO P K E w b n f) (hn : n < 9223372036854775807) (key : Value) (kl : Lit) (y : α)
    (hx : a.eval x = key) (hv : a.eval v = E.val y) (hk : keyOf P K key = some kl)
    (hK : ∀ w' n', n' = (if (f kl).isSome then n else n + 1) → MapO P K E w' b n' (updO f kl (some y)) → Chg (fun k => k = b) w w' → wpList P ops Q rest (a.put o.dst undef) w') : wpList P ops Q (o :: rest) a w := by
  refine wpList_plain hg fun K' hK' => ?_
  obtain ⟨w', hrun, r1, r2⟩ := h.store KL hT hn hk y
  unfold Oper.wp
  simp [execOp, hop, hm, hx, hv, hrun, Result.andThen]
  exact hK' _ _ (hK w' _ rfl r1 r2)
theorem wpList_delO (hg : o.guard = none) (m x : Operand) (hop : o.op = Op.call { callee := Callee.builtin Builtin.delete, args := #[m, x], argTypes := #[T, K] })
    (KL : Keyed P K) (hT : P.underlying T = some (.map K Et)) (hm : a.eval m = .map (some b)) (h : MapO P K E w b n f) (key : Value) (kl : Lit) (hx : a.eval x = key) (hk : keyOf P K key = some kl)
    (hK : ∀ w' n', n' = (if (f kl).isSome then n - 1 else n) → MapO P K E w' b n' (updO f kl none) → Chg (fun k => k = b) w w' → wpList P ops Q rest (a.put o.dst (.tuple #[])) w') : wpList P ops Q (o :: rest) a w := by
  refine wpList_plain hg fun K' hK' => ?_
  obtain ⟨w', hrun, r1, r2⟩ := h.del KL hT hk o.type
  unfold Oper.wp
  simp [execOp, hop, resolve, invoke, builtin, hm, hx, hrun, Result.andThen]
  exact hK' _ _ (hK w' _ rfl r1 r2)
end
theorem MapO.len (h : MapO P K E w b n f) (hT : P.underlying T = some (.map K Et)) (ty : TypeId) : (Builtin.len_ #[T] ty #[.map (some b)]).run P w = .ok (.int .i64 n) w := by
  obtain ⟨D, h1, h2, _⟩ := h
  rw [← h2]
  exact h1.len hT ty

/-- A range over the map is under way: which keys are still to come, how many. -/
def RangeO (P : Program) (K : TypeId) {α : Type} (E : Elem α) (w : World) (b r n : Nat) (f : Lit → Option α) (left : Lit → Bool) (cnt : Nat) : Prop :=
  ∃ D : DataW Unit, w.ranges P K E.R b r n D left cnt ∧ Maps.size D = n ∧ ∀ kl, WideAt.IsKeyLit kl → ∀ zd, D.atKey kl zd = giveO E (f kl) zd
theorem RangeO.cnt {r cnt : Nat} {left : Lit → Bool} (h : RangeO P K E w b r n f left cnt) : w.rangeLeft b r = cnt := by obtain ⟨_, h, _⟩ := h; exact h.left_eq
theorem RangeO.ne {r cnt : Nat} {left : Lit → Bool} (h : RangeO P K E w b r n f left cnt) : r ≠ b := by obtain ⟨_, h, _⟩ := h; exact h.ne
theorem RangeO.map {r cnt : Nat} {left : Lit → Bool} (h : RangeO P K E w b r n f left cnt) : MapO P K E w b n f := by obtain ⟨_, h, h2⟩ := h; exact ⟨_, h.owns, h2⟩
theorem RangeO.lt {r cnt : Nat} {left : Lit → Bool} (h : RangeO P K E w b r n f left cnt) : r < w.heap.size := by obtain ⟨_, h, _⟩ := h; exact h.lt
theorem RangeO.block {w' : World} {r cnt : Nat} {left : Lit → Bool} (h : RangeO P K E w b r n f left cnt) (hb : w'.heap[b]? = w.heap[b]?) (hr : w'.heap[r]? = w.heap[r]?) : RangeO P K E w' b r n f left cnt := by
  obtain ⟨D, ⟨es, clock, since, seen, c0, h1, h2, h3, h4, h5, h6⟩, h7⟩ := h
  exact ⟨D, ⟨es, clock, since, seen, c0, hb.trans h1, h2, h3, h4, hr.trans h5, h6⟩, h7⟩
/-- The thing that such a range is, map and all. -/
def RangeR (P : Program) (K : TypeId) {α : Type} (E : Elem α) (b r n : Nat) (f : Lit → Option α) (left : Lit → Bool) (cnt : Nat) : Res where
  rel w F := RangeO P K E w b r n f left cnt ∧ F = (fun k => k = b ∨ k = r)
  here := by
    rintro w F ⟨h, rfl⟩ k (rfl | rfl)
    · exact h.map.lt
    · exact h.lt
  keep := by rintro w w' F ⟨h, rfl⟩ hk; exact ⟨h.block (hk b (.inl rfl)) (hk r (.inr rfl)), rfl⟩
theorem Star.range {w0 : World} {L : List Res} {r cnt : Nat} {left : Lit → Bool} (X : Star w0 w L) (i : Nat) (hi : L[i]? = some (RangeR P K E b r n f left cnt)) : RangeO P K E w b r n f left cnt := by
  obtain ⟨F, ⟨h, rfl⟩, h2, _⟩ := X.at i hi
  exact h
/-- The range is over: the map stays. -/
theorem Star.rangeEnd {w0 : World} {L : List Res} {r cnt : Nat} {left : Lit → Bool} (X : Star w0 w L) (i : Nat) (hi : L[i]? = some (RangeR P K E b r n f left cnt)) : Star w0 w (L.set i (MapR P K E b n f)) := by
  obtain ⟨F, ⟨h, rfl⟩, h2, h3⟩ := X.at i hi
  exact h3 w _ (fun k => k = b) ⟨h.map, rfl⟩ (Chg.refl _) (fun k f => .inl (.inl f))
theorem Star.rangeNew {w0 w' : World} {L : List Res} {r cnt : Nat} {left : Lit → Bool} (X : Star w0 w L) (i : Nat) (hi : L[i]? = some (MapR P K E b n f)) (h : RangeO P K E w' b r n f left cnt) (hr : w.heap.size ≤ r) (hc : Same w w') : Star w0 w' (L.set i (RangeR P K E b r n f left cnt)) := by
  obtain ⟨F, ⟨_, rfl⟩, h2, h3⟩ := X.at i hi
  refine h3 _ _ _ ⟨h, rfl⟩ (hc.mono (fun _ _ f => f.elim)) (fun k f => ?_)
  rcases f with f | f
  · exact .inl f
  · exact .inr (f ▸ hr)
theorem Star.rangeSet {w0 w' : World} {L : List Res} {r cnt cnt' : Nat} {left left' : Lit → Bool} (X : Star w0 w L) (i : Nat) (hi : L[i]? = some (RangeR P K E b r n f left cnt)) (h : RangeO P K E w' b r n f left' cnt') (hc : Chg (fun k => k = r) w w') : Star w0 w' (L.set i (RangeR P K E b r n f left' cnt')) := by
  obtain ⟨F, ⟨_, rfl⟩, h2, h3⟩ := X.at i hi
  exact h3 _ _ _ ⟨h, rfl⟩ (hc.mono (fun k _ e => .inr e)) (fun k f => .inl f)

section
variable {ops : Array Oper} {rest : List Oper} {o : Oper} {a : Act} {Q : Exit → Act → World → Prop}
theorem wpList_rangeO (hg : o.guard = none) (m : Operand) (hop : o.op = Op.range T m)
    (KL : Keyed P K) (hT : P.underlying T = some (.map K Et)) (hm : a.eval m = .map (some b)) (h : MapO P K E w b n f)
    (hK : ∀ w' left cnt, RangeO P K E w' b w.heap.size n f left cnt → (∀ kl, WideAt.IsKeyLit kl → left kl = (f kl).isSome) → Same w w' → wpList P ops Q rest (a.put o.dst (.pointer (some ⟨w.heap.size, 0, none⟩))) w') : wpList P ops Q (o :: rest) a w := by
  obtain ⟨D, h1, h2, h3⟩ := h
  refine wpList_range_own w hg m T hop K Et KL hT _ b n D hm h1 ?_
  intro w' hr hgr _
  exact hK w' _ _ ⟨D, hr, h2, h3⟩ (fun kl hk => MapO.has h3 hk) ((Chg.refl w).grown hgr (fun k e _ => by cases e))

/-- left, but not kl. -/
def strike (left : Lit → Bool) (kl : Lit) : Lit → Bool := fun z => left z && !z.sameKey kl
theorem strike_same (left : Lit → Bool) {kl : Lit} (h : WideAt.IsKeyLit kl) : strike left kl kl = false := by simp [strike, WideAt.sameKey_self h]
theorem strike_other (left : Lit → Bool) {kl k : Lit} (h : k ≠ kl) : strike left kl k = left k := by simp [strike, sameKey_ne h]

theorem wpList_nextO {r cnt : Nat} {left : Lit → Bool} (hg : o.guard = none) (it : Operand) (hop : o.op = Op.next it false)
    (KL : Keyed P K) (hit : a.eval it = .pointer (some ⟨r, 0, none⟩)) (h : RangeO P K E w b r n f left cnt)
    (hDone : (∀ kl, left kl = false) → wpList P ops Q rest (a.put o.dst (.tuple #[.bool false])) w)
    (hMore : ∀ (x v : Value) (kl : Lit) (w' : World) (cnt' : Nat), keyOf P K x = some kl → left kl = true → Held E (f kl) v → RangeO P K E w' b r n f (strike left kl) cnt' → cnt' < cnt → Chg (fun k => k = r) w w' →
      (Instr.entry (.pointer (some ⟨r, 0, none⟩))).run P w' = .ok (.tuple #[x, v]) w' → wpList P ops Q rest (a.put o.dst (.tuple #[.bool true, x, v])) w') : wpList P ops Q (o :: rest) a w := by
  obtain ⟨D, h1, h2, h3⟩ := h
  refine wpList_next_ranges w hg it hop K KL E.R (fun x : Value => x) E.val (fun key kl _ => ⟨key, rfl⟩) (fun v y hv => by obtain ⟨c, rfl, _⟩ := E.inv hv; exact ⟨c, rfl⟩) b r n D left cnt hit h1 (fun _ hl => hDone hl) ?_
  intro x c kl y w' cnt' hk hl hv hat hr hlt hgr _ hen
  have e1 := E.put c
  rw [hv] at e1
  cases e1
  exact hMore x _ kl w' cnt' hk hl ⟨c, giveO_some (E := E) (fun zd => by rw [← h3 kl (KL.key hk) zd]; exact hat zd), rfl⟩ ⟨D, hr, h2, h3⟩ hlt ((Chg.refl w).grown hgr (fun k e _ => by cases e; rfl)) hen
end
end
end Go.Proofs.YtegcnkcjmebheaaDoor
