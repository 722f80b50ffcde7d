/-
  Long arrays, by law: made, stored and read whole; a drawn region of reads and of calls that change nothing that was there.
-/
import Derived.Test.YtegcnkcjmebheaaDoorStar
import Derived.Laws.Tables
import Derived.Laws.Rows
import Derived.Maps.RangeWalk
namespace Go.Proofs.YtegcnkcjmebheaaDoor
open Go Go.RowKit

section
variable {P : Program} {ops : Array Oper} {rest : List Oper} {o : Oper} {a : Act} {w : World} {Q : Exit → Act → World → Prop}

/-- Which operation is next: cheap to ask, under 'with_reducible'. -/
theorem at_alloc (d : Tmp) {T ty : TypeId} {pos : String} {after : Array Edge} {g : Option (Nat × Bool)} (h : wpList P ops Q (Oper.mk (some d) (.alloc T) ty pos after g :: rest) a w) : wpList P ops Q (Oper.mk (some d) (.alloc T) ty pos after g :: rest) a w := h
theorem at_build {d : Option Tmp} {T ty : TypeId} {ps : Array (Nat × Operand)} {pos : String} {after : Array Edge} {g : Option (Nat × Bool)} (h : wpList P ops Q (Oper.mk d (.build T ps) ty pos after g :: rest) a w) : wpList P ops Q (Oper.mk d (.build T ps) ty pos after g :: rest) a w := h
theorem at_store (x : Tmp) {T ty : TypeId} {d : Option Tmp} {y : Operand} {pos : String} {after : Array Edge} {g : Option (Nat × Bool)} (h : wpList P ops Q (Oper.mk d (.store T (.tmp x) y) ty pos after g :: rest) a w) : wpList P ops Q (Oper.mk d (.store T (.tmp x) y) ty pos after g :: rest) a w := h
theorem at_load (x : Tmp) {T ty : TypeId} {d : Option Tmp} {pos : String} {after : Array Edge} {g : Option (Nat × Bool)} (h : wpList P ops Q (Oper.mk d (.load T (.tmp x)) ty pos after g :: rest) a w) : wpList P ops Q (Oper.mk d (.load T (.tmp x)) ty pos after g :: rest) a w := h
theorem setRow_same {w : World} {g : Nat} {cs : Array Value} {t : TypeId} {fr : Nat × Nat} (h : w.heap[g]? = some (.cells cs t fr)) : w.setRow g cs = w := by
  have hv : w.heap[g]'(lt_of h) = .cells cs t fr := (Array.getElem?_eq_some_iff.1 h).2
  unfold World.setRow
  cases w with
  | mk heap tape drawn os output =>
    congr 1
    apply Array.ext
    · simp
    · intro k h1 h2
      simp only [Array.getElem_modify]
      split
      · rename_i hk; subst hk; simp at hv; simp [hv]
      · rfl

theorem wpList_alloc_big (hg : o.guard = none) (T : TypeId) (ho : o.op = .alloc T) (z : Value) (hz : ∀ w, (zeroValue T).run P w = .ok z w)
    (h : wpList P ops Q rest (a.put o.dst (.pointer (some ⟨w.heap.size, 0, none⟩))) (w.alloc (.cells z.cells T))) : wpList P ops Q (o :: rest) a w := by
  refine wpList_plain hg fun K hK => ?_
  unfold Oper.wp execOp
  simp only [ho]
  have : (Instr.alloc T true (.tuple #[])).run P w = .ok (.pointer (some ⟨w.heap.size, 0, none⟩)) (w.alloc (.cells z.cells T)) := by
    unfold Instr.alloc
    rw [Sem.run_bind, hz]
    rfl
  simp only [Sem.run_bind, this, Result.andThen_ok]
  exact hK _ _ h

theorem wpList_build_big (hg : o.guard = none) (T : TypeId) (ho : o.op = .build T #[]) (cs : Array Value) (hb : P.built T [] = some cs)
    (h : wpList P ops Q rest (a.put o.dst (.agg cs)) w) : wpList P ops Q (o :: rest) a w := by
  refine wpList_build hg T #[] ho (by simp [hb]) ?_
  simpa [hb] using h

theorem wpList_store_same (hg : o.guard = none) (ty : TypeId) (x y : Operand) (ho : o.op = .store ty x y)
    (g : Nat) (cells : Array Value) (hx : a.eval x = .pointer (some ⟨g, 0, none⟩)) (hy : a.eval y = .agg cells)
    (t : TypeId) (hgw : w.heap[g]? = some (.cells cells t (0, 0))) (hi : (P.info? ty).map (·.size) = some cells.size) (h1 : cells.all (·.oneCell') = true)
    (h : wpList P ops Q rest (a.put o.dst undef) w) : wpList P ops Q (o :: rest) a w := by
  refine wpList_store_row hg ty x y ho g cells hx hy t cells hgw hi rfl h1 ?_
  rw [setRow_same hgw]
  exact h

/-- .. where the call's own things are told. -/
theorem wpList_alloc_star {w0 : World} {L : List Res} (X : Star w0 w L) (hg : o.guard = none) (T : TypeId) (ho : o.op = .alloc T) (z : Value) (hz : ∀ w, (zeroValue T).run P w = .ok z w)
    (h : ∀ g w', Star w0 w' (Blk g z.cells T :: L) → wpList P ops Q rest (a.put o.dst (.pointer (some ⟨g, 0, none⟩))) w') : wpList P ops Q (o :: rest) a w :=
  wpList_alloc_big hg T ho z hz (h _ _ (X.alloc z.cells T))
theorem Star.setRow {w0 w : World} {L : List Res} (X : Star w0 w L) (i : Nat) {g : Nat} {old : Array Value} {T : TypeId} (hi : L[i]? = some (Blk g old T)) (cells : Array Value) : Star w0 (w.setRow g cells) (L.set i (Blk g cells T)) := by
  obtain ⟨F, ⟨h, rfl⟩, h2, h3⟩ := X.at i hi
  refine h3 _ _ _ ⟨setRow_heap w g old cells T _ h, rfl⟩ ⟨rfl, rfl, rfl, by simp, fun k hk hn => setRow_other w g k cells hn⟩ (fun k f => .inl f)
theorem wpList_store_star {w0 : World} {L : List Res} (X : Star w0 w L) (i : Nat) {g : Nat} {old : Array Value} {T : TypeId} (hi : L[i]? = some (Blk g old T)) (hgd : o.guard = none) (ty : TypeId) (x y : Operand) (ho : o.op = .store ty x y)
    (cells : Array Value) (hx : a.eval x = .pointer (some ⟨g, 0, none⟩)) (hy : a.eval y = .agg cells) (hs : (P.info? ty).map (·.size) = some cells.size)
    (hold : old.size = cells.size) (h1 : cells.all (·.oneCell') = true)
    (h : ∀ w', Star w0 w' (L.set i (Blk g cells T)) → wpList P ops Q rest (a.put o.dst undef) w') : wpList P ops Q (o :: rest) a w :=
  wpList_store_row hgd ty x y ho g cells hx hy T old (X.blk i hi).1 hs hold h1 (h _ (X.setRow i hi cells))

/-- A load of a long array at an operation that is guarded. -/
theorem wpList_load_row_want (hw : Region.wanted o (yielded ops a.tmps) = true) (ty : TypeId) (x : Operand) (ho : o.op = .load ty x)
    (g : Nat) (hx : a.eval x = .pointer (some ⟨g, 0, none⟩)) (t : TypeId) (cs : Array Value) (fr : Nat × Nat) (d : TypeDesc) (hg : w.heap[g]? = some (.cells cs t fr))
    (hu : P.underlying ty = some d) (hd : (match d with | .struct _ | .array _ _ => true | _ => false) = true) (hi : (P.info? ty).map (·.size) = some cs.size)
    (h : wpList P ops Q rest (a.put o.dst (.agg cs)) w) : wpList P ops Q (o :: rest) a w :=
  BigFrame.wpList_want hw fun _ hK => wp_load_row ty x ho g hx t cs fr d hg hu hd hi (hK _ _ h)

theorem Chg.setRow {S : Nat → Prop} {a b : World} (g : Nat) (cs : Array Value) (h : Chg S a b) (hp : g < a.heap.size → S g) : Chg S a (b.setRow g cs) :=
  ⟨h.os, h.tape, h.output, by have := h.size; simp; omega, fun k hk hn => (setRow_other b g k cs (fun e => hn (e ▸ hp (e ▸ hk)))).trans (h.block k hk hn)⟩
end

theorem loadAt_row {P : Program} {w : World} {g : Nat} {t ty : TypeId} {cs : Array Value} {fr : Nat × Nat} {d : TypeDesc} (hg : w.heap[g]? = some (.cells cs t fr))
    (hu : P.underlying ty = some d) (hd : (match d with | .struct _ | .array _ _ => true | _ => false) = true) (hi : (P.info? ty).map (·.size) = some cs.size) :
    (Instr.loadAt ty (.pointer (some ⟨g, 0, none⟩))).run P w = .ok (.agg cs) w := by
  simp only [Instr.loadAt, Instr.sureAddr, Sem.run_bind, Sem.run_pure, Result.andThen_ok, run_loadVar_row w g t ty cs fr d hg hu hd hi]

/-- A world in which nothing that was there in w has changed. -/
structure SameW (w0 : World) where
  w : World
  same : Same w0 w

instance instNonemptySameW (w0 : World) : Nonempty (SameW w0) := ⟨⟨w0, Chg.refl w0⟩⟩

theorem Chg.after' {a b c : World} (k : Same b c) (h : Same a b) : Same a c := h.trans k (fun _ _ f => f)

/-- A drawn region whose operations read, and whose calls change nothing that was there: walked once. -/
theorem wp_region_same {P : Program} {id : Nat} {Q : Exit → Act → World → Prop} {a : Act} {w : World} {l : List Oper} (hm : P.follows .mixedOrders = true) (hB : Region.lexB .any l.toArray = true)
    (h : wpQuiet P l.toArray (fun w' => ∃ n : SameW w, w' = n.w) (fun a' => ∀ w', (∃ n : SameW w, w' = n.w) → Q .normal a' w') l a) : (Code.region id l.toArray true).wp P Q a w :=
  wp_region_quiet (C := fun w' => ∃ n : SameW w, w' = n.w) hm hB ⟨⟨_, (Chg.refl w).drew⟩, rfl⟩ (by simpa using h)

/-- A load in such a region, by law. -/
theorem quiet_loadS {P : Program} {o : Oper} {a : Act} {K : Act → Prop} {w0 : World} {T : TypeId} {x : Operand} {p v : Value} (ho : o.op = .load T x) (hx : a.eval x = p)
    (hv : ∀ n : SameW w0, (Instr.loadAt T p).run P n.w = .ok v n.w) (hk : K (a.put o.dst v)) : o.quiet P a (fun w' => ∃ n : SameW w0, w' = n.w) K := by
  refine ⟨v, ?_, hk⟩
  rintro w ⟨n, rfl⟩
  unfold Oper.quietAt execOp
  simp only [ho, hx, Sem.run_bind, hv n, Result.andThen_ok]
  exact ⟨rfl, rfl⟩
theorem at_loadQ (x : Tmp) {P : Program} {ops : Array Oper} {C : World → Prop} {Q : Act → Prop} {rest : List Oper} {a : Act} {T ty : TypeId} {d : Option Tmp} {pos : String} {after : Array Edge} {g : Option (Nat × Bool)} (h : wpQuiet P ops C Q (Oper.mk d (.load T (.tmp x)) ty pos after g :: rest) a) :
    wpQuiet P ops C Q (Oper.mk d (.load T (.tmp x)) ty pos after g :: rest) a := h

theorem Calls.same_of {P : Program} {f : FuncId} {args : Array Value} {w : World} {n : SameW w} {v : Value}
    (h : Calls P f args n.w fun e w' => e = .returned v ∧ Same n.w w') : Calls P f args n.w fun e w'' => e = .returned v ∧ ∃ m : SameW w, w'' = m.w :=
  h.mono fun _ w' ⟨he, hw⟩ => ⟨he, ⟨w', n.same.trans hw (fun _ _ f => f)⟩, rfl⟩
theorem Calls.same_of_eq {P : Program} {f : FuncId} {args : Array Value} {w : World} {n : SameW w} {v : Value}
    (h : Calls P f args n.w fun e w' => e = .returned v ∧ n.w = w') : Calls P f args n.w fun e w'' => e = .returned v ∧ ∃ m : SameW w, w'' = m.w :=
  h.mono fun _ _ ⟨he, hw⟩ => ⟨he, n, hw.symm⟩
theorem SameW.cell {w : World} {a : Addr} {v : Value} (h : w.cell? a = some v) : ∀ n : SameW w, n.w.cell? a = some v := fun n => n.same.keep h

/-- Operations of a drawn region that are not wanted: nothing is done. -/
def isUndef : Option Value → Bool
  | some (.tuple c) => c.size == 0
  | none => true
  | _ => false
def skipB (ops : Array Oper) (a : Act) (l : List Oper) : Bool := l.all fun o => !Region.wanted o (yielded ops a.tmps) && match o.dst with
  | none => true
  | some d => isUndef a.tmps[d]?
theorem put_undef {a : Act} {d : Tmp} (h : isUndef a.tmps[d]? = true) : a.put (some d) undef = a := by
  unfold Act.put
  have : a.tmps.setIfInBounds d undef = a.tmps := by
    apply Array.ext_getElem?
    intro i
    rw [Array.getElem?_setIfInBounds]
    by_cases e : d = i
    · subst e
      rw [if_pos rfl]
      by_cases hd : d < a.tmps.size
      · rw [if_pos hd]
        rw [Array.getElem?_eq_getElem hd] at h ⊢
        generalize a.tmps[d] = v at *
        cases v <;> simp [isUndef] at h
        simp [undef, h]
      · rw [if_neg hd, Array.getElem?_eq_none (Nat.le_of_not_lt hd)]
    · rw [if_neg e]
  simp only [this]
theorem wpQuiet_skips {P : Program} {ops : Array Oper} {C : World → Prop} {Q : Act → Prop} {a : Act} : ∀ (n : Nat) {l : List Oper} (_ : skipB ops a (l.take n) = true) (_ : wpQuiet P ops C Q (l.drop n) a), wpQuiet P ops C Q l a
  | 0, l, _, hn => by simpa using hn
  | n + 1, [], _, hn => by simpa using hn
  | n + 1, o :: l, h, hn => by
    rw [List.drop_succ_cons] at hn
    rw [List.take_succ_cons] at h
    unfold skipB at h
    simp only [List.all_cons, Bool.and_eq_true, Bool.not_eq_true'] at h
    obtain ⟨⟨h1, h2⟩, h3⟩ := h
    unfold wpQuiet
    rw [h1]
    have hp : a.put o.dst undef = a := by
      cases hd : o.dst with
      | none => rfl
      | some d => rw [hd] at h2; exact put_undef h2
    rw [hp]
    exact wpQuiet_skips n (by unfold skipB; simpa only [Bool.and_eq_true, Bool.not_eq_true'] using h3) hn

/-- Two results, the first an aggregate in memory. -/
theorem results_cell_tmp {P : Program} {fn : Func} {p t : Tmp} {ty : TypeId} (h : fn.results = #[.cell p ty, .tmp t]) (tmps : Array Value) (w : World) (g : Nat) (T : TypeId) (cs : Array Value) (fr : Nat × Nat) (d : TypeDesc)
    (hp : tmps.getD p undef = .pointer (some ⟨g, 0, none⟩)) (hg : w.heap[g]? = some (.cells cs T fr))
    (hu : P.underlying ty = some d) (hd : (match d with | .struct _ | .array _ _ => true | _ => false) = true) (hi : (P.info? ty).map (·.size) = some cs.size) (v : Value) (hv : tmps.getD t undef = v) :
    (results fn tmps).run P w = .ok (.tuple #[.agg cs, v]) w := by
  have hp' : tmps[p]?.getD undef = .pointer (some ⟨g, 0, none⟩) := by simpa using hp
  have hv' : tmps[t]?.getD undef = v := by simpa using hv
  simp [results, h, hp', hv', asAddr, run_loadVar_row w g T ty cs fr d hg hu hd hi]

end Go.Proofs.YtegcnkcjmebheaaDoor
