/-
  Entities of the document's table, plain: what adding, taking out and setting make of a table's columns.
-/
import Derived.Test.YtegcnkcjmebheaaDoorTableSets
import Derived.Test.YtegcnkcjmebheaaDoorTabClone
namespace Go.Proofs.YtegcnkcjmebheaaDoor.Tab
open Go Go.RowKit Go.Proofs.YtegcnkcjmebheaaDoor.Mask Go.Proofs.YtegcnkcjmebheaaDoor.TableSets
/-- An entity of the document's table: its handle, where its row lies, its row. -/
structure En where
  h : Hd
  a : Option Addr
  c : Nat
  vs : List Vl
abbrev En.v (e : En) : Value := .slice e.a e.vs.length e.c
def ec (e : En) : List Value := [.int .i64 e.h.1, .int .i64 e.h.2, e.v]
theorem ec_len (e : En) : (ec e).length = 3 := rfl
theorem ec_one (e : En) : ∀ u ∈ ec e, u.oneCell' = true := by intro u hu; simp [ec] at hu; rcases hu with rfl | rfl | rfl <;> rfl
/-- Its row is a row of the mask m. -/
def Good (m : Nat) (e : En) : Prop := RefRight e.vs ∧ rowMask e.vs = m
abbrev hE (es : List En) : List Hd := es.map En.h
abbrev colE (es : List En) : Nat → List Vl := fun k => es.map fun e => Tab.valOf e.vs k
theorem colE_len (es : List En) (k : Nat) : (colE es k).length = es.length := by simp
theorem colE_add {m : Nat} (es : List En) {e : En} (h : Good m e) {k : Nat} (hk : k ∈ bitsOf m) : colE es k ++ rowOf e.vs k = colE (es ++ [e]) k := by
  obtain ⟨h1, rfl⟩ := h
  simp [h1.row hk]
theorem colE_take (es : List En) (i k : Nat) : takeOut (colE es k) i = colE (takeOut es i) k := takeOut_map _ _ _
theorem hE_take (es : List En) (i : Nat) : takeOut (hE es) i = hE (takeOut es i) := takeOut_map _ _ _
theorem mem_takeOut' {α : Type} {xs : List α} {i : Nat} {x : α} (h : x ∈ takeOut xs i) : x ∈ xs := by
  unfold takeOut at h
  split at h
  · rename_i y hy
    rcases List.mem_or_eq_of_mem_set ((List.dropLast_sublist _).subset h) with h | rfl
    · exact h
    · exact List.mem_of_getLast? hy
  · cases h
theorem vals_of {es : List En} {i : Nat} {e : En} (hi : es[i]? = some e) (k : Nat) : (colE es k)[i]? = some (Tab.valOf e.vs k) := by simp [hi]
theorem nodup_bits (m : Nat) : (bitsOf m).Nodup := (bits_rise m).imp (fun h e => by omega)
/-- A row told by its kinds. -/
theorem row_kinds {vs : List Vl} (h : RefRight vs) {g : Nat → Vl} (hg : ∀ k ∈ bitsOf (rowMask vs), (g k).k = (k : Int)) : rowMask ((bitsOf (rowMask vs)).map g) = rowMask vs := by
  have e : ((bitsOf (rowMask vs)).map g).map (·.k) = vs.map (·.k) := by
    rw [← h.kinds, List.map_map]
    exact List.map_congr_left hg
  unfold rowMask at e ⊢
  rw [e]
theorem valOf_map {ks : List Nat} (hn : ks.Nodup) {g : Nat → Vl} (hg : ∀ k ∈ ks, (g k).k = (k : Int)) {k : Nat} (hk : k ∈ ks) : Tab.valOf (ks.map g) k = g k := by
  unfold Tab.valOf
  rw [rowOf_map hn hg, if_pos hk]
  rfl
theorem put_good {vs : List Vl} (h : RefRight vs) {x : Vl} (hx : chkN x = 0) {kx : Nat} (_ : x.k = (kx : Int)) (_ : kx ∈ bitsOf (rowMask vs)) : RefRight ((bitsOf (rowMask vs)).map (putVal vs x)) ∧ rowMask ((bitsOf (rowMask vs)).map (putVal vs x)) = rowMask vs := by
  refine ⟨Right.ref ?_, row_kinds h (fun k hk => putVal_kind h x hk)⟩
  have hr : ((bitsOf (rowMask vs)).map (putVal vs x)).Pairwise (fun a b => a.k < b.k) := by
    rw [List.pairwise_map]
    refine (bits_rise _).imp_of_mem (fun {a b} ha hb hab => ?_)
    rw [putVal_kind h x ha, putVal_kind h x hb]
    omega
  refine ⟨fun i v _ hv => ?_, fun i u v _ hu hv => ?_⟩
  · obtain ⟨k, hk, rfl⟩ := List.mem_map.1 (List.mem_of_getElem? hv)
    unfold putVal
    split
    · exact hx
    · have : Tab.valOf vs k ∈ rowOf vs k := by rw [h.row hk]; exact List.mem_cons_self
      exact h.1 _ (rowOf_kind this).1
  · obtain ⟨h1, h2⟩ := List.getElem?_eq_some_iff.1 hu
    obtain ⟨h3, h4⟩ := List.getElem?_eq_some_iff.1 hv
    have := List.pairwise_iff_getElem.1 hr i (i + 1) h1 h3 (by omega)
    rw [h2, h4] at this
    exact this
theorem colE_set {m : Nat} {es : List En} {i : Nat} {e : En} (hi : es[i]? = some e) (hg : Good m e) (x : Vl) {kx : Nat} (hkx : x.k = (kx : Int)) (e' : En) (he : e'.vs = (bitsOf m).map (putVal e.vs x)) {k : Nat} (hk : k ∈ bitsOf m) :
    updX (colE es) kx ((colE es kx).set i x) k = colE (es.set i e') k := by
  obtain ⟨h1, rfl⟩ := hg
  have hv : Tab.valOf e'.vs k = putVal e.vs x k := by
    rw [he]
    exact valOf_map (nodup_bits _) (fun k hk => putVal_kind h1 x hk) hk
  have hs : colE (es.set i e') k = (colE es k).set i (putVal e.vs x k) := by
    show (es.set i e').map _ = _
    rw [List.map_set, hv]
  rw [hs]
  by_cases ek : k = kx
  · subst ek
    rw [updX_same]
    unfold putVal
    rw [if_pos hkx]
  · rw [updX_other _ _ ek]
    unfold putVal
    rw [if_neg (by omega)]
    symm
    apply List.ext_getElem?
    intro j
    rw [List.getElem?_set]
    split
    · rename_i hij
      subst hij
      split
      · rw [vals_of hi]
      · rename_i hl
        rw [List.getElem?_eq_none (by omega)]
    · rfl
theorem hE_set {es : List En} {i : Nat} {e e' : En} (hi : es[i]? = some e) (he : e'.h = e.h) : hE (es.set i e') = hE es := by
  show (es.set i e').map En.h = es.map En.h
  rw [List.map_set, he]
  apply List.ext_getElem?
  intro j
  rw [List.getElem?_set]
  split
  · rename_i hij
    subst hij
    split
    · simp [hi]
    · rename_i hl
      rw [List.getElem?_eq_none (by omega)]
  · rfl
/-- A row's component of a kind, told by the kinds. -/
theorem find_val {vs : List Vl} (h : RefRight vs) {k : Nat} (hk : k ∈ bitsOf (rowMask vs)) : findK vs (k : Int) = some (Tab.valOf vs k) := by
  have e : findK vs (k : Int) = (rowOf vs k).head? := by
    unfold findK rowOf
    rw [List.head?_filter]
  rw [e, h.row hk]
  rfl
theorem find_no {vs : List Vl} (h : RefRight vs) {k : Int} (hk : ∀ j : Nat, k = (j : Int) → j ∉ bitsOf (rowMask vs)) : findK vs k = none := by
  unfold findK
  rw [List.find?_eq_none]
  intro x hx
  have hm : x.k ∈ vs.map (·.k) := List.mem_map.2 ⟨x, hx, rfl⟩
  rw [← h.kinds, List.mem_map] at hm
  obtain ⟨j, hj, e⟩ := hm
  simp only [beq_iff_eq]
  intro e2
  exact hk j (by omega) hj
end Go.Proofs.YtegcnkcjmebheaaDoor.Tab
namespace Go.Proofs.YtegcnkcjmebheaaDoor.Tab
open Go Go.RowKit
/-- One call of a table's script. -/
structure OpT where
  kind : Int
  i : Int
  n : Int
  h : Hd
  rv : Value
  row : List Vl
  v : Vl
def OpT.cells (o : OpT) : List Value := [.int .i64 o.kind, .int .i64 o.i, .int .i64 o.n, .int .i64 o.h.1, .int .i64 o.h.2, o.rv, .int .i64 o.v.k, .int .i64 o.v.a, .int .i64 o.v.b]
theorem OpT.len (o : OpT) : o.cells.length = 9 := rfl
open Go.Proofs.YtegcnkcjmebheaaDoor.Mask Go.Proofs.YtegcnkcjmebheaaDoor.TableSets
/-- The document's table takes a row. -/
def RTakes (m : Nat) (vs : List Vl) : Prop := RefRight vs ∧ rowMask vs = m
theorem RTakes.takes {m : Nat} {vs : List Vl} (h : RTakes m vs) : Takes m vs := ⟨h.1.right, h.2⟩
theorem Takes.ref {m : Nat} {vs : List Vl} (h : Takes m vs) : RTakes m vs := ⟨h.1.ref, h.2⟩
open Classical in
/-- What Add answers: the error's number, the place. -/
noncomputable def addK (m n : Nat) (vs : List Vl) : Nat := if RTakes m vs then (if n < 128 then 0 else 2) else 7
noncomputable def addA (m n : Nat) (vs : List Vl) : Nat := if addK m n vs = 0 then n else 0
theorem addK_no {m n : Nat} {vs : List Vl} (h : ¬ RTakes m vs) : addK m n vs = 7 := if_neg h
theorem addK_full {m n : Nat} {vs : List Vl} (h : RTakes m vs) (hn : ¬ n < 128) : addK m n vs = 2 := by unfold addK; rw [if_pos h, if_neg hn]
theorem addK_ok {m n : Nat} {vs : List Vl} (h : RTakes m vs) (hn : n < 128) : addK m n vs = 0 := by unfold addK; rw [if_pos h, if_pos hn]
theorem addK_le (m n : Nat) (vs : List Vl) : addK m n vs ≤ 10 := by
  by_cases h : RTakes m vs
  · by_cases hn : n < 128
    · rw [addK_ok h hn]; omega
    · rw [addK_full h hn]; omega
  · rw [addK_no h]; omega
theorem addK_zero {m n : Nat} {vs : List Vl} (h : addK m n vs = 0) : RTakes m vs ∧ n < 128 := by
  by_cases h1 : RTakes m vs
  · by_cases hn : n < 128
    · exact ⟨h1, hn⟩
    · rw [addK_full h1 hn] at h; cases h
  · rw [addK_no h1] at h; cases h
def hAdd (es : List En) (h : Hd) (K : Nat) : List Hd := if K = 0 then hE es ++ [h] else hE es
def xAdd (es : List En) (vs : List Vl) (K : Nat) : Nat → List Vl := if K = 0 then fun k => colE es k ++ rowOf vs k else colE es
/-- What Add makes of the document's entities. -/
def AddE (es G : List En) (h : Hd) (vs : List Vl) (K : Nat) (es' G' : List En) : Prop := (K = 0 ∧ ∃ a c, es' = es ++ [⟨h, a, c, vs⟩] ∧ G' = ⟨h, a, c, vs⟩ :: G) ∨ (K ≠ 0 ∧ es' = es ∧ G' = G)
/-- The entity at a place. -/
def getE (es : List En) (i : Int) : Option En := if 0 ≤ i then es[i.toNat]? else none
theorem getE_nat (es : List En) (j : Nat) : getE es (j : Int) = es[j]? := by simp [getE]
theorem getE_some {es : List En} {i : Int} {e : En} (h : getE es i = some e) : ∃ j : Nat, i = (j : Int) ∧ es[j]? = some e := by
  unfold getE at h
  split at h
  · exact ⟨i.toNat, by omega, h⟩
  · cases h
theorem getE_none {es : List En} {i : Int} (h : getE es i = none) : i < 0 ∨ (es.length : Int) ≤ i := by
  unfold getE at h
  split at h
  · have := List.getElem?_eq_none_iff.1 h
    omega
  · omega
def hO (o : Option En) : Hd := match o with
  | some e => e.h
  | none => (0, 0)
def vsO (o : Option En) : List Vl := match o with
  | some e => e.vs
  | none => []
def kO (o : Option En) : Nat := match o with
  | some _ => 0
  | none => 1
/-- What is left when an entity is taken out. -/
def outE (es : List En) (i : Int) : List En := match getE es i with
  | some _ => takeOut es i.toNat
  | none => es
/-- What Get answers. -/
def getG (es : List En) (i k : Int) : Vl × Nat := match getE es i with
  | some e => match findK e.vs k with
    | some x => (x, 0)
    | none => (⟨0, 0, 0⟩, 5)
  | none => (⟨0, 0, 0⟩, 1)
/-- What Set answers that a place and a component get. -/
def setN (o : Option Vl) (v : Vl) : Nat := match o with
  | some _ => chkN v
  | none => 5
/-- What Set answers. -/
def setK (es : List En) (i : Int) (v : Vl) : Nat := match getE es i with
  | some e => setN (findK e.vs v.k) v
  | none => 1
/-- What always holds of the document's entities. -/
structure Inv (m : Nat) (es G : List En) : Prop where
  good : ∀ e ∈ es, Good m e
  inn : ∀ e ∈ es, e ∈ G
  len : es.length ≤ 128
theorem Good.len {m : Nat} {e : En} (h : Good m e) (hm : m < 1024) : e.vs.length ≤ 10 := by
  have h1 := congrArg List.length h.1.kinds
  rw [List.length_map, List.length_map, h.2] at h1
  have h2 := nodup_ten 10 (nodup_bits m) (bits10 hm)
  omega
theorem Inv.get {m : Nat} {es G : List En} (h : Inv m es G) {j : Nat} {e : En} (hj : es[j]? = some e) : Good m e ∧ e ∈ G := ⟨h.good e (List.mem_of_getElem? hj), h.inn e (List.mem_of_getElem? hj)⟩
theorem Inv.add {m : Nat} {es G es' G' : List En} (h : Inv m es G) {hd : Hd} {vs : List Vl} (ha : AddE es G hd vs (addK m es.length vs) es' G') : Inv m es' G' := by
  rcases ha with ⟨h0, a, c, rfl, rfl⟩ | ⟨_, rfl, rfl⟩
  · obtain ⟨ht, hn⟩ := addK_zero h0
    refine ⟨fun e he => ?_, fun e he => ?_, by simp; omega⟩
    · rcases List.mem_append.1 he with he | he
      · exact h.good e he
      · rw [List.mem_singleton.1 he]; exact ht
    · rcases List.mem_append.1 he with he | he
      · exact List.mem_cons_of_mem _ (h.inn e he)
      · rw [List.mem_singleton.1 he]; exact List.mem_cons_self
  · exact h
theorem Inv.out {m : Nat} {es G : List En} (h : Inv m es G) (i : Int) : Inv m (outE es i) G := by
  unfold outE
  split
  · exact ⟨fun e he => h.good e (mem_takeOut' he), fun e he => h.inn e (mem_takeOut' he), by rw [takeOut_len]; have := h.len; omega⟩
  · exact h
theorem Inv.set {m : Nat} {es G : List En} (h : Inv m es G) (i : Nat) {e' : En} (hg : Good m e') : Inv m (es.set i e') (e' :: G) := by
  refine ⟨fun e he => ?_, fun e he => ?_, by rw [List.length_set]; exact h.len⟩
  · rcases List.mem_or_eq_of_mem_set he with he | rfl
    · exact h.good e he
    · exact hg
  · rcases List.mem_or_eq_of_mem_set he with he | rfl
    · exact List.mem_cons_of_mem _ (h.inn e he)
    · exact List.mem_cons_self
end Go.Proofs.YtegcnkcjmebheaaDoor.Tab
