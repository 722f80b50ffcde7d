/-
  Plain lemmas on worlds that all texts of this seat use: what a call may change, rows that are owned, rows that are read.
-/
import Derived.WalkKit
import Derived.WalkLawsBesides
import Derived.WalkSpells
import Derived.Deep.QuietTactic
import Derived.BigQuiet
import Derived.BigRegion
import Derived.Laws.AppendOwnNone
import Derived.Deep.RegionWith
import Derived.Deep.RegionLaw
import Derived.Deep.RegionHeld3
import Derived.ArgAppend
import Derived.Handy
import Derived.Outline
namespace Go.Proofs.YtegcnkcjmebheaaDoor
open Go Go.RowKit

/-- A fact laid behind a name: the walk does not rewrite by it. -/
theorem hid {p : Prop} (h : p) : Hid p := h

/-- Nothing but the blocks of S, and new blocks, has changed. -/
structure Chg (S : Nat → Prop) (w w' : World) : Prop where
  os : w'.os = w.os
  tape : w'.tape = w.tape
  output : w'.output = w.output
  size : w.heap.size ≤ w'.heap.size
  block : ∀ k, k < w.heap.size → ¬ S k → w'.heap[k]? = w.heap[k]?

/-- Nothing that was there has changed. -/
abbrev Same (w w' : World) : Prop := Chg (fun _ => False) w w'

theorem Chg.refl {S : Nat → Prop} (w : World) : Chg S w w := ⟨rfl, rfl, rfl, Nat.le_refl _, fun _ _ _ => rfl⟩
theorem Chg.trans {S T : Nat → Prop} {a b c : World} (h : Chg S a b) (k : Chg T b c) (hT : ∀ i, i < a.heap.size → T i → S i) : Chg S a c :=
  ⟨k.os.trans h.os, k.tape.trans h.tape, k.output.trans h.output, Nat.le_trans h.size k.size,
   fun i hi hn => (k.block i (Nat.lt_of_lt_of_le hi h.size) (fun t => hn (hT i hi t))).trans (h.block i hi hn)⟩
theorem Chg.mono {S T : Nat → Prop} {a b : World} (h : Chg S a b) (hT : ∀ i, i < a.heap.size → S i → T i) : Chg T a b :=
  ⟨h.os, h.tape, h.output, h.size, fun i hi hn => h.block i hi (fun s => hn (hT i hi s))⟩
theorem Chg.drew {S : Nat → Prop} {a b : World} (h : Chg S a b) : Chg S a b.drew := ⟨h.os, h.tape, h.output, h.size, h.block⟩
theorem Chg.drewN {S : Nat → Prop} {a b : World} (n : Nat) (h : Chg S a b) : Chg S a (b.drewN n) := ⟨h.os, h.tape, h.output, h.size, h.block⟩
theorem Chg.alloc {S : Nat → Prop} {a b : World} (o : Obj) (h : Chg S a b) : Chg S a (b.alloc o) :=
  ⟨h.os, h.tape, h.output, by have := h.size; simp; omega, fun k hk hn => (Below.heap_alloc b o k (Nat.lt_of_lt_of_le hk h.size)).trans (h.block k hk hn)⟩
theorem Chg.setCell {S : Nat → Prop} {a b : World} (p : Addr) (u : Value) (h : Chg S a b) (hp : p.block < a.heap.size → S p.block) : Chg S a (b.setCell p u) :=
  ⟨h.os, h.tape, h.output, by have := h.size; simp [World.setCell]; omega, fun k hk hn => (Below.heap_setCell b p u k (fun e => hn (e ▸ hp (e ▸ hk)))).trans (h.block k hk hn)⟩
theorem Chg.grown {S : Nat → Prop} {a b c : World} {row : Option Nat} (h : Chg S a b) (hg : b.grownBy c row) (hr : ∀ k, row = some k → k < a.heap.size → S k) : Chg S a c :=
  ⟨hg.os.trans h.os, hg.tape.trans h.tape, hg.output.trans h.output, Nat.le_trans h.size hg.size,
   fun k hk hn => (hg.block k (Nat.lt_of_lt_of_le hk h.size) (fun e => hn (hr k e.symm hk))).trans (h.block k hk hn)⟩
theorem Chg.below {a b : World} (h : Same a b) : Below a.heap.size a b := ⟨h.os, h.tape, h.output, h.size, fun k hk => h.block k hk (fun f => f)⟩
theorem Chg.heap {S : Nat → Prop} {a b : World} (h : Chg S a b) {k : Nat} {o : Obj} (ho : a.heap[k]? = some o) (hn : ¬ S k) : b.heap[k]? = some o :=
  (h.block k (Array.getElem?_eq_some_iff.1 ho).1 hn).trans ho

/-- The slice value v, of n elements of the type e (size cells each), reads as the cells cs. -/
def Reads (w : World) (v : Value) (n size : Nat) (cs : List Value) : Prop :=
  ∃ ad cap, v = .slice ad n cap ∧ cs.length = n * size ∧ (ad = none → n = 0 ∧ cap = 0) ∧ ∀ a, ad = some a → (0 < n * size → a.block < w.heap.size) ∧ ∀ j u, cs[j]? = some u → w.cell? (a.add j) = some u

/-- What is owned stays owned where its block is not changed. -/
theorem own_chg {S : Nat → Prop} {w w' : World} {B : Nat} {e : TypeId} {size : Nat} {v : Value} {n : Nat} {xs : List Value} (h : w.ownsRow B e size v n xs) (hc : Chg S w w') (hn : ∀ k, v.ownBlock = some k → ¬ S k) : w'.ownsRow B e size v n xs := by
  refine ⟨h.1, ?_⟩
  rcases h.2 with hn' | ⟨g, cap, cur, rfl, hb, hg, r⟩
  · exact .inl hn'
  · exact .inr ⟨g, cap, cur, rfl, hb, hc.heap hg (hn g rfl), r⟩

/-- A row's value, once something is owned. -/
theorem own_shape {w : World} {B : Nat} {e : TypeId} {size : Nat} {v : Value} {n : Nat} {xs : List Value} (h : w.ownsRow B e size v n xs) (hn : 0 < n) : ∃ g c, v = .slice (some ⟨g, 0, none⟩) n c := by
  rcases h.2 with ⟨_, h'⟩ | ⟨g, c, cur, h, _⟩
  · omega
  · exact ⟨g, c, h⟩

theorem own_slice {w : World} {B : Nat} {e : TypeId} {size : Nat} {v : Value} {n : Nat} {xs : List Value} (h : w.ownsRow B e size v n xs) : ∃ a c, v = .slice a n c ∧ (∀ b, a = some b → b.off = 0 ∧ b.spot = none) := by
  rcases h.2 with ⟨h, h'⟩ | ⟨g, c, cur, h, _⟩
  · exact ⟨none, 0, by rw [h, h'], by simp⟩
  · exact ⟨_, c, h, by simp⟩

theorem own_max {w : World} {B : Nat} {e : TypeId} {size : Nat} {v : Value} {n : Nat} {xs : List Value} (h : w.ownsRow B e size v n xs) : n ≤ 9223372036854775807 := by
  rcases h.2 with ⟨_, h'⟩ | ⟨g, c, cur, _, _, _, h1, h2, _⟩
  · omega
  · unfold maxLen at h2; omega

/-- The cell of a known block. -/
theorem cell_of {w : World} {p : Nat} {cs : Array Value} {T : TypeId} {f : Nat × Nat} (h : w.heap[p]? = some (.cells cs T f)) (j : Nat) : w.cell? ⟨p, j, none⟩ = cs[j]? := by simp [World.cell?, h]
theorem free_of {w : World} {p : Nat} {cs : Array Value} {T : TypeId} (h : w.heap[p]? = some (.cells cs T (0, 0))) (j : Nat) : w.frozen? ⟨p, j, none⟩ = false := by simp [World.frozen?, h]
theorem lt_of {w : World} {p : Nat} {o : Obj} (h : w.heap[p]? = some o) : p < w.heap.size := (Array.getElem?_eq_some_iff.1 h).1
theorem set_same {w : World} {p : Nat} {cs : Array Value} {T : TypeId} {f : Nat × Nat} (h : w.heap[p]? = some (.cells cs T f)) (j : Nat) (u : Value) : (w.setCell ⟨p, j, none⟩ u).heap[p]? = some (.cells (cs.setIfInBounds j u) T f) := by
  simp [World.setCell, Array.getElem?_modify, h]
theorem set_other {w : World} {k : Nat} (a : Addr) (u : Value) (h : k ≠ a.block) : (w.setCell a u).heap[k]? = w.heap[k]? := Below.heap_setCell w a u k h
theorem alloc_new (w : World) (o : Obj) : (w.alloc o).heap[w.heap.size]? = some o := heap_alloc_new w o
theorem alloc_old {w : World} (o : Obj) {k : Nat} {x : Obj} (h : w.heap[k]? = some x) : (w.alloc o).heap[k]? = some x := by rw [Below.heap_alloc w o k (lt_of h)]; exact h

/-- The slice v' lies where v lay, or in a block that is new since w. -/
def NewOr (w : World) (v v' : Value) : Prop := v'.ownBlock = v.ownBlock ∨ ∀ k, v'.ownBlock = some k → w.heap.size ≤ k

theorem own_base {w : World} {B B' : Nat} {e : TypeId} {size : Nat} {v : Value} {n : Nat} {xs : List Value} (h : w.ownsRow B e size v n xs) (hB : ∀ k, v.ownBlock = some k → B' ≤ k) : w.ownsRow B' e size v n xs := by
  refine ⟨h.1, ?_⟩
  rcases h.2 with hn | ⟨g, cap, cur, rfl, hb, r⟩
  · exact .inl hn
  · exact .inr ⟨g, cap, cur, rfl, hB g rfl, r⟩

/-- append onto a row that is owned, whatever is appended; and where the new row lies. -/
theorem run_app {P : Program} (w : World) (t ty e : TypeId) (i : TypeInfo) (z : Value) (size bytes : Nat) (ht : P.underlying t = some (.slice e)) (hi : P.info? e = some i) (hz : i.zero = some z)
    (hsize : i.size = size) (hby : i.bytes = bytes) (hzs : z.cells.size = size) (hsz : 0 < size)
    (v : Value) (n : Nat) (xs : List Value) (hown : w.ownsRow 0 e size v n xs)
    (ad : Option Addr) (m c : Nat) (news : List Value) (hr : Reads w (.slice ad m c) m size news) (h1 : ∀ u ∈ news, u.oneCell' = true)
    (h63 : n + m ≤ 9223372036854775807) (hbytes : (n + m) * bytes ≤ 140737488355328) :
    ∃ a' c' w', (Builtin.append_ #[t, t] ty #[v, .slice ad m c]).run P w = .ok (.slice a' (n + m) c') w' ∧ w'.ownsRow 0 e size (.slice a' (n + m) c') (n + m) (xs ++ news) ∧ w.grownBy w' v.ownBlock ∧ NewOr w v (.slice a' (n + m) c') := by
  obtain ⟨ad', cap', he, hl, hnn, hcc⟩ := hr
  cases he
  obtain ⟨av, cv, rfl, hav⟩ := own_slice hown
  have hnone : av = none → n = 0 ∧ cv = 0 := by
    rintro rfl
    rcases hown.2 with ⟨h1', h2'⟩ | ⟨g, cap, cur, h', _⟩
    · simp only [Value.slice.injEq, true_and] at h1'; exact h1'
    · simp at h'
  cases ad with
  | none =>
    obtain ⟨rfl, rfl⟩ := hnn rfl
    have hn0 : news = [] := List.eq_nil_of_length_eq_zero (by simpa using hl)
    subst hn0
    exact ⟨av, cv, w, run_append_owned_none w 0 t ty e i size ht hi _ _ _ hown, by simpa using hown, World.grownBy.refl _ _, .inl rfl⟩
  | some ad =>
    cases av with
    | none =>
      obtain ⟨rfl, rfl⟩ := hnone rfl
      have hx0 : xs = [] := List.eq_nil_of_length_eq_zero (by simpa using hown.1)
      subst hx0
      by_cases hm0 : m = 0
      · subst hm0
        have hn0 : news = [] := List.eq_nil_of_length_eq_zero (by simpa using hl)
        subst hn0
        obtain ⟨v', w', hrun, r1, r2, r3⟩ := run_append_own (P := P) w 0 t ty e i z size bytes ht hi hz hsize hby hzs hsz _ _ _ hown ad 0 c [] (by simp) (by simp) (by simp) (by unfold maxLen; omega) hbytes (Nat.zero_le _)
        have hv' := r3.2 ⟨rfl, rfl⟩
        subst hv'
        exact ⟨none, 0, w', hrun, r1, r2, .inl rfl⟩
      · obtain ⟨v', w', hrun, r1, r2, r3⟩ := run_append_own (P := P) w w.heap.size t ty e i z size bytes ht hi hz hsize hby hzs hsz (.slice none 0 0) 0 [] (World.ownsRow_nil w _ e size) ad m c news hl (fun j u hu => (hcc ad rfl).2 j u hu) h1 (by unfold maxLen; omega) hbytes (Nat.le_refl _)
        have r1' := own_base (B' := 0) r1 (fun _ _ => Nat.zero_le _)
        obtain ⟨a', c', rfl, _⟩ := own_slice r1'
        exact ⟨a', c', w', hrun, r1', r2, .inr fun k hk => (r1.lt k hk).1⟩
    | some b =>
      have hb := hav b rfl
      obtain ⟨g, off, spot⟩ := b
      obtain ⟨rfl, rfl⟩ := hb
      by_cases hroom : n + m ≤ cv
      · obtain ⟨w', hrun, r1, r2⟩ := run_append_fits (P := P) w 0 t ty e i size ht hi hsize g n cv xs hown ad m c news hl (fun j u hu => (hcc ad rfl).2 j u hu) h1 hroom
        exact ⟨_, _, w', hrun, r1, r2, .inl rfl⟩
      · obtain ⟨v', w', hrun, r1, r2⟩ := run_append_arg_grows (P := P) w t ty e i z size bytes ht hi hz hsize hby hzs hsz ⟨g, 0, none⟩ n cv xs hown.1 (hown.cells (g := g) rfl) ad m c news hl (fun j u hu => (hcc ad rfl).2 j u hu) (by omega) (by unfold maxLen; omega) hbytes
        have r1' := own_base (B' := 0) r1 (fun _ _ => Nat.zero_le _)
        obtain ⟨a', c', rfl, _⟩ := own_slice r1'
        exact ⟨a', c', w', hrun, r1', ⟨r2.os, r2.tape, r2.output, r2.size, fun k hk _ => r2.block k hk (by simp)⟩, .inr fun k hk => (r1.lt k hk).1⟩

theorem wpList_app {P : Program} {w : World} {ops : Array Oper} {rest : List Oper} {o : Oper} {a : Act} {Q : Exit → Act → World → Prop} (hgd : o.guard = none) (s x : Operand) (t : TypeId)
    (ho : o.op = .call { callee := .builtin .append, args := #[s, x], argTypes := #[t, t] })
    (e : TypeId) (i : TypeInfo) (z : Value) (size bytes : Nat) (ht : P.underlying t = some (.slice e)) (hi : P.info? e = some i) (hz : i.zero = some z)
    (hsize : i.size = size) (hby : i.bytes = bytes) (hzs : z.cells.size = size) (hsz : 0 < size)
    (v : Value) (n : Nat) (xs : List Value) (hs : a.eval s = v) (hown : w.ownsRow 0 e size v n xs)
    (ad : Option Addr) (m c : Nat) (news : List Value) (hx : a.eval x = .slice ad m c) (hr : Reads w (.slice ad m c) m size news) (h1 : ∀ u ∈ news, u.oneCell' = true)
    (h63 : n + m ≤ 9223372036854775807) (hbytes : (n + m) * bytes ≤ 140737488355328)
    (h : ∀ a' c' w', w'.ownsRow 0 e size (.slice a' (n + m) c') (n + m) (xs ++ news) → w.grownBy w' v.ownBlock → NewOr w v (.slice a' (n + m) c') → wpList P ops Q rest (a.put o.dst (.slice a' (n + m) c')) w') : wpList P ops Q (o :: rest) a w := by
  refine wpList_plain hgd fun K' hK' => ?_
  obtain ⟨a', c', w', hrun, r1, r2, r3⟩ := run_app (P := P) w t o.type e i z size bytes ht hi hz hsize hby hzs hsz v n xs hown ad m c news hr h1 h63 hbytes
  unfold Oper.wp
  simp [execOp, ho, resolve, invoke, builtin, hs, hx, hrun, Result.andThen]
  exact hK' _ _ (h a' c' w' r1 r2 r3)

/-- .. as one step of a region that draws its order. -/
theorem step_app {P : Program} {ops : Array Oper} {o : Oper} {a : Act} {w : World} {K : Act → World → Prop} {Q : Exit → Act → World → Prop} {E : Prop}
    (hgd : o.guard = none) (s x : Operand) (t : TypeId) (ho : o.op = .call { callee := .builtin .append, args := #[s, x], argTypes := #[t, t] })
    (e : TypeId) (i : TypeInfo) (z : Value) (size bytes : Nat) (ht : P.underlying t = some (.slice e)) (hi : P.info? e = some i) (hz : i.zero = some z)
    (hsize : i.size = size) (hby : i.bytes = bytes) (hzs : z.cells.size = size) (hsz : 0 < size)
    (v : Value) (n : Nat) (xs : List Value) (hs : a.eval s = v) (hown : w.ownsRow 0 e size v n xs)
    (ad : Option Addr) (m c : Nat) (news : List Value) (hx : a.eval x = .slice ad m c) (hr : Reads w (.slice ad m c) m size news) (h1 : ∀ u ∈ news, u.oneCell' = true)
    (h63 : n + m ≤ 9223372036854775807) (hbytes : (n + m) * bytes ≤ 140737488355328)
    (h : ∀ a' c' w', w'.ownsRow 0 e size (.slice a' (n + m) c') (n + m) (xs ++ news) → w.grownBy w' v.ownBlock → NewOr w v (.slice a' (n + m) c') → K (a.put o.dst (.slice a' (n + m) c')) w') :
    if Region.wanted o (yielded ops a.tmps) = true then Oper.wp P o a w K Q else E := by
  have hw : Region.wanted o (yielded ops a.tmps) = true := by simp [Region.wanted, hgd]
  rw [if_pos hw]
  obtain ⟨a', c', w', hrun, r1, r2, r3⟩ := run_app (P := P) w t o.type e i z size bytes ht hi hz hsize hby hzs hsz v n xs hown ad m c news hr h1 h63 hbytes
  unfold Oper.wp
  simp [execOp, ho, resolve, invoke, builtin, hs, hx, hrun, Result.andThen]
  exact h a' c' w' r1 r2 r3

theorem run_clear_one {P : Program} (w : World) (t e ty : TypeId) (z : Value) (ht : P.underlying t = some (.slice e)) (hv : ∀ w, (zeroValue e).run P w = .ok z w) (hz : z.cells = #[z]) (h1 : z.oneCell' = true) (a : Addr) (c : Nat)
    (u : Value) (hc : w.cell? a = some u) (hf : w.frozen? a = false) : (Builtin.clear_ #[t] ty #[.slice (some a) 1 c]).run P w = .ok (.tuple #[]) (w.setCell a z) := by
  have hs : (store a z).run P w = .ok () (w.setCell a z) := by
    cases z <;> simp [Value.oneCell'] at h1 <;> simp [store, Sem.run, hc, hf]
  simp [Builtin.clear_, run_underlying ht, hv, hz, Builtin.zeroCells, storeCells, Addr.add, hs]

/-- The head of an owned row is owned. -/
theorem own_take {w : World} {B : Nat} {e : TypeId} {size : Nat} {g n c : Nat} {xs : List Value} (h : w.ownsRow B e size (.slice (some ⟨g, 0, none⟩) n c) n xs) (k : Nat) (hk : k ≤ n) :
    w.ownsRow B e size (.slice (some ⟨g, 0, none⟩) k c) k (xs.take (k * size)) := by
  refine ⟨?_, ?_⟩
  · rw [List.length_take, h.1]; exact Nat.min_eq_left (Nat.mul_le_mul_right _ hk)
  · rcases h.2 with ⟨h', _⟩ | ⟨g', cap', cur, h', hb, hg, hn, hm, hs, ht⟩
    · simp at h'
    · simp only [Value.slice.injEq, Option.some.injEq, Addr.mk.injEq, and_true, true_and] at h'
      obtain ⟨rfl, rfl⟩ := h'
      exact .inr ⟨g, c, cur, rfl, hb, hg, by omega, hm, hs, by rw [← ht, List.take_take, Nat.min_eq_left (Nat.mul_le_mul_right _ hk)]⟩

theorem own_cap {w : World} {B : Nat} {e : TypeId} {size : Nat} {a : Option Addr} {n c : Nat} {xs : List Value} (h : w.ownsRow B e size (.slice a n c) n xs) : n ≤ c := by
  rcases h.2 with ⟨h', h0⟩ | ⟨g', cap', cur, h', hb, hg, hn, _⟩
  · simp only [Value.slice.injEq] at h'; omega
  · simp only [Value.slice.injEq, true_and] at h'; omega

theorem Chg.after {S : Nat → Prop} {a b c : World} (h : Same a b) (k : Chg S b c) : Chg S a c := (h.mono (fun _ _ f => f.elim)).trans k (fun _ _ h => h)
theorem Chg.andSame {S : Nat → Prop} {a b c : World} (h : Chg S a b) (k : Same b c) : Chg S a c := h.trans k (fun _ _ f => f.elim)

theorem addr_block (a : Addr) (j : Nat) : (a.add j).block = a.block := by unfold Addr.add; split <;> rfl

theorem Reads.chg {S : Nat → Prop} {w w' : World} {v : Value} {n size : Nat} {cs : List Value} (h : Reads w v n size cs) (hc : Chg S w w') (hS : ∀ a c, v = .slice (some a) n c → 0 < n * size → ¬ S a.block) : Reads w' v n size cs := by
  obtain ⟨ad, cap, rfl, hl, hn, hcc⟩ := h
  refine ⟨ad, cap, rfl, hl, hn, fun a ha => ?_⟩
  obtain ⟨h1, h2⟩ := hcc a ha
  refine ⟨fun h0 => Nat.lt_of_lt_of_le (h1 h0) hc.size, fun j u hu => ?_⟩
  have hj : 0 < n * size := by have := (List.getElem?_eq_some_iff.1 hu).1; omega
  subst ha
  rw [← h2 j u hu]
  refine World.cell?_of_block ?_
  rw [addr_block]
  exact hc.block _ (h1 hj) (hS a cap rfl hj)

theorem Reads.same {w w' : World} {v : Value} {n size : Nat} {cs : List Value} (h : Reads w v n size cs) (hc : Same w w') : Reads w' v n size cs := h.chg hc (fun _ _ _ _ f => f)

theorem Reads.of_own {w : World} {B : Nat} {e : TypeId} {size : Nat} {v : Value} {n : Nat} {xs : List Value} (h : w.ownsRow B e size v n xs) : Reads w v n size xs := by
  obtain ⟨a, c, rfl, ha⟩ := own_slice h
  refine ⟨a, c, rfl, h.1, ?_, ?_⟩
  · rintro rfl
    rcases h.2 with ⟨h', h0⟩ | ⟨g', cap', cur, h', _⟩
    · simp only [Value.slice.injEq, true_and] at h'; exact h'
    · simp at h'
  · rintro ⟨g, off, sp⟩ rfl
    obtain ⟨rfl, rfl⟩ := ha _ rfl
    exact ⟨fun _ => (h.lt g rfl).2, fun j u hu => h.cells (g := g) rfl j u hu⟩

/-- A slice that is owned, and new since w. -/
def Fresh (w w' : World) (E size : Nat) (v : Value) (n : Nat) (xs : List Value) : Prop := w'.ownsRow 0 E size v n xs ∧ ∀ k, v.ownBlock = some k → w.heap.size ≤ k

/-- The address of what reads as cells, where there is one. -/
theorem Reads.open {w : World} {v : Value} {n size : Nat} {cs : List Value} (h : Reads w v n size cs) (hn : 0 < n * size) : ∃ b off cap, v = .slice (some ⟨b, off, none⟩) n cap ∧ b < w.heap.size ∧ ∀ (j : Nat) (u : Value), cs[j]? = some u → w.cell? ⟨b, off + j, none⟩ = some u := by
  obtain ⟨ad, cap, rfl, hl, hnn, hcc⟩ := h
  cases ad with
  | none => have := hnn rfl; rw [this.1] at hn; omega
  | some a =>
    obtain ⟨h1, h2⟩ := hcc a rfl
    obtain ⟨b, off, sp⟩ := a
    have h0 := h2 0 (cs[0]'(by omega)) (by simp)
    have hsp : sp = none := by
      cases sp with
      | none => rfl
      | some s =>
        simp [Addr.add, World.cell?] at h0
        split at h0 <;> simp at h0
    subst hsp
    refine ⟨b, off, cap, rfl, h1 hn, fun j u hu => ?_⟩
    rw [← h2 j u hu]
    unfold Addr.add
    split
    · rename_i h; rw [h, Nat.add_zero]
    · rfl
theorem Reads.len {w : World} {v : Value} {n size : Nat} {cs : List Value} (h : Reads w v n size cs) : cs.length = n * size := by obtain ⟨_, _, _, hl, _⟩ := h; exact hl
theorem Reads.slice {w : World} {v : Value} {n size : Nat} {cs : List Value} (h : Reads w v n size cs) : ∃ a c, v = .slice a n c := by obtain ⟨a, c, h, _⟩ := h; exact ⟨a, c, h⟩

/-- The slice v reads as the whole numbers xs. -/
abbrev Ints (w : World) (v : Value) (xs : List Int) : Prop := Reads w v xs.length 1 (xs.map (Value.int .i64))
theorem Ints.cells {w : World} {v : Value} {xs : List Int} (h : Ints w v xs) (hn : 0 < xs.length) : ∃ b off cap, v = .slice (some ⟨b, off, none⟩) xs.length cap ∧ b < w.heap.size ∧ ∀ (j : Nat) (hj : j < xs.length), w.cell? ⟨b, off + j, none⟩ = some (.int .i64 xs[j]) := by
  obtain ⟨b, off, cap, hv, hb, hc⟩ := h.open (by omega)
  exact ⟨b, off, cap, hv, hb, fun j hj => hc j _ (by simp [hj])⟩

theorem Chg.cell {S : Nat → Prop} {w w' : World} (h : Chg S w w') {p : Addr} (hp : p.block < w.heap.size) (hn : ¬ S p.block) : w'.cell? p = w.cell? p := World.cell?_of_block (h.block _ hp hn)

theorem ret_bool {a b : Bool} (h : a = b) : Ending.returned (.bool a) = .returned (.bool b) := by rw [h]
theorem ret_int {k : IntKind} {a b : Int} (h : a = b) : Ending.returned (.int k a) = .returned (.int k b) := by rw [h]

/-- The slice v's block, if it has one, is new since w. -/
def After (w : World) (v : Value) : Prop := ∀ k, v.ownBlock = some k → w.heap.size ≤ k
theorem After.nil (w : World) : After w (.slice none 0 0) := fun k h => by simp [Value.ownBlock] at h
theorem NewOr.after {w a : World} {v v' : Value} (h : NewOr a v v') (hv : After w v) (hs : w.heap.size ≤ a.heap.size) : After w v' := by
  intro k hk
  rcases h with h | h
  · exact hv k (h ▸ hk)
  · have := h k hk; omega
theorem Chg.new {S : Nat → Prop} {w a b : World} (h : Same w a) (k : Chg S a b) (hS : ∀ i, S i → w.heap.size ≤ i) : Same w b :=
  h.trans k (fun i hi hs => by have := hS i hs; omega)
theorem reads_lit {w : World} (cs : Array Value) (E : TypeId) (n size : Nat) (hn : n ≤ 9223372036854775807) (hl : cs.size = n * size) : Reads (w.alloc (.cells cs E)) (.slice (some ⟨w.heap.size, 0, none⟩) n n) n size cs.toList :=
  Reads.of_own (World.ownsRow_lit (base := 0) w cs n (Nat.zero_le _) (by unfold maxLen; omega) hl)

/-- int(uint(x) % k), as the walk spells it. -/
theorem mod_small (x : Int) (k : Nat) (hk : 0 < k) (hk' : k ≤ 2147483647) : ∃ m : Nat, m < k ∧ wrap64 ((IntKind.u64.wrap x).tmod (k : Int)) = (m : Int) := by
  have h0 : 0 ≤ IntKind.u64.wrap x := by simp only [IntKind.wrap, IntKind.bits, IntKind.signed]; simp; omega
  have h1 : 0 ≤ (IntKind.u64.wrap x).tmod (k : Int) := Int.tmod_nonneg _ h0
  have h2 : (IntKind.u64.wrap x).tmod (k : Int) < (k : Int) := Int.tmod_lt_of_pos _ (by omega)
  generalize (IntKind.u64.wrap x).tmod (k : Int) = y at *
  refine ⟨y.toNat, by omega, ?_⟩
  unfold wrap64
  omega

/-- The slice v reads as the texts ss. -/
abbrev Texts (w : World) (v : Value) (ss : List ByteArray) : Prop := Reads w v ss.length 1 (ss.map Value.string)
theorem Texts.cells {w : World} {v : Value} {ss : List ByteArray} (h : Texts w v ss) (hn : 0 < ss.length) : ∃ b off cap, v = .slice (some ⟨b, off, none⟩) ss.length cap ∧ b < w.heap.size ∧ ∀ (j : Nat) (hj : j < ss.length), w.cell? ⟨b, off + j, none⟩ = some (.string ss[j]) := by
  obtain ⟨b, off, cap, hv, hb, hc⟩ := h.open (by omega)
  exact ⟨b, off, cap, hv, hb, fun j hj => hc j _ (by simp [hj])⟩

theorem Chg.keep {w w' : World} (h : Same w w') {a : Addr} {v : Value} (hc : w.cell? a = some v) : w'.cell? a = some v := (h.cell (World.block_lt_of_cell? w a hc) (fun f => f)).trans hc
theorem Chg.keepF {w w' : World} (h : Same w w') {a : Addr} (hb : a.block < w.heap.size) {x : Bool} (hc : w.frozen? a = x) : w'.frozen? a = x := (World.frozen?_of_block (h.block _ hb (fun f => f))).trans hc

theorem reads_blk {w : World} {b : Nat} {cs : Array Value} {E : TypeId} {f : Nat × Nat} (h : w.heap[b]? = some (.cells cs E f)) (n c size : Nat) (hl : cs.size = n * size) : Reads w (.slice (some ⟨b, 0, none⟩) n c) n size cs.toList := by
  refine ⟨_, _, rfl, by simpa using hl, (fun h => by cases h), ?_⟩
  rintro a ha
  cases ha
  refine ⟨fun _ => lt_of h, fun j u hu => ?_⟩
  have e : ((⟨b, 0, none⟩ : Addr).add j) = ⟨b, j, none⟩ := by unfold Addr.add; split <;> simp_all
  rw [e, cell_of h]
  simpa using hu

theorem NewOr.refl (w : World) (v : Value) : NewOr w v v := .inl rfl
theorem NewOr.trans {w w1 : World} {v v1 v2 : Value} (h : NewOr w v v1) (hs : w.heap.size ≤ w1.heap.size) (k : NewOr w1 v1 v2) : NewOr w v v2 := by
  rcases k with k | k
  · rcases h with h | h
    · exact .inl (k.trans h)
    · exact .inr fun i hi => h i (k ▸ hi)
  · exact .inr fun i hi => Nat.le_trans hs (k i hi)

theorem alloc2_new (w : World) (o1 o2 : Obj) : ((w.alloc o1).alloc o2).heap[w.heap.size + 1]? = some o2 := by
  have := alloc_new (w.alloc o1) o2
  rwa [World.size_alloc] at this
theorem alloc2_first (w : World) (o1 o2 : Obj) : ((w.alloc o1).alloc o2).heap[w.heap.size]? = some o1 := alloc_old _ (alloc_new w o1)

end Go.Proofs.YtegcnkcjmebheaaDoor
