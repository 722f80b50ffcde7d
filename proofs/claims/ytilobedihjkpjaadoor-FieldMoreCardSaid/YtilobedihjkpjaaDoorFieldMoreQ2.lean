/-
  FieldMore: the texts Err, Star, Arr, joined.
-/
import Derived.Test.YtilobedihjkpjaaDoorProg
import Derived.Test.YtilobedihjkpjaaDoorFieldMoreQ1
import Derived.LaidEql
import Derived.Stop.Asserts
import Derived.RowKitTokens
import Derived.Laws.Tables
import Derived.Laws.Rows
import Derived.Maps.RangeWalk

/-
  errors.Is on the program's errors, and paddocknum.Num: each by its contract.
-/
namespace Go.Proofs.YtilobedihjkpjaaDoor.Err
open Go Go.RowKit Go.Extern.Stop Go.Stop Go.Extern

theorem isTypeOf (v : Value) (w : World) : (Extern.ReflectliteType.typeOf #[.iface 205 v]).run Tryd.prog w = .ok (.iface 155 (.agg #[.pointer (some ⟨10, 205, none⟩)])) w := by kernel_rfl
/-- What the model does for the method Comparable. -/
def cmpE : Array Value → Sem Value := Extern.ReflectliteType.method fun t => do Extern.Rtype.noPackHeld "Comparable" t; pure (.bool (← typeInfo t).comparable)
theorem isComparable (w : World) : (cmpE #[.agg #[.pointer (some ⟨10, 205, none⟩)]]).run Tryd.prog w = .ok (.bool true) w := by kernel_rfl
theorem isMethodComparable (v : Value) (w : World) : (Go.method 341 155 v "Comparable").run Tryd.prog w = .ok (158, v) w := by kernel_rfl
theorem isComp : (Tryd.prog.info? 205).map (·.comparable) = some true := by kernel_rfl
theorem isSize : (Tryd.prog.info? 229).map (·.size) = some 1 := by kernel_rfl
theorem noIsE (v : Value) (xT : TypeId) (w : World) : (Instr.typeAssert (.iface 205 v) xT 157 true).run Tryd.prog w = .ok (.tuple #[.nilIface, .bool false]) w := run_typeAssert_lacksB Tryd.underlying157 (by kernel_rfl) (by kernel_rfl) v xT w
theorem noUnwrapE (v : Value) (xT : TypeId) (w : World) : (Instr.typeAssert (.iface 205 v) xT 160 true).run Tryd.prog w = .ok (.tuple #[.nilIface, .bool false]) w := run_typeAssert_lacksB Tryd.underlying160 (by kernel_rfl) (by kernel_rfl) v xT w
theorem noUnwrapsE (v : Value) (xT : TypeId) (w : World) : (Instr.typeAssert (.iface 205 v) xT 161 true).run Tryd.prog w = .ok (.tuple #[.nilIface, .bool false]) w := run_typeAssert_lacksB Tryd.underlying161 (by kernel_rfl) (by kernel_rfl) v xT w

set_option maxRecDepth 100000 in
theorem is_same (a : Addr) (w : World) :
    Calls Tryd.prog 57 #[.iface 205 (.pointer (some a)), .iface 205 (.pointer (some a))] w fun e w' => e = .returned (.bool true) ∧ w = w' := by
  obtain ⟨i, hi, hcmp⟩ := Option.map_eq_some_iff.1 isComp
  obtain ⟨j, hj, hjs⟩ := Option.map_eq_some_iff.1 isSize
  have h8 := @run_callFunc_extern Tryd.prog 77 _ Extern.ReflectliteType.typeOf Tryd.func77 (by kernel_rfl) (by kernel_rfl) (by kernel_rfl) (by kernel_rfl)
  have h32 := @run_callFunc_extern Tryd.prog 158 _ cmpE Tryd.func158 (by kernel_rfl) (by kernel_rfl) (by kernel_rfl) (by kernel_rfl)
  have tT := isTypeOf
  have cT := isComparable
  have mR := isMethodComparable
  have heq := run_eql_iface_ptr_same (P := Tryd.prog) w a Tryd.underlying35 Tryd.underlying205 hi hcmp hj
  go_enter Tryd.func57, Tryd.ntmps57
  go_wp2
  refine wp_loop_rounds 1 ?_
  rw [rounds_succ]
  go_wp2
  go_ret
  exact ⟨rfl, rfl⟩

set_option maxRecDepth 100000 in
theorem is_other (a b : Addr) (ca cb : Array Value) (ta tb : TypeId) (w : World) (hne : a ≠ b) (ha : w.heap[a.block]? = some (.cells ca ta (0, 0))) (hb : w.heap[b.block]? = some (.cells cb tb (0, 0))) :
    Calls Tryd.prog 57 #[.iface 205 (.pointer (some a)), .iface 205 (.pointer (some b))] w fun e w' => e = .returned (.bool false) ∧ w = w' := by
  obtain ⟨i, hi, hcmp⟩ := Option.map_eq_some_iff.1 isComp
  obtain ⟨j, hj, hjs⟩ := Option.map_eq_some_iff.1 isSize
  have h8 := @run_callFunc_extern Tryd.prog 77 _ Extern.ReflectliteType.typeOf Tryd.func77 (by kernel_rfl) (by kernel_rfl) (by kernel_rfl) (by kernel_rfl)
  have h32 := @run_callFunc_extern Tryd.prog 158 _ cmpE Tryd.func158 (by kernel_rfl) (by kernel_rfl) (by kernel_rfl) (by kernel_rfl)
  have tT := isTypeOf
  have cT := isComparable
  have mR := isMethodComparable
  have nE := noIsE
  have uE := noUnwrapE
  have vE := noUnwrapsE
  have heq := run_eql_iface_ptr_other (P := Tryd.prog) w Tryd.underlying35 Tryd.underlying205 hi hcmp hj (by rw [hjs]; decide) hne ha hb
  go_enter Tryd.func57, Tryd.ntmps57
  go_wp2
  refine wp_loop_rounds 1 ?_
  rw [rounds_succ]
  go_wp2
  go_ret
  exact ⟨rfl, rfl⟩

/-- The ten errors: the k-th variable holds a pointer to ad k; these are ten different ones. -/
structure Errs (w : World) (ad : Nat → Addr) : Prop where
  c0 : w.cell? ⟨1, 0, none⟩ = some (.iface 205 (.pointer (some (ad 0))))
  c1 : w.cell? ⟨2, 0, none⟩ = some (.iface 205 (.pointer (some (ad 1))))
  c2 : w.cell? ⟨3, 0, none⟩ = some (.iface 205 (.pointer (some (ad 2))))
  c3 : w.cell? ⟨4, 0, none⟩ = some (.iface 205 (.pointer (some (ad 3))))
  c4 : w.cell? ⟨5, 0, none⟩ = some (.iface 205 (.pointer (some (ad 4))))
  c5 : w.cell? ⟨6, 0, none⟩ = some (.iface 205 (.pointer (some (ad 5))))
  c6 : w.cell? ⟨7, 0, none⟩ = some (.iface 205 (.pointer (some (ad 6))))
  c7 : w.cell? ⟨8, 0, none⟩ = some (.iface 205 (.pointer (some (ad 7))))
  c8 : w.cell? ⟨9, 0, none⟩ = some (.iface 205 (.pointer (some (ad 8))))
  c9 : w.cell? ⟨0, 0, none⟩ = some (.iface 205 (.pointer (some (ad 9))))
  blk : ∀ i, i < 10 → ∃ c t, w.heap[(ad i).block]? = some (.cells c t (0, 0))
  inj : ∀ i j, i < 10 → j < 10 → ad i = ad j → i = j

theorem Errs.same {w w' : World} {ad : Nat → Addr} (h : Errs w ad) (hs : Same w w') : Errs w' ad := by
  have k : ∀ {p : Addr} {v : Value}, w.cell? p = some v → w'.cell? p = some v := fun {p v} hc => (hs.cell (World.block_lt_of_cell? w p hc) (fun f => f)).trans hc
  exact ⟨k h.c0, k h.c1, k h.c2, k h.c3, k h.c4, k h.c5, k h.c6, k h.c7, k h.c8, k h.c9, fun i hi => let ⟨c, t, hb⟩ := h.blk i hi; ⟨c, t, hs.heap hb (fun f => f)⟩, h.inj⟩

/-- An error value: nil, or the k-th of the ten. -/
def errV (ad : Nat → Addr) : Nat → Value
  | 0 => .nilIface
  | k + 1 => .iface 205 (.pointer (some (ad k)))

set_option maxRecDepth 100000 in
theorem num_nil (w : World) : Calls Tryd.prog 29 #[.nilIface] w fun r w' => r = .returned (.int .i64 0) ∧ w = w' := by
  go_enter Tryd.func29, Tryd.ntmps29
  go_wp2
  go_ret
  exact ⟨rfl, rfl⟩

set_option maxRecDepth 100000 in
theorem num_err (ad : Nat → Addr) (m : Nat) (hm : m < 10) (w : World) (h : Errs w ad) : Calls Tryd.prog 29 #[.iface 205 (.pointer (some (ad m)))] w fun r w' => r = .returned (.int .i64 (m + 1)) ∧ Same w w' := by
  obtain ⟨c0, c1, c2, c3, c4, c5, c6, c7, c8, c9, hb, hinj⟩ := h
  have HB := hid hb
  have HI := hid hinj
  clear hb hinj
  go_enter Tryd.func29, Tryd.ntmps29
  go_wp2
  have hcs : ∀ k, k < 10 → (w.alloc (.cells #[.iface 205 (.pointer (some (ad 0))), .iface 205 (.pointer (some (ad 1))), .iface 205 (.pointer (some (ad 2))), .iface 205 (.pointer (some (ad 3))), .iface 205 (.pointer (some (ad 4))), .iface 205 (.pointer (some (ad 5))), .iface 205 (.pointer (some (ad 6))), .iface 205 (.pointer (some (ad 7))), .iface 205 (.pointer (some (ad 8))), .iface 205 (.pointer (some (ad 9)))] 35)).cell? ⟨w.heap.size, k, none⟩ = some (.iface 205 (.pointer (some (ad k)))) := by
    intro k hk
    rw [cell_of (alloc_new _ _)]
    rcases k with _ | _ | _ | _ | _ | _ | _ | _ | _ | _ | k
    all_goals first | rfl | omega
  have hblk : ∀ (o : Obj) i, i < 10 → ∃ c t, (w.alloc o).heap[(ad i).block]? = some (.cells c t (0, 0)) := fun o i hi => let ⟨c, t, h⟩ := HB.out i hi; ⟨c, t, alloc_old o h⟩
  have hsm : ∀ o : Obj, Same w (w.alloc o) := fun o => (Chg.refl w).alloc o
  have HC := hid hcs
  have HK := hid hblk
  have HS := hid hsm
  clear hcs hblk hsm c0 c1 c2 c3 c4 c5 c6 c7 c8 c9
  go_loop [21] (fun i => ∃ k : Nat, k ≤ m ∧ i = .int .i64 k) (fun i => m - (intOf i).toNat)
  case atStart => exact ⟨0, Nat.zero_le _, rfl⟩
  case round =>
    obtain ⟨k, hk, rfl⟩ := hrel
    have hk10 : k < 10 := by omega
    have g := HC.out k hk10
    by_cases hkm : k = m
    · subst hkm
      go_wp2_with (go_at_call 57; refine (is_same _ _).mono ?_; rintro e w' ⟨rfl, rfl⟩)
      go_ret
      exact ⟨rfl, HS.out _⟩
    · obtain ⟨ca, ta, ha⟩ := HK.out (.cells #[.iface 205 (.pointer (some (ad 0))), .iface 205 (.pointer (some (ad 1))), .iface 205 (.pointer (some (ad 2))), .iface 205 (.pointer (some (ad 3))), .iface 205 (.pointer (some (ad 4))), .iface 205 (.pointer (some (ad 5))), .iface 205 (.pointer (some (ad 6))), .iface 205 (.pointer (some (ad 7))), .iface 205 (.pointer (some (ad 8))), .iface 205 (.pointer (some (ad 9)))] 35) m hm
      obtain ⟨cb, tb, hb⟩ := HK.out (.cells #[.iface 205 (.pointer (some (ad 0))), .iface 205 (.pointer (some (ad 1))), .iface 205 (.pointer (some (ad 2))), .iface 205 (.pointer (some (ad 3))), .iface 205 (.pointer (some (ad 4))), .iface 205 (.pointer (some (ad 5))), .iface 205 (.pointer (some (ad 6))), .iface 205 (.pointer (some (ad 7))), .iface 205 (.pointer (some (ad 8))), .iface 205 (.pointer (some (ad 9)))] 35) k hk10
      have hne : ad m ≠ ad k := fun e => hkm (HI.out m k hm hk10 e).symm
      have HA := hid ha
      have HB' := hid hb
      have HN := hid hne
      clear ha hb hne
      go_wp2_with (go_at_call 57; refine (is_other _ _ _ _ _ _ _ HN.out HA.out HB'.out).mono ?_; rintro e w' ⟨rfl, rfl⟩)
      go_round
      case rel => exact ⟨k + 1, by omega, by go_num⟩
      case measure => simp [intOf]; omega
/-- The number of every error of the ten, and of none. -/
theorem num (ad : Nat → Addr) (k : Nat) (hk : k ≤ 10) (w : World) (h : Errs w ad) : Calls Tryd.prog 29 #[errV ad k] w fun r w' => r = .returned (.int .i64 k) ∧ Same w w' := by
  cases k with
  | zero => exact (num_nil w).mono fun r w' ⟨h1, h2⟩ => ⟨h1, h2 ▸ Chg.refl _⟩
  | succ m => exact (num_err ad m (by omega) w h).mono fun r w' ⟨h1, h2⟩ => ⟨by rw [h1]; rfl, h2⟩

end Go.Proofs.YtilobedihjkpjaaDoor.Err

/-
  What lies in memory, thing by thing: each with the blocks that it takes; a step that changes one of them leaves the others.
-/
namespace Go.Proofs.YtilobedihjkpjaaDoor
open Go Go.RowKit

/-- A thing in memory: what it says of a world, and which blocks it takes. -/
structure Res where
  rel : World → (Nat → Prop) → Prop
  here : ∀ {w : World} {F : Nat → Prop}, rel w F → ∀ k, F k → k < w.heap.size
  keep : ∀ {w w' : World} {F : Nat → Prop}, rel w F → (∀ k, F k → w'.heap[k]? = w.heap[k]?) → rel w' F

/-- Things of the call's own, each apart from the others; nothing that was there in w0 has changed. -/
inductive Things (w0 w : World) : List Res → (Nat → Prop) → Prop
  | nil : Things w0 w [] (fun _ => False)
  | cons {R : Res} {L : List Res} {F G : Nat → Prop} : R.rel w F → (∀ k, F k → w0.heap.size ≤ k) → (∀ k, F k → ¬ G k) → Things w0 w L G → Things w0 w (R :: L) (fun k => F k ∨ G k)

structure Star (w0 w : World) (L : List Res) : Prop where
  same : Same w0 w
  all : ∃ F, Things w0 w L F

theorem Things.here {w0 w : World} {L : List Res} {F : Nat → Prop} (h : Things w0 w L F) : ∀ k, F k → k < w.heap.size ∧ w0.heap.size ≤ k := by
  induction h with
  | nil => exact fun k f => f.elim
  | cons hr hn _ _ ih =>
    rintro k (f | g)
    · exact ⟨_root_.Go.Proofs.YtilobedihjkpjaaDoor.Res.here _ hr k f, hn k f⟩
    · exact ih k g
theorem Things.keep {w0 w w' : World} {L : List Res} {F : Nat → Prop} (h : Things w0 w L F) (hk : ∀ k, F k → w'.heap[k]? = w.heap[k]?) : Things w0 w' L F := by
  induction h with
  | nil => exact .nil
  | cons hr hn hd _ ih => exact .cons (Res.keep _ hr (fun k f => hk k (.inl f))) hn hd (ih (fun k g => hk k (.inr g)))

/-- One of the things, and how the others stay behind a change of it. -/
theorem Things.at {w0 w : World} : ∀ {L : List Res} {G : Nat → Prop} (_ : Things w0 w L G) (i : Nat) {R : Res} (_ : L[i]? = some R), ∃ F, R.rel w F ∧ (∀ k, F k → w0.heap.size ≤ k) ∧ (∀ k, F k → G k) ∧
    ∀ (w' : World) (R' : Res) (F' : Nat → Prop), R'.rel w' F' → Chg F w w' → (∀ k, F' k → F k ∨ w.heap.size ≤ k) → w0.heap.size ≤ w.heap.size → ∃ G', Things w0 w' (L.set i R') G' ∧ ∀ k, G' k → G k ∨ w.heap.size ≤ k
  | _, _, .nil, i, R, h => by simp at h
  | _, _, .cons (R := R0) (L := L) (F := F0) (G := G0) hr hn hd ht, 0, R, h => by
    simp at h
    subst h
    refine ⟨F0, hr, hn, fun k f => .inl f, fun w' R' F' hR' hc hF' h0 => ⟨_, .cons hR' (fun k f => ?_) (fun k f g => ?_) (ht.keep (fun k g => hc.block k (ht.here k g).1 (fun f => hd k f g))), ?_⟩⟩
    · rcases hF' k f with f | f
      · exact hn k f
      · omega
    · rcases hF' k f with f | f
      · exact hd k f g
      · have := (ht.here k g).1; omega
    · rintro k (f | g)
      · rcases hF' k f with f | f
        · exact .inl (.inl f)
        · exact .inr f
      · exact .inl (.inr g)
  | _, _, .cons (R := R0) (L := L) (F := F0) (G := G0) hr hn hd ht, i + 1, R, h => by
    obtain ⟨F, h1, h2, h3, h4⟩ := ht.at i (by simpa using h)
    refine ⟨F, h1, h2, fun k f => .inr (h3 k f), fun w' R' F' hR' hc hF' h0 => ?_⟩
    obtain ⟨G', k1, k2⟩ := h4 w' R' F' hR' hc hF' h0
    refine ⟨_, .cons (Res.keep _ hr (fun k f => hc.block k (Res.here _ hr k f) (fun g => hd k f (h3 k g)))) hn (fun k f g => ?_) k1, ?_⟩
    · rcases k2 k g with g | g
      · exact hd k f g
      · have := Res.here _ hr k f; omega
    · rintro k (f | g)
      · exact .inl (.inl f)
      · rcases k2 k g with g | g
        · exact .inl (.inr g)
        · exact .inr g

section
variable {w0 w w' : World} {L : List Res}

theorem Star.at (X : Star w0 w L) (i : Nat) {R : Res} (hi : L[i]? = some R) : ∃ F, R.rel w F ∧ (∀ k, F k → w0.heap.size ≤ k) ∧
    ∀ (w' : World) (R' : Res) (F' : Nat → Prop), R'.rel w' F' → Chg F w w' → (∀ k, F' k → F k ∨ w.heap.size ≤ k) → Star w0 w' (L.set i R') := by
  obtain ⟨G, h⟩ := X.all
  obtain ⟨F, h1, h2, _, h4⟩ := h.at i hi
  refine ⟨F, h1, h2, fun w' R' F' hR' hc hF' => ?_⟩
  obtain ⟨G', k1, _⟩ := h4 w' R' F' hR' hc hF' X.same.size
  exact ⟨X.same.trans hc (fun k hk f => by have := h2 k f; omega), G', k1⟩
theorem Star.new (w : World) : Star w w [] := ⟨Chg.refl _, _, .nil⟩
/-- Behind a step that changes nothing. -/
theorem Star.go (X : Star w0 w L) (hs : Same w w') : Star w0 w' L := by
  obtain ⟨G, h⟩ := X.all
  exact ⟨X.same.trans hs (fun _ _ f => f), G, h.keep (fun k g => hs.block k (h.here k g).1 (fun f => f))⟩
/-- One thing more, that is new since w. -/
theorem Star.add (X : Star w0 w L) (hs : Same w w') {R : Res} {F : Nat → Prop} (hr : R.rel w' F) (hn : ∀ k, F k → w.heap.size ≤ k) : Star w0 w' (R :: L) := by
  obtain ⟨G, h⟩ := X.all
  have hz := X.same.size
  exact ⟨X.same.trans hs (fun _ _ f => f), _, .cons hr (fun k f => by have := hn k f; omega) (fun k f g => by have := hn k f; have := (h.here k g).1; omega) (h.keep (fun k g => hs.block k (h.here k g).1 (fun f => f)))⟩
theorem Star.drop {R : Res} (X : Star w0 w (R :: L)) : Star w0 w L := by
  obtain ⟨G, h⟩ := X.all
  cases h with
  | cons _ _ _ h => exact ⟨X.same, _, h⟩
/-- Two things change places. -/
theorem Star.swap {R S : Res} (X : Star w0 w (R :: S :: L)) : Star w0 w (S :: R :: L) := by
  obtain ⟨G, h⟩ := X.all
  cases h with
  | cons a1 a2 a3 h =>
    cases h with
    | cons b1 b2 b3 h =>
      refine ⟨X.same, _, .cons b1 b2 (fun k f => ?_) (.cons a1 a2 (fun k f g => a3 k f (.inr g)) h)⟩
      rintro (g | g)
      · exact a3 k g (.inl f)
      · exact b3 k f g
theorem Star.set (X : Star w0 w L) (i : Nat) {R R' : Res} (hi : L[i]? = some R) (himp : ∀ F, R.rel w F → R'.rel w F) : Star w0 w (L.set i R') := by
  obtain ⟨F, h1, _, h3⟩ := X.at i hi
  exact h3 w R' F (himp F h1) (Chg.refl _) (fun k f => .inl f)
/-- What was there in w0 reads as it did. -/
theorem Star.reads (X : Star w0 w L) {v : Value} {n size : Nat} {cs : List Value} (h : Reads w0 v n size cs) : Reads w v n size cs := h.same X.same
theorem Star.keepCell (X : Star w0 w L) {a : Addr} {v : Value} (hc : w0.cell? a = some v) : w.cell? a = some v := X.same.keep hc
end

/-- A block that is known whole. -/
def Blk (b : Nat) (cs : Array Value) (T : TypeId) : Res where
  rel w F := w.heap[b]? = some (.cells cs T (0, 0)) ∧ F = (fun k => k = b)
  here := by rintro w F ⟨h, rfl⟩ k rfl; exact lt_of h
  keep := by rintro w w' F ⟨h, rfl⟩ hk; exact ⟨(hk b rfl).trans h, rfl⟩

/-- A slice of n elements (size cells each) that owns its cells. -/
def Row (E size : Nat) (v : Value) (n : Nat) (xs : List Value) : Res where
  rel w F := w.ownsRow 0 E size v n xs ∧ F = (fun k => v.ownBlock = some k)
  here := by rintro w F ⟨h, rfl⟩ k hk; exact (h.lt k hk).2
  keep := by
    rintro w w' F ⟨h, rfl⟩ hk
    refine ⟨⟨h.1, ?_⟩, rfl⟩
    rcases h.2 with hn' | ⟨g, cap, cur, rfl, hb, hg, r⟩
    · exact .inl hn'
    · exact .inr ⟨g, cap, cur, rfl, hb, (hk g rfl).trans hg, r⟩

section
variable {w0 w w' : World} {L : List Res}
theorem Star.blk (X : Star w0 w L) (i : Nat) {b : Nat} {cs : Array Value} {T : TypeId} (hi : L[i]? = some (Blk b cs T)) : w.heap[b]? = some (.cells cs T (0, 0)) ∧ w0.heap.size ≤ b := by
  obtain ⟨F, ⟨h, rfl⟩, h2, _⟩ := X.at i hi
  exact ⟨h, h2 b rfl⟩
theorem Star.row (X : Star w0 w L) (i : Nat) {E size n : Nat} {v : Value} {xs : List Value} (hi : L[i]? = some (Row E size v n xs)) : w.ownsRow 0 E size v n xs ∧ ∀ k, v.ownBlock = some k → w0.heap.size ≤ k := by
  obtain ⟨F, ⟨h, rfl⟩, h2, _⟩ := X.at i hi
  exact ⟨h, h2⟩
/-- A new block. -/
theorem Star.alloc (X : Star w0 w L) (cs : Array Value) (T : TypeId) : Star w0 (w.alloc (.cells cs T)) (Blk w.heap.size cs T :: L) :=
  X.add ((Chg.refl _).alloc _) ⟨alloc_new w _, rfl⟩ (fun k h => by cases h; exact Nat.le_refl _)
/-- A store into a block that is known whole. -/
theorem Star.put (X : Star w0 w L) (i : Nat) {b : Nat} {cs : Array Value} {T : TypeId} (hi : L[i]? = some (Blk b cs T)) (j : Nat) (u : Value) : Star w0 (w.setCell ⟨b, j, none⟩ u) (L.set i (Blk b (cs.setIfInBounds j u) T)) := by
  obtain ⟨F, ⟨h, rfl⟩, h2, h3⟩ := X.at i hi
  exact h3 _ _ _ ⟨set_same h j u, rfl⟩ (Chg.setCell _ _ (Chg.refl _) (fun _ => rfl)) (fun k f => .inl f)
/-- A slice that is new. -/
theorem Star.fresh (X : Star w0 w L) {E size n : Nat} {v : Value} {xs : List Value} (hf : Fresh w w' E size v n xs) (hs : Same w w') : Star w0 w' (Row E size v n xs :: L) :=
  X.add hs ⟨hf.1, rfl⟩ (fun k h => hf.2 k h)
theorem Star.nilRow (X : Star w0 w L) (E size : Nat) : Star w0 w (Row E size (.slice none 0 0) 0 [] :: L) :=
  X.add (Chg.refl _) ⟨World.ownsRow_nil _ _ _ _, rfl⟩ (fun k h => by simp [Value.ownBlock] at h)
/-- A slice that has grown. -/
theorem Star.grown (X : Star w0 w L) (i : Nat) {E size n n' : Nat} {v v' : Value} {xs xs' : List Value} (hi : L[i]? = some (Row E size v n xs)) (ho : w'.ownsRow 0 E size v' n' xs') (hg : w.grownBy w' v.ownBlock) (hn : NewOr w v v') : Star w0 w' (L.set i (Row E size v' n' xs')) := by
  obtain ⟨F, ⟨h, rfl⟩, h2, h3⟩ := X.at i hi
  refine h3 _ _ _ ⟨ho, rfl⟩ ((Chg.refl w).grown hg (fun k e _ => e)) (fun k f => ?_)
  rcases hn with e | e
  · exact .inl (e ▸ f)
  · exact .inr (e k f)
/-- A store into a slice. -/
theorem Star.store (X : Star w0 w L) (i : Nat) {E size n g c m : Nat} {xs : List Value} (hi : L[i]? = some (Row E size (.slice (some ⟨g, 0, none⟩) m c) n xs)) (j : Nat) (u : Value) : Star w0 (w.setCell ⟨g, j, none⟩ u) (L.set i (Row E size (.slice (some ⟨g, 0, none⟩) m c) n (xs.set j u))) := by
  obtain ⟨F, ⟨h, rfl⟩, h2, h3⟩ := X.at i hi
  have hn : m = n := by
    obtain ⟨_, _, e, _⟩ := own_slice h
    cases e; rfl
  subst hn
  exact h3 _ _ _ ⟨(h.stored j u).1, rfl⟩ (Chg.setCell _ _ (Chg.refl _) (fun _ => rfl)) (fun k f => .inl f)
end

/-- Two things, apart from each other, as one. -/
def sepR (R S : Res) : Res where
  rel w F := ∃ F1 F2, R.rel w F1 ∧ S.rel w F2 ∧ (∀ k, F1 k → ¬ F2 k) ∧ F = (fun k => F1 k ∨ F2 k)
  here := by
    rintro w F ⟨F1, F2, h1, h2, _, rfl⟩ k (h | h)
    · exact R.here h1 k h
    · exact S.here h2 k h
  keep := by
    rintro w w' F ⟨F1, F2, h1, h2, hd, rfl⟩ hk
    exact ⟨F1, F2, R.keep h1 (fun k h => hk k (.inl h)), S.keep h2 (fun k h => hk k (.inr h)), hd, rfl⟩
/-- A thing of some kind. -/
def exR {α : Type} (f : α → Res) : Res where
  rel w F := ∃ a, (f a).rel w F
  here := by rintro w F ⟨a, h⟩; exact (f a).here h
  keep := by rintro w w' F ⟨a, h⟩ hk; exact ⟨a, (f a).keep h hk⟩
/-- A fact. -/
def factR (p : Prop) : Res where
  rel _ F := p ∧ F = (fun _ => False)
  here := by rintro w F ⟨_, rfl⟩ k h; exact h.elim
  keep := by rintro w w' F h _; exact h

section
variable {w0 w w' : World} {L : List Res}
theorem Star.open_sep {R S : Res} (X : Star w0 w (sepR R S :: L)) : Star w0 w (R :: S :: L) := by
  obtain ⟨G, h⟩ := X.all
  cases h with
  | cons hr hn hd ht =>
    obtain ⟨F1, F2, h1, h2, hd2, rfl⟩ := hr
    exact ⟨X.same, _, .cons h1 (fun k f => hn k (.inl f)) (fun k f g => by
      rcases g with g | g
      · exact hd2 k f g
      · exact hd k (.inl f) g) (.cons h2 (fun k f => hn k (.inr f)) (fun k f g => hd k (.inr f) g) ht)⟩
theorem Star.close_sep {R S : Res} (X : Star w0 w (R :: S :: L)) : Star w0 w (sepR R S :: L) := by
  obtain ⟨G, h⟩ := X.all
  cases h with
  | cons h1 hn1 hd1 ht =>
    cases ht with
    | cons h2 hn2 hd2 ht =>
      refine ⟨X.same, _, .cons ⟨_, _, h1, h2, fun k f g => hd1 k f (.inl g), rfl⟩ ?_ ?_ ht⟩
      · rintro k (f | f)
        · exact hn1 k f
        · exact hn2 k f
      · rintro k (f | f) g
        · exact hd1 k f (.inr g)
        · exact hd2 k f g
theorem Star.open_ex {α : Type} {f : α → Res} (X : Star w0 w (exR f :: L)) : ∃ a, Star w0 w (f a :: L) := by
  obtain ⟨G, h⟩ := X.all
  cases h with
  | cons hr hn hd ht =>
    obtain ⟨a, hr⟩ := hr
    exact ⟨a, X.same, _, .cons hr hn hd ht⟩
theorem Star.close_ex {α : Type} {f : α → Res} (a : α) (X : Star w0 w (f a :: L)) : Star w0 w (exR f :: L) := by
  obtain ⟨G, h⟩ := X.all
  cases h with
  | cons hr hn hd ht => exact ⟨X.same, _, .cons ⟨a, hr⟩ hn hd ht⟩
theorem Star.open_fact {p : Prop} (X : Star w0 w (factR p :: L)) : p ∧ Star w0 w L := by
  obtain ⟨G, h⟩ := X.all
  cases h with
  | cons hr hn hd ht => exact ⟨hr.1, X.same, _, ht⟩
theorem Star.close_fact {p : Prop} (hp : p) (X : Star w0 w L) : Star w0 w (factR p :: L) := by
  obtain ⟨G, h⟩ := X.all
  exact ⟨X.same, _, .cons ⟨hp, rfl⟩ (fun k f => f.elim) (fun k f => f.elim) h⟩
theorem Things.pull : ∀ {L : List Res} {G : Nat → Prop} (i : Nat) {R : Res} (_ : L[i]? = some R) (_ : Things w0 w L G), ∃ F G', R.rel w F ∧ (∀ k, F k → w0.heap.size ≤ k) ∧ (∀ k, F k → ¬ G' k) ∧ Things w0 w (L.eraseIdx i) G' ∧ ∀ k, F k ∨ G' k → G k
  | [], _, i, R, h, _ => by simp at h
  | S :: L, _, 0, R, h, .cons a1 a2 a3 ht => by
    simp at h; subst h
    exact ⟨_, _, a1, a2, a3, ht, fun k h => h⟩
  | S :: L, _, i + 1, R, h, .cons a1 a2 a3 ht => by
    obtain ⟨F, G', b1, b2, b3, b4, b5⟩ := Things.pull i (by simpa using h) ht
    refine ⟨F, _, b1, b2, ?_, .cons a1 a2 (fun k f g => a3 k f (b5 k (.inr g))) b4, ?_⟩
    · rintro k f (g | g)
      · exact a3 k g (b5 k (.inl f))
      · exact b3 k f g
    · rintro k (f | f | f)
      · exact .inr (b5 k (.inl f))
      · exact .inl f
      · exact .inr (b5 k (.inr f))
/-- The i-th thing comes first. -/
theorem Star.pull (X : Star w0 w L) (i : Nat) {R : Res} (hi : L[i]? = some R) : Star w0 w (R :: L.eraseIdx i) := by
  obtain ⟨G, h⟩ := X.all
  obtain ⟨F, G', b1, b2, b3, b4, _⟩ := h.pull i hi
  exact ⟨X.same, _, .cons b1 b2 b3 b4⟩
theorem Things.lift {w1 : World} {L : List Res} {G : Nat → Prop} (hl : Things w0 w1 L G) (hs : ∀ k, k < w.heap.size → w1.heap[k]? = w.heap[k]?) (h0 : w0.heap.size ≤ w.heap.size) (hb : ∀ k, G k → k < w.heap.size) : ∀ {M : List Res} {F : Nat → Prop} (_ : Things w w1 M F), ∃ F', Things w0 w1 (M ++ L) F' ∧ ∀ k, F' k → F k ∨ G k
  | _, _, .nil => ⟨G, hl, fun k h => .inr h⟩
  | _, _, .cons a1 a2 a3 ht => by
    obtain ⟨F', b1, b2⟩ := Things.lift hl hs h0 hb ht
    refine ⟨_, .cons a1 (fun k f => by have := a2 k f; omega) (fun k f g => ?_) b1, ?_⟩
    · rcases b2 k g with g | g
      · exact a3 k f g
      · have := a2 k f; have := hb k g; omega
    · rintro k (f | f)
      · exact .inl (.inl f)
      · rcases b2 k f with g | g
        · exact .inl (.inr g)
        · exact .inr g
/-- Things that are new since w, beside those that were there in w. -/
theorem Star.lift {M : List Res} {w1 : World} (X : Star w0 w L) (Y : Star w w1 M) : Star w0 w1 (M ++ L) := by
  obtain ⟨G, h⟩ := X.all
  obtain ⟨F, hF⟩ := Y.all
  have hk := h.keep (w' := w1) (fun k g => Y.same.block k (h.here k g).1 (fun f => f))
  obtain ⟨F', h1, _⟩ := Things.lift hk (fun k hk => Y.same.block k hk (fun f => f)) X.same.size (fun k g => (h.here k g).1) hF
  exact ⟨X.same.trans Y.same (fun _ _ f => f), F', h1⟩
/-- Two things lie apart. -/
theorem Star.apart (X : Star w0 w L) (i j : Nat) {R R' : Res} (hi : L[i]? = some R) (hj : L[j]? = some R') (hij : i < j) : ∃ F F', R.rel w F ∧ R'.rel w F' ∧ ∀ k, F k → ¬ F' k := by
  obtain ⟨G, h⟩ := X.all
  obtain ⟨F, G', b1, _, b3, b4, _⟩ := h.pull i hi
  have hj' : (L.eraseIdx i)[j - 1]? = some R' := by
    rw [List.getElem?_eraseIdx_of_ge (by omega), show j - 1 + 1 = j by omega]; exact hj
  obtain ⟨F', h1, _, h3, _⟩ := b4.at (j - 1) hj'
  exact ⟨F, F', b1, h1, fun k f g => b3 k f (h3 k g)⟩
theorem Star.neBB (X : Star w0 w L) (i j : Nat) {b c : Nat} {cs ds : Array Value} {T U : TypeId} (hi : L[i]? = some (Blk b cs T)) (hj : L[j]? = some (Blk c ds U)) (hij : i < j) : ¬ b = c ∧ ¬ c = b := by
  obtain ⟨F, F', ⟨_, rfl⟩, ⟨_, rfl⟩, h⟩ := X.apart i j hi hj hij
  exact ⟨fun e => h b rfl e, fun e => h b rfl e.symm⟩
theorem Star.neBR (X : Star w0 w L) (i j : Nat) {b g E size n m c : Nat} {cs : Array Value} {T : TypeId} {xs : List Value} (hi : L[i]? = some (Blk b cs T)) (hj : L[j]? = some (Row E size (.slice (some ⟨g, 0, none⟩) m c) n xs)) (hij : i < j) : ¬ b = g ∧ ¬ g = b := by
  obtain ⟨F, F', ⟨_, rfl⟩, ⟨_, rfl⟩, h⟩ := X.apart i j hi hj hij
  exact ⟨fun e => h b rfl (by simp [Value.ownBlock, e]), fun e => h b rfl (by simp [Value.ownBlock, e])⟩
theorem Star.neRB (X : Star w0 w L) (i j : Nat) {b g E size n m c : Nat} {cs : Array Value} {T : TypeId} {xs : List Value} (hi : L[i]? = some (Row E size (.slice (some ⟨g, 0, none⟩) m c) n xs)) (hj : L[j]? = some (Blk b cs T)) (hij : i < j) : ¬ b = g ∧ ¬ g = b := by
  obtain ⟨F, F', ⟨_, rfl⟩, ⟨_, rfl⟩, h⟩ := X.apart i j hi hj hij
  exact ⟨fun e => h b (by simp [Value.ownBlock, e]) rfl, fun e => h b (by simp [Value.ownBlock, e]) rfl⟩
theorem Star.neRR (X : Star w0 w L) (i j : Nat) {g g' E E' size size' n n' m m' c c' : Nat} {xs ys : List Value} (hi : L[i]? = some (Row E size (.slice (some ⟨g, 0, none⟩) m c) n xs)) (hj : L[j]? = some (Row E' size' (.slice (some ⟨g', 0, none⟩) m' c') n' ys)) (hij : i < j) : ¬ g = g' ∧ ¬ g' = g := by
  obtain ⟨F, F', ⟨_, rfl⟩, ⟨_, rfl⟩, h⟩ := X.apart i j hi hj hij
  exact ⟨fun e => h g rfl (by simp [Value.ownBlock, e]), fun e => h g rfl (by simp [Value.ownBlock, e])⟩
end

end Go.Proofs.YtilobedihjkpjaaDoor

/-
  Long arrays, by law: made, stored and read whole; a drawn region of reads and of calls that change nothing that was there.
-/
namespace Go.Proofs.YtilobedihjkpjaaDoor
open Go Go.RowKit

section
variable {P : Program} {ops : Array Oper} {rest : List Oper} {o : Oper} {a : Act} {w : World} {Q : Exit → Act → World → Prop}

/-- Which operation is next: cheap to ask, under 'with_reducible'. -/
theorem at_alloc (d : Tmp) {T ty : TypeId} {pos : String} {after : Array Edge} {g : Option (Nat × Bool)} (h : wpList P ops Q (Oper.mk (some d) (.alloc T) ty pos after g :: rest) a w) : wpList P ops Q (Oper.mk (some d) (.alloc T) ty pos after g :: rest) a w := h
theorem at_build {d : Option Tmp} {T ty : TypeId} {ps : Array (Nat × Operand)} {pos : String} {after : Array Edge} {g : Option (Nat × Bool)} (h : wpList P ops Q (Oper.mk d (.build T ps) ty pos after g :: rest) a w) : wpList P ops Q (Oper.mk d (.build T ps) ty pos after g :: rest) a w := h
theorem at_store (x : Tmp) {T ty : TypeId} {d : Option Tmp} {y : Operand} {pos : String} {after : Array Edge} {g : Option (Nat × Bool)} (h : wpList P ops Q (Oper.mk d (.store T (.tmp x) y) ty pos after g :: rest) a w) : wpList P ops Q (Oper.mk d (.store T (.tmp x) y) ty pos after g :: rest) a w := h
theorem at_load (x : Tmp) {T ty : TypeId} {d : Option Tmp} {pos : String} {after : Array Edge} {g : Option (Nat × Bool)} (h : wpList P ops Q (Oper.mk d (.load T (.tmp x)) ty pos after g :: rest) a w) : wpList P ops Q (Oper.mk d (.load T (.tmp x)) ty pos after g :: rest) a w := h
theorem setRow_same {w : World} {g : Nat} {cs : Array Value} {t : TypeId} {fr : Nat × Nat} (h : w.heap[g]? = some (.cells cs t fr)) : w.setRow g cs = w := by
  have hv : w.heap[g]'(lt_of h) = .cells cs t fr := (Array.getElem?_eq_some_iff.1 h).2
  unfold World.setRow
  cases w with
  | mk heap tape drawn os output =>
    congr 1
    apply Array.ext
    · simp
    · intro k h1 h2
      simp only [Array.getElem_modify]
      split
      · rename_i hk; subst hk; simp at hv; simp [hv]
      · rfl

theorem wpList_alloc_big (hg : o.guard = none) (T : TypeId) (ho : o.op = .alloc T) (z : Value) (hz : ∀ w, (zeroValue T).run P w = .ok z w)
    (h : wpList P ops Q rest (a.put o.dst (.pointer (some ⟨w.heap.size, 0, none⟩))) (w.alloc (.cells z.cells T))) : wpList P ops Q (o :: rest) a w := by
  refine wpList_plain hg fun K hK => ?_
  unfold Oper.wp execOp
  simp only [ho]
  have : (Instr.alloc T true (.tuple #[])).run P w = .ok (.pointer (some ⟨w.heap.size, 0, none⟩)) (w.alloc (.cells z.cells T)) := by
    unfold Instr.alloc
    rw [Sem.run_bind, hz]
    rfl
  simp only [Sem.run_bind, this, Result.andThen_ok]
  exact hK _ _ h

theorem wpList_build_big (hg : o.guard = none) (T : TypeId) (ho : o.op = .build T #[]) (cs : Array Value) (hb : P.built T [] = some cs)
    (h : wpList P ops Q rest (a.put o.dst (.agg cs)) w) : wpList P ops Q (o :: rest) a w := by
  refine wpList_build hg T #[] ho (by simp [hb]) ?_
  simpa [hb] using h

theorem wpList_store_same (hg : o.guard = none) (ty : TypeId) (x y : Operand) (ho : o.op = .store ty x y)
    (g : Nat) (cells : Array Value) (hx : a.eval x = .pointer (some ⟨g, 0, none⟩)) (hy : a.eval y = .agg cells)
    (t : TypeId) (hgw : w.heap[g]? = some (.cells cells t (0, 0))) (hi : (P.info? ty).map (·.size) = some cells.size) (h1 : cells.all (·.oneCell') = true)
    (h : wpList P ops Q rest (a.put o.dst undef) w) : wpList P ops Q (o :: rest) a w := by
  refine wpList_store_row hg ty x y ho g cells hx hy t cells hgw hi rfl h1 ?_
  rw [setRow_same hgw]
  exact h

/-- .. where the call's own things are told. -/
theorem wpList_alloc_star {w0 : World} {L : List Res} (X : Star w0 w L) (hg : o.guard = none) (T : TypeId) (ho : o.op = .alloc T) (z : Value) (hz : ∀ w, (zeroValue T).run P w = .ok z w)
    (h : ∀ g w', Star w0 w' (Blk g z.cells T :: L) → wpList P ops Q rest (a.put o.dst (.pointer (some ⟨g, 0, none⟩))) w') : wpList P ops Q (o :: rest) a w :=
  wpList_alloc_big hg T ho z hz (h _ _ (X.alloc z.cells T))
theorem Star.setRow {w0 w : World} {L : List Res} (X : Star w0 w L) (i : Nat) {g : Nat} {old : Array Value} {T : TypeId} (hi : L[i]? = some (Blk g old T)) (cells : Array Value) : Star w0 (w.setRow g cells) (L.set i (Blk g cells T)) := by
  obtain ⟨F, ⟨h, rfl⟩, h2, h3⟩ := X.at i hi
  refine h3 _ _ _ ⟨setRow_heap w g old cells T _ h, rfl⟩ ⟨rfl, rfl, rfl, by simp, fun k hk hn => setRow_other w g k cells hn⟩ (fun k f => .inl f)
theorem wpList_store_star {w0 : World} {L : List Res} (X : Star w0 w L) (i : Nat) {g : Nat} {old : Array Value} {T : TypeId} (hi : L[i]? = some (Blk g old T)) (hgd : o.guard = none) (ty : TypeId) (x y : Operand) (ho : o.op = .store ty x y)
    (cells : Array Value) (hx : a.eval x = .pointer (some ⟨g, 0, none⟩)) (hy : a.eval y = .agg cells) (hs : (P.info? ty).map (·.size) = some cells.size)
    (hold : old.size = cells.size) (h1 : cells.all (·.oneCell') = true)
    (h : ∀ w', Star w0 w' (L.set i (Blk g cells T)) → wpList P ops Q rest (a.put o.dst undef) w') : wpList P ops Q (o :: rest) a w :=
  wpList_store_row hgd ty x y ho g cells hx hy T old (X.blk i hi).1 hs hold h1 (h _ (X.setRow i hi cells))

/-- A load of a long array at an operation that is guarded. -/
theorem wpList_load_row_want (hw : Region.wanted o (yielded ops a.tmps) = true) (ty : TypeId) (x : Operand) (ho : o.op = .load ty x)
    (g : Nat) (hx : a.eval x = .pointer (some ⟨g, 0, none⟩)) (t : TypeId) (cs : Array Value) (fr : Nat × Nat) (d : TypeDesc) (hg : w.heap[g]? = some (.cells cs t fr))
    (hu : P.underlying ty = some d) (hd : (match d with | .struct _ | .array _ _ => true | _ => false) = true) (hi : (P.info? ty).map (·.size) = some cs.size)
    (h : wpList P ops Q rest (a.put o.dst (.agg cs)) w) : wpList P ops Q (o :: rest) a w :=
  BigFrame.wpList_want hw fun _ hK => wp_load_row ty x ho g hx t cs fr d hg hu hd hi (hK _ _ h)

theorem Chg.setRow {S : Nat → Prop} {a b : World} (g : Nat) (cs : Array Value) (h : Chg S a b) (hp : g < a.heap.size → S g) : Chg S a (b.setRow g cs) :=
  ⟨h.os, h.tape, h.output, by have := h.size; simp; omega, fun k hk hn => (setRow_other b g k cs (fun e => hn (e ▸ hp (e ▸ hk)))).trans (h.block k hk hn)⟩
end

theorem loadAt_row {P : Program} {w : World} {g : Nat} {t ty : TypeId} {cs : Array Value} {fr : Nat × Nat} {d : TypeDesc} (hg : w.heap[g]? = some (.cells cs t fr))
    (hu : P.underlying ty = some d) (hd : (match d with | .struct _ | .array _ _ => true | _ => false) = true) (hi : (P.info? ty).map (·.size) = some cs.size) :
    (Instr.loadAt ty (.pointer (some ⟨g, 0, none⟩))).run P w = .ok (.agg cs) w := by
  simp only [Instr.loadAt, Instr.sureAddr, Sem.run_bind, Sem.run_pure, Result.andThen_ok, run_loadVar_row w g t ty cs fr d hg hu hd hi]

/-- A world in which nothing that was there in w has changed. -/
structure SameW (w0 : World) where
  w : World
  same : Same w0 w

instance instNonemptySameW (w0 : World) : Nonempty (SameW w0) := ⟨⟨w0, Chg.refl w0⟩⟩

theorem Chg.after' {a b c : World} (k : Same b c) (h : Same a b) : Same a c := h.trans k (fun _ _ f => f)

/-- A drawn region whose operations read, and whose calls change nothing that was there: walked once. -/
theorem wp_region_same {P : Program} {id : Nat} {Q : Exit → Act → World → Prop} {a : Act} {w : World} {l : List Oper} (hm : P.follows .mixedOrders = true) (hB : Region.lexB .any l.toArray = true)
    (h : wpQuiet P l.toArray (fun w' => ∃ n : SameW w, w' = n.w) (fun a' => ∀ w', (∃ n : SameW w, w' = n.w) → Q .normal a' w') l a) : (Code.region id l.toArray true).wp P Q a w :=
  wp_region_quiet (C := fun w' => ∃ n : SameW w, w' = n.w) hm hB ⟨⟨_, (Chg.refl w).drew⟩, rfl⟩ (by simpa using h)

/-- A load in such a region, by law. -/
theorem quiet_loadS {P : Program} {o : Oper} {a : Act} {K : Act → Prop} {w0 : World} {T : TypeId} {x : Operand} {p v : Value} (ho : o.op = .load T x) (hx : a.eval x = p)
    (hv : ∀ n : SameW w0, (Instr.loadAt T p).run P n.w = .ok v n.w) (hk : K (a.put o.dst v)) : o.quiet P a (fun w' => ∃ n : SameW w0, w' = n.w) K := by
  refine ⟨v, ?_, hk⟩
  rintro w ⟨n, rfl⟩
  unfold Oper.quietAt execOp
  simp only [ho, hx, Sem.run_bind, hv n, Result.andThen_ok]
  exact ⟨rfl, rfl⟩
theorem at_loadQ (x : Tmp) {P : Program} {ops : Array Oper} {C : World → Prop} {Q : Act → Prop} {rest : List Oper} {a : Act} {T ty : TypeId} {d : Option Tmp} {pos : String} {after : Array Edge} {g : Option (Nat × Bool)} (h : wpQuiet P ops C Q (Oper.mk d (.load T (.tmp x)) ty pos after g :: rest) a) :
    wpQuiet P ops C Q (Oper.mk d (.load T (.tmp x)) ty pos after g :: rest) a := h

theorem Calls.same_of {P : Program} {f : FuncId} {args : Array Value} {w : World} {n : SameW w} {v : Value}
    (h : Calls P f args n.w fun e w' => e = .returned v ∧ Same n.w w') : Calls P f args n.w fun e w'' => e = .returned v ∧ ∃ m : SameW w, w'' = m.w :=
  h.mono fun _ w' ⟨he, hw⟩ => ⟨he, ⟨w', n.same.trans hw (fun _ _ f => f)⟩, rfl⟩
theorem Calls.same_of_eq {P : Program} {f : FuncId} {args : Array Value} {w : World} {n : SameW w} {v : Value}
    (h : Calls P f args n.w fun e w' => e = .returned v ∧ n.w = w') : Calls P f args n.w fun e w'' => e = .returned v ∧ ∃ m : SameW w, w'' = m.w :=
  h.mono fun _ _ ⟨he, hw⟩ => ⟨he, n, hw.symm⟩
theorem SameW.cell {w : World} {a : Addr} {v : Value} (h : w.cell? a = some v) : ∀ n : SameW w, n.w.cell? a = some v := fun n => n.same.keep h

/-- Operations of a drawn region that are not wanted: nothing is done. -/
def isUndef : Option Value → Bool
  | some (.tuple c) => c.size == 0
  | none => true
  | _ => false
def skipB (ops : Array Oper) (a : Act) (l : List Oper) : Bool := l.all fun o => !Region.wanted o (yielded ops a.tmps) && match o.dst with
  | none => true
  | some d => isUndef a.tmps[d]?
theorem put_undef {a : Act} {d : Tmp} (h : isUndef a.tmps[d]? = true) : a.put (some d) undef = a := by
  unfold Act.put
  have : a.tmps.setIfInBounds d undef = a.tmps := by
    apply Array.ext_getElem?
    intro i
    rw [Array.getElem?_setIfInBounds]
    by_cases e : d = i
    · subst e
      rw [if_pos rfl]
      by_cases hd : d < a.tmps.size
      · rw [if_pos hd]
        rw [Array.getElem?_eq_getElem hd] at h ⊢
        generalize a.tmps[d] = v at *
        cases v <;> simp [isUndef] at h
        simp [undef, h]
      · rw [if_neg hd, Array.getElem?_eq_none (Nat.le_of_not_lt hd)]
    · rw [if_neg e]
  simp only [this]
theorem wpQuiet_skips {P : Program} {ops : Array Oper} {C : World → Prop} {Q : Act → Prop} {a : Act} : ∀ (n : Nat) {l : List Oper} (_ : skipB ops a (l.take n) = true) (_ : wpQuiet P ops C Q (l.drop n) a), wpQuiet P ops C Q l a
  | 0, l, _, hn => by simpa using hn
  | n + 1, [], _, hn => by simpa using hn
  | n + 1, o :: l, h, hn => by
    rw [List.drop_succ_cons] at hn
    rw [List.take_succ_cons] at h
    unfold skipB at h
    simp only [List.all_cons, Bool.and_eq_true, Bool.not_eq_true'] at h
    obtain ⟨⟨h1, h2⟩, h3⟩ := h
    unfold wpQuiet
    rw [h1]
    have hp : a.put o.dst undef = a := by
      cases hd : o.dst with
      | none => rfl
      | some d => rw [hd] at h2; exact put_undef h2
    rw [hp]
    exact wpQuiet_skips n (by unfold skipB; simpa only [Bool.and_eq_true, Bool.not_eq_true'] using h3) hn

/-- Two results, the first an aggregate in memory. -/
theorem results_cell_tmp {P : Program} {fn : Func} {p t : Tmp} {ty : TypeId} (h : fn.results = #[.cell p ty, .tmp t]) (tmps : Array Value) (w : World) (g : Nat) (T : TypeId) (cs : Array Value) (fr : Nat × Nat) (d : TypeDesc)
    (hp : tmps.getD p undef = .pointer (some ⟨g, 0, none⟩)) (hg : w.heap[g]? = some (.cells cs T fr))
    (hu : P.underlying ty = some d) (hd : (match d with | .struct _ | .array _ _ => true | _ => false) = true) (hi : (P.info? ty).map (·.size) = some cs.size) (v : Value) (hv : tmps.getD t undef = v) :
    (results fn tmps).run P w = .ok (.tuple #[.agg cs, v]) w := by
  have hp' : tmps[p]?.getD undef = .pointer (some ⟨g, 0, none⟩) := by simpa using hp
  have hv' : tmps[t]?.getD undef = v := by simpa using hv
  simp [results, h, hp', hv', asAddr, run_loadVar_row w g T ty cs fr d hg hu hd hi]

end Go.Proofs.YtilobedihjkpjaaDoor
