/-
  Package fields: New, Close.
-/
import Derived.Test.YtilobedihjkpjaaDoorFieldNew
import Derived.Test.YtilobedihjkpjaaDoorMapO
import Derived.Test.YtilobedihjkpjaaDoorPack
namespace Go.Proofs.YtilobedihjkpjaaDoor
open Go Go.RowKit
theorem perm_first {α : Type} {l : List α} {i : Nat} {r : α} (h : l[i]? = some r) : l.Perm (r :: l.eraseIdx i) := by
  obtain ⟨hl, e⟩ := List.getElem?_eq_some_iff.1 h
  rw [← e, List.eraseIdx_eq_take_drop_succ]
  refine List.Perm.trans ?_ List.perm_middle
  rw [← List.drop_eq_getElem_cons hl, List.take_append_drop]
theorem perm_back {α : Type} {l : List α} {i : Nat} {r : α} (h : i < l.length) : (r :: l.eraseIdx i).Perm (l.set i r) := by
  rw [List.eraseIdx_eq_take_drop_succ, List.set_eq_take_append_cons_drop, if_pos h]
  exact List.perm_middle.symm
end Go.Proofs.YtilobedihjkpjaaDoor
namespace Go.Proofs.YtilobedihjkpjaaDoor.Fs
open Go Go.RowKit Go.Proofs.YtilobedihjkpjaaDoor.Steps Go.Proofs.YtilobedihjkpjaaDoor.Ord Go.Proofs.YtilobedihjkpjaaDoor.Route Go.Proofs.YtilobedihjkpjaaDoor.Fld
/-- An open field: where it lies; its ground, goals and costs; its version. -/
structure Slot where
  a : Nat
  f : Nat
  g : Nat
  gc : Nat
  gl : List Int
  G : Gr
  c : List Int
  v : Int
abbrev opC (f g n gc : Nat) (v : Int) : Array Value := #[.pointer (some ⟨f, 0, none⟩), .slice (some ⟨g, 0, none⟩) n gc, .int .i64 v]
def slotR (o : Option Slot) : Res := match o with
  | none => factR True
  | some x => sepR (Blk x.a (opC x.f x.g x.gl.length x.gc x.v) 103) (sepR (fldR x.f x.G x.gl x.c) (numR x.g x.gl.length x.gc x.gl))
def slots (st : Nat → Option Slot) : List Res := (List.range 4).map fun k => slotR (st k)
theorem slots_len (st : Nat → Option Slot) : (slots st).length = 4 := by simp [slots]
theorem slots_get (st : Nat → Option Slot) {k : Nat} (h : k < 4) : (slots st)[k]? = some (slotR (st k)) := by simp [slots, h]
def upd (st : Nat → Option Slot) (k : Nat) (o : Option Slot) : Nat → Option Slot := fun i => if i = k then o else st i
theorem upd_same (st : Nat → Option Slot) (k : Nat) (o : Option Slot) : upd st k o k = o := by simp [upd]
theorem upd_other (st : Nat → Option Slot) {k i : Nat} (o : Option Slot) (h : i ≠ k) : upd st k o i = st i := by simp [upd, h]
theorem slots_upd (st : Nat → Option Slot) (k : Nat) (o : Option Slot) (hk : k < 4) : slots (upd st k o) = (slots st).set k (slotR o) := by
  apply List.ext_getElem?
  intro j
  rw [List.getElem?_set]
  by_cases e : k = j
  · subst e
    rw [if_pos rfl, if_pos (by rw [slots_len]; omega), slots_get _ hk, upd_same]
  · rw [if_neg e]
    by_cases hj : j < 4
    · rw [slots_get _ hj, slots_get _ hj, upd_other _ _ (fun h => e h.symm)]
    · rw [List.getElem?_eq_none (by rw [slots_len]; omega), List.getElem?_eq_none (by rw [slots_len]; omega)]
/-- What the map of the open fields tells. -/
def mapF (st : Nat → Option Slot) : Lit → Option Nat
  | .int .i64 k => if 0 ≤ k then (st k.toNat).map Slot.a else none
  | _ => none
theorem mapF_nat (st : Nat → Option Slot) (k : Nat) : mapF st (.int .i64 (k : Int)) = (st k).map Slot.a := by simp [mapF]
theorem mapF_neg (st : Nat → Option Slot) (k : Int) (h : k < 0) : mapF st (.int .i64 k) = none := by simp only [mapF]; rw [if_neg (by omega)]
theorem mapF_upd (st : Nat → Option Slot) (k : Nat) (o : Option Slot) (kl : Lit) : updO (mapF st) (.int .i64 (k : Int)) (o.map Slot.a) kl = mapF (upd st k o) kl := by
  by_cases e : kl = .int .i64 (k : Int)
  · subst e
    rw [updO_same, mapF_nat, upd_same]
  · rw [updO_other _ _ e]
    unfold mapF
    split
    · rename_i j
      split
      · rw [upd_other]
        intro h
        apply e
        rw [← h]
        simp only [Lit.int.injEq, true_and]
        omega
      · rfl
    · rfl
def one (o : Option Slot) : Nat := if o.isSome then 1 else 0
/-- How many are open. -/
def cnt (st : Nat → Option Slot) : Nat := one (st 0) + one (st 1) + one (st 2) + one (st 3)
theorem cnt_le (st : Nat → Option Slot) : cnt st ≤ 4 := by
  have h : ∀ o : Option Slot, one o ≤ 1 := fun o => by unfold one; split <;> omega
  have := h (st 0); have := h (st 1); have := h (st 2); have := h (st 3)
  unfold cnt; omega
theorem cnt_put (st : Nat → Option Slot) (k : Nat) (hk : k < 4) (x : Slot) : cnt (upd st k (some x)) = if (mapF st (.int .i64 (k : Int))).isSome then cnt st else cnt st + 1 := by
  rw [mapF_nat, Option.isSome_map]
  match k, hk with
  | 0, _ | 1, _ | 2, _ | 3, _ => simp [cnt, upd, one]; split <;> simp_all <;> omega
theorem cnt_cut (st : Nat → Option Slot) (k : Nat) (hk : k < 4) : cnt (upd st k none) = if (mapF st (.int .i64 (k : Int))).isSome then cnt st - 1 else cnt st := by
  rw [mapF_nat, Option.isSome_map]
  match k, hk with
  | 0, _ | 1, _ | 2, _ | 3, _ => simp [cnt, upd, one]; split <;> simp_all <;> omega
abbrev setB (s gp mb : Nat) (V : Int) : Res := Blk s #[.pointer (some ⟨gp, 0, none⟩), .map (some mb), .int .i64 V] 99
abbrev mapB (mb : Nat) (st : Nat → Option Slot) : Res := MapR Tryd.prog 3 ptrE mb (cnt st) (mapF st)
/-- A set, before other things. -/
abbrev setL (s gp mb : Nat) (G : Gr) (V : Int) (st : Nat → Option Slot) (L : List Res) : List Res := setB s gp mb V :: gndR 92 gp G :: mapB mb st :: (slots st ++ L)
/-- What holds of a set. -/
structure SOk (G : Gr) (V : Int) (st : Nat → Option Slot) : Prop where
  ok : G.Ok
  lo : 0 ≤ V
  few : ∀ k x, st k = some x → k < 4
  fok : ∀ k x, st k = some x → FOk x.G x.gl x.c
  now : ∀ k x, st k = some x → x.v = V → x.G = G
  old : ∀ k x, st k = some x → x.v ≤ V
  len : ∀ k x, st k = some x → x.G.fs.length = G.fs.length
section
variable {w0 w : World} {L : List Res} {s gp mb : Nat} {G : Gr} {V : Int} {st : Nat → Option Slot}
theorem SOk.new (hG : G.Ok) : SOk G 0 (fun _ => none) := ⟨hG, Int.le_refl _, by simp, by simp, by simp, by simp, by simp⟩
theorem SOk.put (h : SOk G V st) {k : Nat} (hk : k < 4) {x : Slot} (hx : FOk x.G x.gl x.c) (hv : x.v = V) (hg : x.G = G) : SOk G V (upd st k (some x)) := by
  have hc : ∀ i y, upd st k (some x) i = some y → (i = k ∧ y = x) ∨ st i = some y := by
    intro i y h
    by_cases e : i = k
    · subst e
      rw [upd_same] at h
      exact .inl ⟨rfl, (Option.some.inj h).symm⟩
    · rw [upd_other _ _ e] at h
      exact .inr h
  refine ⟨h.ok, h.lo, fun i y hy => ?_, fun i y hy => ?_, fun i y hy => ?_, fun i y hy => ?_, fun i y hy => ?_⟩
  · rcases hc i y hy with ⟨rfl, rfl⟩ | hy
    · exact hk
    · exact h.few i y hy
  · rcases hc i y hy with ⟨rfl, rfl⟩ | hy
    · exact hx
    · exact h.fok i y hy
  · rcases hc i y hy with ⟨rfl, rfl⟩ | hy
    · exact fun _ => hg
    · exact h.now i y hy
  · rcases hc i y hy with ⟨rfl, rfl⟩ | hy
    · omega
    · exact h.old i y hy
  · rcases hc i y hy with ⟨rfl, rfl⟩ | hy
    · rw [hg]
    · exact h.len i y hy
theorem SOk.cut (h : SOk G V st) (k : Nat) : SOk G V (upd st k none) := by
  have hc : ∀ i y, upd st k none i = some y → st i = some y := by
    intro i y h
    by_cases e : i = k
    · subst e
      rw [upd_same] at h
      cases h
    · rw [upd_other _ _ e] at h
      exact h
  exact ⟨h.ok, h.lo, fun i y hy => h.few i y (hc i y hy), fun i y hy => h.fok i y (hc i y hy), fun i y hy => h.now i y (hc i y hy), fun i y hy => h.old i y (hc i y hy), fun i y hy => h.len i y (hc i y hy)⟩
theorem slotFirst {A B C : Res} {k : Nat} (hk : k < 4) (Y : Star w0 w (A :: B :: C :: (slots st ++ L))) : Star w0 w (slotR (st k) :: A :: B :: C :: ((slots st).eraseIdx k ++ L)) := by
  refine Y.perm ?_
  have h := (perm_first (slots_get st hk)).append_right L
  refine (((h.cons C).cons B).cons A).trans ?_
  exact (List.perm_middle (l₁ := [A, B, C]))
theorem slotBack {A B C : Res} {k : Nat} (hk : k < 4) {o : Option Slot} (Y : Star w0 w (slotR o :: A :: B :: C :: ((slots st).eraseIdx k ++ L))) : Star w0 w (A :: B :: C :: (slots (upd st k o) ++ L)) := by
  refine Y.perm ?_
  rw [slots_upd _ _ _ hk]
  refine (List.perm_middle (l₁ := [A, B, C]) (a := slotR o) (l₂ := (slots st).eraseIdx k ++ L)).symm.trans ?_
  have h := (perm_back (l := slots st) (i := k) (r := slotR o) (by rw [slots_len]; omega)).append_right L
  exact ((h.cons C).cons B).cons A
/-- A slot is filled anew; what it held is forgotten. -/
theorem slotPut {A B C : Res} {k : Nat} (hk : k < 4) {o : Option Slot} (Y : Star w0 w (slotR o :: A :: B :: C :: (slots st ++ L))) : Star w0 w (A :: B :: C :: (slots (upd st k o) ++ L)) := by
  refine slotBack hk (Star.drop (R := slotR (st k)) (Y.perm ?_))
  have h := (perm_first (slots_get st hk)).append_right L
  refine ((((h.cons C).cons B).cons A).cons _).trans ?_
  exact (List.perm_middle (l₁ := [slotR o, A, B, C]))
/-- A thing behind a set goes ahead of it. -/
theorem setOut {R : Res} (Y : Star w0 w (setL s gp mb G V st (R :: L))) : Star w0 w (R :: setL s gp mb G V st L) :=
  Y.perm (List.perm_middle (l₁ := setB s gp mb V :: gndR 92 gp G :: mapB mb st :: slots st) (a := R) (l₂ := L))
theorem setIn {R : Res} (Y : Star w0 w (R :: setL s gp mb G V st L)) : Star w0 w (setL s gp mb G V st (R :: L)) :=
  Y.perm (List.perm_middle (l₁ := setB s gp mb V :: gndR 92 gp G :: mapB mb st :: slots st) (a := R) (l₂ := L)).symm
abbrev openL (x : Slot) (L : List Res) : List Res := Blk x.a (opC x.f x.g x.gl.length x.gc x.v) 103 :: fldR x.f x.G x.gl x.c :: numR x.g x.gl.length x.gc x.gl :: L
theorem slotOpen {x : Slot} (Y : Star w0 w (slotR (some x) :: L)) : Star w0 w (openL x L) := by
  have h := (show Star w0 w (sepR (Blk x.a (opC x.f x.g x.gl.length x.gc x.v) 103) (sepR (fldR x.f x.G x.gl x.c) (numR x.g x.gl.length x.gc x.gl)) :: L) from Y).open_sep
  exact ((h.swap.open_sep).pull 2 rfl)
theorem slotShut {x : Slot} (Y : Star w0 w (openL x L)) : Star w0 w (slotR (some x) :: L) := by
  have h : Star w0 w (fldR x.f x.G x.gl x.c :: numR x.g x.gl.length x.gc x.gl :: Blk x.a (opC x.f x.g x.gl.length x.gc x.v) 103 :: L) := (Y.pull 2 rfl).pull 2 rfl
  exact (h.close_sep.swap).close_sep
theorem slotNone (Y : Star w0 w (slotR none :: L)) : Star w0 w L := Y.open_fact.2
end
end Go.Proofs.YtilobedihjkpjaaDoor.Fs
namespace Go.Proofs.YtilobedihjkpjaaDoor.Fs
open Go Go.RowKit Go.Maps Go.Proofs.YtilobedihjkpjaaDoor.Err Go.Proofs.YtilobedihjkpjaaDoor.Steps Go.Proofs.YtilobedihjkpjaaDoor.Ord Go.Proofs.YtilobedihjkpjaaDoor.Route Go.Proofs.YtilobedihjkpjaaDoor.Fld
theorem keyed : Maps.Keyed Tryd.prog 3 := Maps.int_keyed Tryd.underlying3
theorem keyI (k : Int) (h1 : -9223372036854775808 ≤ k) (h2 : k ≤ 9223372036854775807) : keyOf Tryd.prog 3 (.int .i64 k) = some (.int .i64 k) := keyOf_int_mk Tryd.underlying3 (by
  have e1 : IntKind.i64.min = -9223372036854775808 := rfl
  have e2 : IntKind.i64.max = 9223372036854775807 := rfl
  simp only [Lit.wf, Bool.and_eq_true, decide_eq_true_eq]
  omega)
theorem zeroP (w : World) : (zeroValue 100).run Tryd.prog w = .ok (.pointer none) w := by kernel_rfl
section
variable {w0 w : World} {L : List Res} {s gp mb p pg pc : Nat} {G : Gr} {V : Int} {st : Nat → Option Slot}
set_option maxRecDepth 100000 in
set_option maxHeartbeats 4000000 in
theorem new_any (hG : Gnd 92 w p pg pc G) :
    Calls Tryd.prog 23 #[.pointer (some ⟨p, 0, none⟩)] w fun r w' => ∃ s gp mb, r = .returned (.pointer (some ⟨s, 0, none⟩)) ∧ Star w w' (setL s gp mb G 0 (fun _ => none) []) := by
  have HG := hid hG
  have hmm := @run_makeMap Tryd.prog
  clear hG
  go_enter Tryd.func23, Tryd.ntmps23
  go_wp2_with fail
  refine (clone_gnd HG.out).mono ?_
  rintro r w1 ⟨gp, rfl, hX1⟩
  have X2 := hid ((hX1.mapNew Tryd.prog 3 ptrE).alloc #[.pointer (some ⟨gp, 0, none⟩), .map (some w1.heap.size), .int .i64 0] 99)
  clear hX1
  go_wp2
  go_ret
  refine ⟨w1.heap.size + 1, gp, w1.heap.size, rfl, ?_⟩
  have h3 : Star w _ (setB (w1.heap.size + 1) gp w1.heap.size 0 :: mapB w1.heap.size (fun _ => none) :: gndR 92 gp G :: []) := ((show (w1.alloc (.map #[] 0)).heap.size = w1.heap.size + 1 by simp) ▸ X2.out).set 1 rfl (fun F h => ⟨h.1.congr (fun kl => by
    unfold mapF
    split
    · split <;> rfl
    · rfl), h.2⟩)
  have h4 := ((Star.close_fact trivial (Star.close_fact trivial (Star.close_fact trivial (Star.close_fact (p := True) trivial h3)))).pull 5 rfl).pull 6 rfl
  exact h4.pull 6 rfl
set_option maxRecDepth 100000 in
set_option maxHeartbeats 4000000 in
/-- Close of a field that isn't open. -/
theorem close_no (X : Star w0 w (setL s gp mb G V st L)) (n : Int) (h1 : -9223372036854775808 ≤ n) (h2 : n ≤ 9223372036854775807) (hn : mapF st (.int .i64 n) = none) (e : Value) (he : w0.cell? ⟨3, 0, none⟩ = some e) :
    Calls Tryd.prog 40 #[.pointer (some ⟨s, 0, none⟩), .int .i64 n] w fun r w' => r = .returned e ∧ w = w' := by
  have hb := (X.blk 0 rfl).1
  have d1 := cell_of hb 1
  have dl := lt_of hb
  simp only [List.getElem?_toArray, List.getElem?_cons_zero, List.getElem?_cons_succ] at d1
  have M := hid (X.map 2 rfl).1
  have KY := hid (keyI n h1 h2)
  have HN := hid hn
  have hE := X.same.keep he
  have hEl := World.block_lt_of_cell? _ _ hE
  clear X hb he hn
  go_enter Tryd.func40, Tryd.ntmps40
  go_wp2_with (at_lookup; refine wpList_lookOk rfl _ _ rfl keyed Tryd.underlying97 (.pointer none) zeroP rfl M.out (.int .i64 n) (.int .i64 n) rfl KY.out (.pointer none) false (by rw [HN.out]; rfl) (by rw [HN.out]; rfl) ?_)
  go_ret
  exact ⟨rfl, rfl⟩
set_option maxRecDepth 100000 in
set_option maxHeartbeats 4000000 in
/-- .. of one that is. -/
theorem close_yes (X : Star w0 w (setL s gp mb G V st L)) (k : Nat) (hk : k < 4) (x : Slot) (hx : st k = some x) :
    Calls Tryd.prog 40 #[.pointer (some ⟨s, 0, none⟩), .int .i64 k] w fun r w' => r = .returned .nilIface ∧ Star w0 w' (setL s gp mb G V (upd st k none) L) := by
  have hb := (X.blk 0 rfl).1
  have d1 := cell_of hb 1
  have dl := lt_of hb
  simp only [List.getElem?_toArray, List.getElem?_cons_zero, List.getElem?_cons_succ] at d1
  have M := hid (X.map 2 rfl).1
  have KY := hid (keyI k (by omega) (by omega))
  have HN := hid (show mapF st (.int .i64 (k : Int)) = some x.a by rw [mapF_nat, hx]; rfl)
  have X0 := hid X
  have hne : ¬ s = mb := by
    obtain ⟨F, F', h1, h2, h3⟩ := X.apart 0 2 rfl rfl (by omega)
    rintro rfl
    exact h3 s (by rw [h1.2]) (by rw [h2.2])
  have HNE := hid hne
  have HK := hid hk
  clear X hb hx hne
  go_enter Tryd.func40, Tryd.ntmps40
  go_wp2_with (first
    | (at_lookup; refine wpList_lookOk rfl _ _ rfl keyed Tryd.underlying97 (.pointer none) zeroP rfl M.out (.int .i64 k) (.int .i64 k) rfl KY.out (.pointer (some ⟨x.a, 0, none⟩)) true (by rw [HN.out]; rfl) (by rw [HN.out]; rfl) ?_)
    | (at_delete; refine wpList_delO rfl _ _ rfl keyed Tryd.underlying97 rfl M.out (.int .i64 k) (.int .i64 k) rfl KY.out ?_; intro w5 n5 hn5 hM5 hC5; have X5 := hid (X0.out.mapSet 2 rfl hM5 hC5); have HN5 := hid hn5; clear hM5 hC5 hn5 d1 dl M X0))
  go_ret
  refine ⟨rfl, ?_⟩
  have h1 : Star w0 _ (setB s gp mb V :: gndR 92 gp G :: mapB mb (upd st k none) :: (slots st ++ L)) := X5.out.set 2 rfl (fun F h => by
    refine ⟨?_, h.2⟩
    have h3 := h.1.congr (mapF_upd st k none)
    rw [HN5.out, ← cnt_cut st k HK.out] at h3
    exact h3)
  have h2 := slotFirst HK.out h1
  exact slotBack HK.out (Star.close_fact trivial h2.drop)
end
end Go.Proofs.YtilobedihjkpjaaDoor.Fs
