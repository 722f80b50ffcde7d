/-
  errors.Is on the program's errors, and paddocknum.Num: each by its contract.
-/
import Derived.Test.YtegcnkcjmebheaaDoorProg
import Derived.Test.YtegcnkcjmebheaaDoorLib
import Derived.LaidEql
import Derived.Stop.Asserts
import Derived.RowKitTokens
namespace Go.Proofs.YtegcnkcjmebheaaDoor.Err
open Go Go.RowKit Go.Extern.Stop Go.Stop Go.Extern

theorem isTypeOf (v : Value) (w : World) : (Extern.ReflectliteType.typeOf #[.iface 143 v]).run Tryd.prog w = .ok (.iface 132 (.agg #[.pointer (some ⟨11, 143, none⟩)])) w := by kernel_rfl
/-- What the model does for the method Comparable. -/
def cmpE : Array Value → Sem Value := Extern.ReflectliteType.method fun t => do Extern.Rtype.noPackHeld "Comparable" t; pure (.bool (← typeInfo t).comparable)
theorem isComparable (w : World) : (cmpE #[.agg #[.pointer (some ⟨11, 143, none⟩)]]).run Tryd.prog w = .ok (.bool true) w := by kernel_rfl
theorem isMethodComparable (v : Value) (w : World) : (Go.method 281 132 v "Comparable").run Tryd.prog w = .ok (91, v) w := by kernel_rfl
theorem isComp : (Tryd.prog.info? 143).map (·.comparable) = some true := by kernel_rfl
theorem isSize : (Tryd.prog.info? 169).map (·.size) = some 1 := by kernel_rfl
theorem noIsE (v : Value) (xT : TypeId) (w : World) : (Instr.typeAssert (.iface 143 v) xT 134 true).run Tryd.prog w = .ok (.tuple #[.nilIface, .bool false]) w := run_typeAssert_lacksB Tryd.underlying134 (by kernel_rfl) (by kernel_rfl) v xT w
theorem noUnwrapE (v : Value) (xT : TypeId) (w : World) : (Instr.typeAssert (.iface 143 v) xT 137 true).run Tryd.prog w = .ok (.tuple #[.nilIface, .bool false]) w := run_typeAssert_lacksB Tryd.underlying137 (by kernel_rfl) (by kernel_rfl) v xT w
theorem noUnwrapsE (v : Value) (xT : TypeId) (w : World) : (Instr.typeAssert (.iface 143 v) xT 139 true).run Tryd.prog w = .ok (.tuple #[.nilIface, .bool false]) w := run_typeAssert_lacksB Tryd.underlying139 (by kernel_rfl) (by kernel_rfl) v xT w

set_option maxRecDepth 100000 in
theorem is_same (a : Addr) (w : World) :
    Calls Tryd.prog 50 #[.iface 143 (.pointer (some a)), .iface 143 (.pointer (some a))] w fun e w' => e = .returned (.bool true) ∧ w = w' := by
  obtain ⟨i, hi, hcmp⟩ := Option.map_eq_some_iff.1 isComp
  obtain ⟨j, hj, hjs⟩ := Option.map_eq_some_iff.1 isSize
  have h8 := @run_callFunc_extern Tryd.prog 60 _ Extern.ReflectliteType.typeOf Tryd.func60 (by kernel_rfl) (by kernel_rfl) (by kernel_rfl) (by kernel_rfl)
  have h32 := @run_callFunc_extern Tryd.prog 91 _ cmpE Tryd.func91 (by kernel_rfl) (by kernel_rfl) (by kernel_rfl) (by kernel_rfl)
  have tT := isTypeOf
  have cT := isComparable
  have mR := isMethodComparable
  have heq := run_eql_iface_ptr_same (P := Tryd.prog) w a Tryd.underlying27 Tryd.underlying143 hi hcmp hj
  go_enter Tryd.func50, Tryd.ntmps50
  go_wp2
  refine wp_loop_rounds 1 ?_
  rw [rounds_succ]
  go_wp2
  go_ret
  exact ⟨rfl, rfl⟩

set_option maxRecDepth 100000 in
theorem is_other (a b : Addr) (ca cb : Array Value) (ta tb : TypeId) (w : World) (hne : a ≠ b) (ha : w.heap[a.block]? = some (.cells ca ta (0, 0))) (hb : w.heap[b.block]? = some (.cells cb tb (0, 0))) :
    Calls Tryd.prog 50 #[.iface 143 (.pointer (some a)), .iface 143 (.pointer (some b))] w fun e w' => e = .returned (.bool false) ∧ w = w' := by
  obtain ⟨i, hi, hcmp⟩ := Option.map_eq_some_iff.1 isComp
  obtain ⟨j, hj, hjs⟩ := Option.map_eq_some_iff.1 isSize
  have h8 := @run_callFunc_extern Tryd.prog 60 _ Extern.ReflectliteType.typeOf Tryd.func60 (by kernel_rfl) (by kernel_rfl) (by kernel_rfl) (by kernel_rfl)
  have h32 := @run_callFunc_extern Tryd.prog 91 _ cmpE Tryd.func91 (by kernel_rfl) (by kernel_rfl) (by kernel_rfl) (by kernel_rfl)
  have tT := isTypeOf
  have cT := isComparable
  have mR := isMethodComparable
  have nE := noIsE
  have uE := noUnwrapE
  have vE := noUnwrapsE
  have heq := run_eql_iface_ptr_other (P := Tryd.prog) w Tryd.underlying27 Tryd.underlying143 hi hcmp hj (by rw [hjs]; decide) hne ha hb
  go_enter Tryd.func50, Tryd.ntmps50
  go_wp2
  refine wp_loop_rounds 1 ?_
  rw [rounds_succ]
  go_wp2
  go_ret
  exact ⟨rfl, rfl⟩

/-- The ten errors: the k-th variable holds a pointer to ad k; these are ten different ones. -/
structure Errs (w : World) (ad : Nat → Addr) : Prop where
  c0 : w.cell? ⟨2, 0, none⟩ = some (.iface 143 (.pointer (some (ad 0))))
  c1 : w.cell? ⟨3, 0, none⟩ = some (.iface 143 (.pointer (some (ad 1))))
  c2 : w.cell? ⟨4, 0, none⟩ = some (.iface 143 (.pointer (some (ad 2))))
  c3 : w.cell? ⟨5, 0, none⟩ = some (.iface 143 (.pointer (some (ad 3))))
  c4 : w.cell? ⟨0, 0, none⟩ = some (.iface 143 (.pointer (some (ad 4))))
  c5 : w.cell? ⟨6, 0, none⟩ = some (.iface 143 (.pointer (some (ad 5))))
  c6 : w.cell? ⟨1, 0, none⟩ = some (.iface 143 (.pointer (some (ad 6))))
  c7 : w.cell? ⟨7, 0, none⟩ = some (.iface 143 (.pointer (some (ad 7))))
  c8 : w.cell? ⟨8, 0, none⟩ = some (.iface 143 (.pointer (some (ad 8))))
  c9 : w.cell? ⟨9, 0, none⟩ = some (.iface 143 (.pointer (some (ad 9))))
  blk : ∀ i, i < 10 → ∃ c t, w.heap[(ad i).block]? = some (.cells c t (0, 0))
  inj : ∀ i j, i < 10 → j < 10 → ad i = ad j → i = j

theorem Errs.same {w w' : World} {ad : Nat → Addr} (h : Errs w ad) (hs : Same w w') : Errs w' ad := by
  have k : ∀ {p : Addr} {v : Value}, w.cell? p = some v → w'.cell? p = some v := fun {p v} hc => (hs.cell (World.block_lt_of_cell? w p hc) (fun f => f)).trans hc
  exact ⟨k h.c0, k h.c1, k h.c2, k h.c3, k h.c4, k h.c5, k h.c6, k h.c7, k h.c8, k h.c9, fun i hi => let ⟨c, t, hb⟩ := h.blk i hi; ⟨c, t, hs.heap hb (fun f => f)⟩, h.inj⟩

/-- An error value: nil, or the k-th of the ten. -/
def errV (ad : Nat → Addr) : Nat → Value
  | 0 => .nilIface
  | k + 1 => .iface 143 (.pointer (some (ad k)))

set_option maxRecDepth 100000 in
theorem num_nil (w : World) : Calls Tryd.prog 20 #[.nilIface] w fun r w' => r = .returned (.int .i64 0) ∧ w = w' := by
  go_enter Tryd.func20, Tryd.ntmps20
  go_wp2
  go_ret
  exact ⟨rfl, rfl⟩

set_option maxRecDepth 100000 in
theorem num_err (ad : Nat → Addr) (m : Nat) (hm : m < 10) (w : World) (h : Errs w ad) : Calls Tryd.prog 20 #[.iface 143 (.pointer (some (ad m)))] w fun r w' => r = .returned (.int .i64 (m + 1)) ∧ Same w w' := by
  obtain ⟨c0, c1, c2, c3, c4, c5, c6, c7, c8, c9, hb, hinj⟩ := h
  have HB := hid hb
  have HI := hid hinj
  clear hb hinj
  go_enter Tryd.func20, Tryd.ntmps20
  go_wp2
  have hcs : ∀ k, k < 10 → (w.alloc (.cells #[.iface 143 (.pointer (some (ad 0))), .iface 143 (.pointer (some (ad 1))), .iface 143 (.pointer (some (ad 2))), .iface 143 (.pointer (some (ad 3))), .iface 143 (.pointer (some (ad 4))), .iface 143 (.pointer (some (ad 5))), .iface 143 (.pointer (some (ad 6))), .iface 143 (.pointer (some (ad 7))), .iface 143 (.pointer (some (ad 8))), .iface 143 (.pointer (some (ad 9)))] 27)).cell? ⟨w.heap.size, k, none⟩ = some (.iface 143 (.pointer (some (ad k)))) := by
    intro k hk
    rw [cell_of (alloc_new _ _)]
    rcases k with _ | _ | _ | _ | _ | _ | _ | _ | _ | _ | k
    all_goals first | rfl | omega
  have hblk : ∀ (o : Obj) i, i < 10 → ∃ c t, (w.alloc o).heap[(ad i).block]? = some (.cells c t (0, 0)) := fun o i hi => let ⟨c, t, h⟩ := HB.out i hi; ⟨c, t, alloc_old o h⟩
  have hsm : ∀ o : Obj, Same w (w.alloc o) := fun o => (Chg.refl w).alloc o
  have HC := hid hcs
  have HK := hid hblk
  have HS := hid hsm
  clear hcs hblk hsm c0 c1 c2 c3 c4 c5 c6 c7 c8 c9
  go_loop [21] (fun i => ∃ k : Nat, k ≤ m ∧ i = .int .i64 k) (fun i => m - (intOf i).toNat)
  case atStart => exact ⟨0, Nat.zero_le _, rfl⟩
  case round =>
    obtain ⟨k, hk, rfl⟩ := hrel
    have hk10 : k < 10 := by omega
    have g := HC.out k hk10
    by_cases hkm : k = m
    · subst hkm
      go_wp2_with (go_at_call 50; refine (is_same _ _).mono ?_; rintro e w' ⟨rfl, rfl⟩)
      go_ret
      exact ⟨rfl, HS.out _⟩
    · obtain ⟨ca, ta, ha⟩ := HK.out (.cells #[.iface 143 (.pointer (some (ad 0))), .iface 143 (.pointer (some (ad 1))), .iface 143 (.pointer (some (ad 2))), .iface 143 (.pointer (some (ad 3))), .iface 143 (.pointer (some (ad 4))), .iface 143 (.pointer (some (ad 5))), .iface 143 (.pointer (some (ad 6))), .iface 143 (.pointer (some (ad 7))), .iface 143 (.pointer (some (ad 8))), .iface 143 (.pointer (some (ad 9)))] 27) m hm
      obtain ⟨cb, tb, hb⟩ := HK.out (.cells #[.iface 143 (.pointer (some (ad 0))), .iface 143 (.pointer (some (ad 1))), .iface 143 (.pointer (some (ad 2))), .iface 143 (.pointer (some (ad 3))), .iface 143 (.pointer (some (ad 4))), .iface 143 (.pointer (some (ad 5))), .iface 143 (.pointer (some (ad 6))), .iface 143 (.pointer (some (ad 7))), .iface 143 (.pointer (some (ad 8))), .iface 143 (.pointer (some (ad 9)))] 27) k hk10
      have hne : ad m ≠ ad k := fun e => hkm (HI.out m k hm hk10 e).symm
      have HA := hid ha
      have HB' := hid hb
      have HN := hid hne
      clear ha hb hne
      go_wp2_with (go_at_call 50; refine (is_other _ _ _ _ _ _ _ HN.out HA.out HB'.out).mono ?_; rintro e w' ⟨rfl, rfl⟩)
      go_round
      case rel => exact ⟨k + 1, by omega, by go_num⟩
      case measure => simp [intOf]; omega
/-- The number of every error of the ten, and of none. -/
theorem num (ad : Nat → Addr) (k : Nat) (hk : k ≤ 10) (w : World) (h : Errs w ad) : Calls Tryd.prog 20 #[errV ad k] w fun r w' => r = .returned (.int .i64 k) ∧ Same w w' := by
  cases k with
  | zero => exact (num_nil w).mono fun r w' ⟨h1, h2⟩ => ⟨h1, h2 ▸ Chg.refl _⟩
  | succ m => exact (num_err ad m (by omega) w h).mono fun r w' ⟨h1, h2⟩ => ⟨by rw [h1]; rfl, h2⟩

end Go.Proofs.YtegcnkcjmebheaaDoor.Err
