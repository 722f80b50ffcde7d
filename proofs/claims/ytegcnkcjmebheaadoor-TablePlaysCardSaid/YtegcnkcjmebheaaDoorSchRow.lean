/-
  Package schema: Right, Mask.
-/
import Derived.Test.YtegcnkcjmebheaaDoorSchema
namespace Go.Proofs.YtegcnkcjmebheaaDoor.Tab
open Go Go.RowKit Go.Proofs.YtegcnkcjmebheaaDoor.Mask

theorem chk_cases (v : Vl) : chkN v = 0 ∨ chkN v = 1 ∨ chkN v = 5 := by
  unfold chkN
  split
  · split
    · exact .inl rfl
    · exact .inr (.inl rfl)
  · exact .inr (.inr rfl)
theorem check_ok (v : Vl) (h : chkN v = 0) (w : World) (ad : Nat → Addr) (hE : Err.ErrsT w ad) : Calls Tryd.prog 47 #[vV v] w fun r w' => r = .returned .nilIface ∧ Same w w' := by
  have := check_any v w ad hE
  rw [h] at this
  exact this
theorem check_bad (v : Vl) (h : chkN v ≠ 0) (w : World) (ad : Nat → Addr) (hE : Err.ErrsT w ad) : Calls Tryd.prog 47 #[vV v] w fun r w' => (∃ u, r = .returned (.iface 143 (.pointer (some u)))) ∧ Same w w' := by
  have := check_any v w ad hE
  rcases chk_cases v with e | e | e
  · exact absurd e h
  · rw [e] at this; exact this.mono fun r w' ⟨h1, h2⟩ => ⟨⟨_, h1⟩, h2⟩
  · rw [e] at this; exact this.mono fun r w' ⟨h1, h2⟩ => ⟨⟨_, h1⟩, h2⟩

/-- The first k components are right and rising. -/
def RightTo (vs : List Vl) (k : Nat) : Prop := (∀ i v, i < k → vs[i]? = some v → chkN v = 0) ∧ ∀ i u v, i + 1 < k → vs[i]? = some u → vs[i + 1]? = some v → u.k < v.k
def Right (vs : List Vl) : Prop := RightTo vs vs.length
theorem RightTo.nil (vs : List Vl) : RightTo vs 0 := ⟨fun i v h => by omega, fun i u v h => by omega⟩
theorem RightTo.step {vs : List Vl} {k : Nat} {v : Vl} (h : RightTo vs k) (hv : vs[k]? = some v) (h0 : chkN v = 0) (h1 : ∀ i u, k = i + 1 → vs[i]? = some u → u.k < v.k) : RightTo vs (k + 1) := by
  refine ⟨fun i x hi hx => ?_, fun i x y hi hx hy => ?_⟩
  · by_cases e : i = k
    · subst e; rw [hv] at hx; cases hx; exact h0
    · exact h.1 i x (by omega) hx
  · by_cases e : i + 1 = k
    · rw [e, hv] at hy; cases hy; exact h1 i x e.symm hx
    · exact h.2 i x y (by omega) hx hy
/-- What Right answers. -/
def RightA (vs : List Vl) (w w' : World) (r : Ending) : Prop := ∃ B : Bool, r = .returned (.bool B) ∧ (B = true ↔ Right vs) ∧ Same w w'
theorem RightA.no {vs : List Vl} {w w' : World} (h : ¬ Right vs) (hs : Same w w') : RightA vs w w' (.returned (.bool false)) := ⟨false, rfl, by simp [h], hs⟩
theorem RightA.yes {vs : List Vl} {w w' : World} (h : Right vs) (hs : Same w w') : RightA vs w w' (.returned (.bool true)) := ⟨true, rfl, by simp [h], hs⟩

set_option maxRecDepth 100000 in
set_option maxHeartbeats 4000000 in
theorem right_row (vs : List Vl) (v : Value) (w : World) (hr : Reads w v vs.length 3 (vs.flatMap vc)) (hn : vs.length ≤ 1000000) (ad : Nat → Addr) (hE : Err.ErrsT w ad) :
    Calls Tryd.prog 36 #[v] w fun r w' => RightA vs w w' r := by
  obtain ⟨a, c, rfl⟩ := hr.slice
  have HR := hid hr
  have HE := hid hE
  obtain ⟨n, hnn⟩ : ∃ n, n = vs.length := ⟨_, rfl⟩
  rw [← hnn] at hn HR ⊢
  have HN := hid hnn
  clear hr hE hnn
  go_enter Tryd.func36, Tryd.ntmps36
  go_wp2
  go_loopw [3, 7] (fun _ iv wr => ∃ k : Nat, k ≤ n ∧ iv = .int .i64 k ∧ RightTo vs k ∧ Same w wr) (fun _ iv _ => n - (intOf iv).toNat)
  case atStart => exact ⟨0, by omega, rfl, RightTo.nil vs, Chg.refl _⟩
  case round =>
    obtain ⟨k, hk, rfl, hrt, hs⟩ := hrel
    have RT := hid hrt
    have S := hid hs
    clear hrt hs
    by_cases hkn : k < n
    · obtain ⟨x, hx⟩ : ∃ x, vs[k]? = some x := ⟨_, List.getElem?_eq_getElem (by have := HN.out; omega)⟩
      obtain ⟨b, off, cap, e1, hb, hcl⟩ := HR.out.open (by omega)
      cases e1
      have g0 := S.out.keep (hcl (k * 3 + 0) _ ((rows_get vc vc_len vs k 0 x hx (by omega)).trans rfl))
      have g1 := S.out.keep (hcl (k * 3 + 1) _ ((rows_get vc vc_len vs k 1 x hx (by omega)).trans rfl))
      have g2 := S.out.keep (hcl (k * 3 + 2) _ ((rows_get vc vc_len vs k 2 x hx (by omega)).trans rfl))
      rw [Nat.add_zero] at g0
      rw [← Nat.add_assoc] at g1 g2
      have HX := hid hx
      have HCL := hid hcl
      clear hx hcl
      obtain ⟨vk, va, vb⟩ := x
      have S1 := hid (S.out.alloc (.cells #[.int .i64 vk, .int .i64 va, .int .i64 vb] 37))
      go_wp2_with fail
      clear g0 g1 g2
      have hq := alloc_new wr (.cells #[.int .i64 vk, .int .i64 va, .int .i64 vb] 37)
      have q0 : (wr.alloc (.cells #[.int .i64 vk, .int .i64 va, .int .i64 vb] 37)).cell? ⟨wr.heap.size, 0, none⟩ = some (.int .i64 vk) := cell_of hq 0
      have q1 : (wr.alloc (.cells #[.int .i64 vk, .int .i64 va, .int .i64 vb] 37)).cell? ⟨wr.heap.size, 1, none⟩ = some (.int .i64 va) := cell_of hq 1
      have q2 : (wr.alloc (.cells #[.int .i64 vk, .int .i64 va, .int .i64 vb] 37)).cell? ⟨wr.heap.size, 2, none⟩ = some (.int .i64 vb) := cell_of hq 2
      have ql := lt_of hq
      clear hq
      generalize wr.alloc _ = w1 at *
      generalize wr.heap.size = q at *
      have c0 := SameW.cell q0
      have c1 := SameW.cell q1
      have c2 := SameW.cell q2
      by_cases hc : chkN ⟨vk, va, vb⟩ = 0
      · have CK : Hid (∀ n : SameW w1, Calls Tryd.prog 47 #[vV ⟨vk, va, vb⟩] n.w fun r w' => r = .returned .nilIface ∧ Same n.w w') := hid (fun n => check_ok _ hc _ ad (HE.out.same (S1.out.trans n.same (fun _ _ f => f))))
        have HC := hid hc
        clear hc
        cases k with
        | zero =>
          have z2 : ((0 : Int) < 0) = False := by simp
          refine wp_region_same (by kernel_rfl) (by kernel_rfl) ?_
          repeat (go_big_quiet_step (first | (go_at_call 47; with_reducible exact Calls.same_of (CK.out _))))
          with_reducible refine wpQuiet_nil ?_
          intro w8 hw8
          obtain ⟨m8, rfl⟩ := hw8
          have S2 := hid (S1.out.trans m8.same (fun _ _ f => f))
          go_wp2
          go_roundw
          case rel => exact ⟨0 + 1, by omega, by go_num, RT.out.step HX.out HC.out (fun i u h => by omega), S2.out⟩
          case measure => simp [intOf]; omega
        | succ i =>
          obtain ⟨u, hu⟩ : ∃ u, vs[i]? = some u := ⟨_, List.getElem?_eq_getElem (by have := HN.out; omega)⟩
          have u0 := (HCL.out (i * 3 + 0) _ ((rows_get vc vc_len vs i 0 u hu (by omega)).trans rfl))
          rw [Nat.add_zero] at u0
          have u1 := SameW.cell (S1.out.keep u0)
          have HU := hid hu
          clear u0 hu
          obtain ⟨uk, ua, ub⟩ := u
          have z1 : (0 < ((i + 1 : Nat) : Int)) = True := eq_true (by omega)
          have z2 : (0 < (i : Int) + 1) = True := eq_true (by omega)
          have z3 : IntKind.i64.wrap ((i : Int) + 1 - 1) = (i : Int) := by rw [show (i : Int) + 1 - 1 = i by omega]; exact IntWalk.i64_in _ (by omega)
          have z4 : (0 : Int) ≤ i := by omega
          have z5 : (i : Int) < n := by omega
          by_cases hlt : uk < vk
          · have hge : (vk ≤ uk) = False := eq_false (by omega)
            refine wp_region_same (by kernel_rfl) (by kernel_rfl) ?_
            repeat (go_big_quiet_step (first | (go_at_call 47; with_reducible exact Calls.same_of (CK.out _))))
            with_reducible refine wpQuiet_nil ?_
            intro w8 hw8
            obtain ⟨m8, rfl⟩ := hw8
            have S2 := hid (S1.out.trans m8.same (fun _ _ f => f))
            go_wp2
            go_roundw
            case rel => exact ⟨i + 1 + 1, by omega, by go_num, RT.out.step HX.out HC.out (fun i' u' h hu' => by have e : i' = i := (by omega); rw [e, HU.out] at hu'; cases hu'; exact hlt), S2.out⟩
            case measure => simp [intOf]; omega
          · have hge : (vk ≤ uk) = True := eq_true (by omega)
            refine wp_region_same (by kernel_rfl) (by kernel_rfl) ?_
            repeat (go_big_quiet_step (first | (go_at_call 47; with_reducible exact Calls.same_of (CK.out _))))
            with_reducible refine wpQuiet_nil ?_
            intro w8 hw8
            obtain ⟨m8, rfl⟩ := hw8
            have S2 := hid (S1.out.trans m8.same (fun _ _ f => f))
            go_wp2
            go_ret
            refine RightA.no (fun h => ?_) S2.out
            have := h.2 i _ _ (by rw [← HN.out]; omega) HU.out HX.out
            simp only at this
            omega
      · obtain ⟨u, hcu⟩ : ∃ u, ∀ n : SameW w1, Calls Tryd.prog 47 #[vV ⟨vk, va, vb⟩] n.w fun r w' => r = .returned (.iface 143 (.pointer (some u))) ∧ Same n.w w' := by
          have hh := fun n : SameW w1 => check_any ⟨vk, va, vb⟩ n.w ad (HE.out.same (S1.out.trans n.same (fun _ _ f => f)))
          rcases chk_cases ⟨vk, va, vb⟩ with e | e | e
          · exact absurd e hc
          · exact ⟨_, fun n => by have := hh n; rw [e] at this; exact this⟩
          · exact ⟨_, fun n => by have := hh n; rw [e] at this; exact this⟩
        have CK := hid hcu
        have HC := hid hc
        clear hc hcu
        refine wp_region_same (by kernel_rfl) (by kernel_rfl) ?_
        repeat (go_big_quiet_step (first | (go_at_call 47; with_reducible exact Calls.same_of (CK.out _))))
        with_reducible refine wpQuiet_nil ?_
        intro w8 hw8
        obtain ⟨m8, rfl⟩ := hw8
        have S2 := hid (S1.out.trans m8.same (fun _ _ f => f))
        go_wp2
        go_ret
        exact RightA.no (fun h => HC.out (h.1 k _ (by rw [← HN.out]; exact hkn) HX.out)) S2.out
    · go_wp2
      go_ret
      exact RightA.yes (by have h := RT.out; rwa [show k = vs.length by have := HN.out; omega] at h) S.out

/-- The mask of a row's kinds. -/
def rowMask (vs : List Vl) : Nat := Mask.maskOf (vs.map (·.k))
set_option maxRecDepth 100000 in
set_option maxHeartbeats 4000000 in
theorem mask_row (vs : List Vl) (hv : Right vs) (v : Value) (w : World) (hr : Reads w v vs.length 3 (vs.flatMap vc)) (hn : vs.length ≤ 1000000) (ad : Nat → Addr) (hE : Err.ErrsT w ad) :
    Calls Tryd.prog 37 #[v] w fun r w' => r = .returned (mk (rowMask vs)) ∧ Same w w' := by
  obtain ⟨a, c, rfl⟩ := hr.slice
  have HR := hid hr
  have HE := hid hE
  have HV := hid hv
  obtain ⟨n, hnn⟩ : ∃ n, n = vs.length := ⟨_, rfl⟩
  rw [← hnn] at hn HR ⊢
  have HN := hid hnn
  clear hr hE hnn hv
  go_enter Tryd.func37, Tryd.ntmps37
  go_wp2
  go_loopw [3, 10] (fun mv iv wr => ∃ k : Nat, k ≤ n ∧ iv = .int .i64 k ∧ mv = mk (rowMask (vs.take k)) ∧ Same w wr) (fun _ iv _ => n - (intOf iv).toNat)
  case atStart => exact ⟨0, by omega, rfl, rfl, Chg.refl _⟩
  case round =>
    obtain ⟨k, hk, rfl, rfl, hs⟩ := hrel
    have S := hid hs
    clear hs
    by_cases hkn : k < n
    · obtain ⟨x, hx⟩ : ∃ x, vs[k]? = some x := ⟨_, List.getElem?_eq_getElem (by have := HN.out; omega)⟩
      obtain ⟨b, off, cap, e1, hb, hcl⟩ := HR.out.open (by omega)
      cases e1
      have g0 := S.out.keep (hcl (k * 3 + 0) _ ((rows_get vc vc_len vs k 0 x hx (by omega)).trans rfl))
      have g1 := S.out.keep (hcl (k * 3 + 1) _ ((rows_get vc vc_len vs k 1 x hx (by omega)).trans rfl))
      have g2 := S.out.keep (hcl (k * 3 + 2) _ ((rows_get vc vc_len vs k 2 x hx (by omega)).trans rfl))
      rw [Nat.add_zero] at g0
      rw [← Nat.add_assoc] at g1 g2
      have hkx := HV.out.1 k x (by rw [← HN.out]; exact hkn) hx
      have hok : okKind x.k = true := by
        cases h : okKind x.k with
        | true => rfl
        | false => rw [chk_kind h] at hkx; cases hkx
      have hall : okAll [x.k] = true := by simp [okAll, hok]
      have hst : rowMask (vs.take (k + 1)) = rowMask (vs.take k) ||| Mask.maskOf [x.k] := by
        obtain ⟨hl, rfl⟩ := List.getElem?_eq_some_iff.1 hx
        rw [List.take_succ_eq_append_getElem hl]
        unfold rowMask
        rw [List.map_append, List.map_singleton, Mask.maskOf_app]
        simp [Mask.maskOf]
      have hm : rowMask (vs.take k) ≤ Mask.top := by
        unfold rowMask
        have h1 : okAll ((vs.take k).map (·.k)) = true := by
          unfold okAll
          rw [List.all_eq_true]
          intro y hy
          obtain ⟨z, hz, rfl⟩ := List.mem_map.1 hy
          obtain ⟨i, hi⟩ := List.getElem?_of_mem hz
          have hik : i < k := by have := (List.getElem?_eq_some_iff.1 hi).1; rw [List.length_take] at this; omega
          rw [List.getElem?_take_of_lt hik] at hi
          have h0 := HV.out.1 i z (by rw [← HN.out]; omega) hi
          cases h : okKind z.k with
          | true => rfl
          | false => rw [chk_kind h] at h0; cases h0
        have := Mask.maskOf_lt _ h1
        show _ ≤ 18446744073709551615
        omega
      have ST := hid hst
      have HA := hid hall
      clear hx hcl hkx hok hst hall
      generalize rowMask (vs.take k) = M at *
      obtain ⟨vk, va, vb⟩ := x
      have S1 : Hid (Same w ((wr.alloc (.cells #[.int .i64 vk, .int .i64 va, .int .i64 vb] 37)).alloc (.cells #[.int .i64 vk] 3))) := hid ((S.out.alloc _).alloc _)
      have WA := hid (with_any M hm _ [vk] _ (reads_blk (cs := #[.int .i64 vk]) (E := 3) (f := (0, 0)) (alloc2_new wr (.cells #[.int .i64 vk, .int .i64 va, .int .i64 vb] 37) (.cells #[.int .i64 vk] 3)) 1 1 1 rfl) (by simp) _ _ (HE.out.same S1.out).c4)
      have hch := chR_yes (xs := [vk]) (M ||| Mask.maskOf [vk]) (.iface 143 (.pointer (some (ad 4)))) HA.out
      rw [hch] at WA
      clear hch
      go_wp2_with fail
      refine WA.out.mono ?_
      rintro r w2 ⟨rfl, hs2⟩
      have S2 := hid (S1.out.trans hs2 (fun _ _ f => f))
      clear hs2 S1 WA g0 g1 g2
      go_wp2
      go_roundw
      case rel => exact ⟨k + 1, by omega, by go_num, by rw [ST.out], S2.out⟩
      case measure => simp [intOf]; omega
    · go_wp2
      go_ret
      exact ⟨by rw [List.take_of_length_le (by rw [← HN.out]; omega)]; rfl, S.out⟩
end Go.Proofs.YtegcnkcjmebheaaDoor.Tab
