/-
  paddockref03: Set and Number.
-/
import Derived.Test.YtkjecihiipjngaaDoorMasksKinds
namespace Go.Proofs.YtkjecihiipjngaaDoor.Mask
open Go Go.RowKit Go.Proofs.YtkjecihiipjngaaDoor.MasksKinds

/-- Two results, the first a long array in memory. -/
theorem results_row_tmp {P : Program} {fn : Func} {p t : Tmp} {ty : TypeId} (h : fn.results = #[.cell p ty, .tmp t]) (tmps : Array Value) (w : World) (g : Nat) (T : TypeId) (cs : Array Value) (fr : Nat × Nat) (d : TypeDesc)
    (hp : tmps.getD p undef = .pointer (some ⟨g, 0, none⟩)) (hg : w.heap[g]? = some (.cells cs T fr))
    (hu : P.underlying ty = some d) (hd : (match d with | .struct _ | .array _ _ => true | _ => false) = true) (hi : (P.info? ty).map (·.size) = some cs.size) (v : Value) (hv : tmps.getD t undef = v) :
    (results fn tmps).run P w = .ok (.tuple #[.agg cs, v]) w := by
  have hp' : tmps[p]?.getD undef = .pointer (some ⟨g, 0, none⟩) := by simpa using hp
  have hv' : tmps[t]?.getD undef = v := by simpa using hv
  simp [results, h, hp', hv', asAddr, run_loadVar_row w g T ty cs fr d hg hu hd hi]

def setB (f : Nat → Bool) (xs : List Int) (on : Bool) (j : Nat) : Bool := if (j : Int) ∈ xs then on else f j
def setR (f : Nat → Bool) (xs : List Int) (on : Bool) : Value := if okAll xs then .tuple #[.agg (bitP (setB f xs on)), .bool true] else .tuple #[.agg noBits, .bool false]
theorem setR_yes (f : Nat → Bool) (xs : List Int) (on : Bool) (h : okAll xs = true) : setR f xs on = .tuple #[.agg (bitP (setB f xs on)), .bool true] := by unfold setR; rw [if_pos h]
theorem setR_no (f : Nat → Bool) (xs : List Int) (on : Bool) (h : okAll xs = false) : setR f xs on = .tuple #[.agg noBits, .bool false] := by unfold setR; rw [if_neg (by rw [h]; simp)]
theorem setB_snoc (f : Nat → Bool) (xs : List Int) (on : Bool) (k : Nat) (j : Nat) : (if j = k then on else setB f xs on j) = setB f (xs ++ [(k : Int)]) on j := by
  unfold setB
  by_cases e : j = k
  · subst e; simp
  · have : ¬ (j : Int) = (k : Int) := by omega
    simp [e, this]

set_option maxRecDepth 100000 in
set_option maxHeartbeats 1000000 in
theorem set_any (f : Nat → Bool) (on : Bool) (v : Value) (xs : List Int) (w : World) (hr : Ints w v xs) (hl : xs.length ≤ 9223372036854775807) :
    Calls Tryd.prog 55 #[.agg (bitP f), v, .bool on] w fun r w' => r = .returned (setR f xs on) ∧ Same w w' := by
  obtain ⟨a, c, rfl⟩ := hr.slice
  have HR := hid hr
  obtain ⟨n, hn⟩ : ∃ n, n = xs.length := ⟨_, rfl⟩
  rw [← hn] at hl
  simp only [← hn] at HR ⊢
  have HN := hid hn
  clear hr hn
  have X0 := hid (((Star.new w).alloc (bitP f) 48).alloc noBits 48)
  rw [World.size_alloc] at X0
  go_enter Tryd.func55, Tryd.ntmps55
  go_wp2_with ((with_reducible refine at_alloc 6 ?_); (refine wpList_alloc_big rfl _ rfl (.agg noBits) zeroB ?_))
  have e0 : bitP f = bitP (setB f (xs.take 0) on) := bitP_congr (fun j _ => by simp [setB])
  have X1 : Hid (Star w ((w.alloc (.cells (bitP f) 48)).alloc (.cells noBits 48)) [Blk (w.heap.size + 1) noBits 48, Blk w.heap.size (bitP (setB f (xs.take 0) on)) 48]) := X0.out.set 1 rfl (fun F h => by rw [← e0]; exact h)
  clear X0 e0
  have hz : ∀ o : Obj, (w.alloc o).heap.size = w.heap.size + 1 := fun o => World.size_alloc w o
  try simp only [hz]
  clear hz
  generalize hw0 : (w.alloc (.cells (bitP f) 48)).alloc (.cells noBits 48) = w0 at *
  clear hw0
  generalize w.heap.size = q at *
  go_loopw [12] (fun iv wr => ∃ k : Nat, k ≤ n ∧ iv = .int .i64 k ∧ okAll (xs.take k) = true ∧ Star w wr [Blk (q + 1) noBits 48, Blk q (bitP (setB f (xs.take k) on)) 48]) (fun iv _ => n - (intOf iv).toNat)
  case atStart => exact ⟨0, by omega, rfl, rfl, X1.out⟩
  case round =>
    obtain ⟨k, hk, rfl, hok, hX⟩ := hrel
    have X := hid hX
    have HOK := hid hok
    clear hX hok X1
    have HB := hid (X.out.blk 1 rfl).1
    have HC := hid (X.out.blk 0 rfl).1
    by_cases hlt : k < n
    · obtain ⟨b, off, cap, e1, hb, hcl⟩ := HR.out.open (by have := HN.out; omega)
      cases e1
      have hkx : k < xs.length := by have := HN.out; omega
      have g0 := X.out.keepCell (hcl k (.int .i64 xs[k]) (by simp [hkx]))
      have HTK := hid (List.take_succ_eq_append_getElem hkx)
      have hyes := okAll_take xs k HOK.out hkx
      have hno := okAll_not xs k hkx
      have HY := hid hyes
      have HNO := hid hno
      clear hcl hyes hno
      generalize xs[k] = x at *
      cases hx : okKind x with
      | false =>
        have HX := hid (HNO.out hx)
        have HK := hid hx
        clear hx
        go_wp2_with (first
          | (go_at_call 36; refine (kind_any x _).mono ?_; rintro r w1 ⟨rfl, rfl⟩; rw [HK.out])
          | (with_reducible refine at_build ?_); (refine wpList_build_big rfl _ rfl noBits builtB ?_)
          | (with_reducible refine at_store 6 ?_); (refine wpList_store_same rfl _ _ _ rfl _ noBits (by rfl) (by rfl) _ HC.out (sizeB _) (bitP_one _) ?_))
        refine bodyPost_ret (v := .tuple #[.agg noBits, .bool false]) (results_row_tmp Tryd.results55 _ _ (q + 1) _ _ _ _ rfl HC.out Tryd.underlying48 rfl (sizeB _) _ rfl) rfl ⟨by rw [setR_no _ _ _ HX.out], X.out.same⟩
      | true =>
        have HX := hid (HY.out hx)
        have HK := hid hx
        have hx2 := hx
        simp [okKind] at hx2
        obtain ⟨y, rfl⟩ := Int.eq_ofNat_of_zero_le hx2.1
        have hy : y < 64 := by omega
        have g1 := (cell_of HB.out y).trans (bitP_get _ y hy)
        have f1 := free_of HB.out y
        have hql := lt_of HB.out
        have hyi : (y : Int) < 64 := by omega
        clear hx hx2
        go_wp2_with (go_at_call 36; refine (kind_any (y : Int) _).mono ?_; rintro r w1 ⟨rfl, rfl⟩; rw [HK.out])
        go_roundw
        case rel =>
          refine ⟨k + 1, by omega, by go_num, HX.out, ?_⟩
          have h := X.out.put 1 rfl y (.bool on)
          rw [bitP_set _ _ _ hy] at h
          have e : (bitP fun j => if j = y then on else setB f (xs.take k) on j) = bitP (setB f (xs.take (k + 1)) on) := by
            rw [HTK.out]; exact bitP_congr (fun j _ => setB_snoc f _ on y j)
          rw [e] at h
          exact h
        case measure => simp [intOf]; omega
    · have ht : xs.take k = xs := List.take_of_length_le (by have := HN.out; omega)
      have hok := HOK.out
      rw [ht] at hok HB
      have HA := hid hok
      clear hok
      go_wp2_with (first
        | (with_reducible refine at_load 3 ?_); (refine wpList_load_row rfl _ _ rfl q (by rfl) _ (bitP (setB f xs on)) _ _ HB.out Tryd.underlying48 rfl (sizeB _) ?_)
        | (with_reducible refine at_store 6 ?_); (refine wpList_store_row rfl _ _ _ rfl (q + 1) (bitP (setB f xs on)) (by rfl) (by rfl) _ noBits HC.out (sizeB _) (by simp [noBits, bitP_size]) (bitP_one _) ?_))
      refine bodyPost_ret (v := .tuple #[.agg (bitP (setB f xs on)), .bool true]) (results_row_tmp Tryd.results55 _ _ (q + 1) _ _ _ _ rfl (setRow_heap _ _ _ _ _ _ HC.out) Tryd.underlying48 rfl (sizeB _) _ rfl) rfl ⟨by rw [setR_yes _ _ _ HA.out], ?_⟩
      exact Chg.setRow (q + 1) _ X.out.same (fun h => by have := (X.out.blk 0 rfl).2; omega)

set_option maxRecDepth 100000 in
theorem number_any (n : Nat) (hn : n ≤ top) (w : World) :
    Calls Tryd.prog 56 #[.agg (bitP n.testBit)] w fun r w' => r = .returned (mk n) ∧ Same w w' := by
  have X0 := hid ((Star.new w).alloc (bitP n.testBit) 48)
  go_enter Tryd.func56, Tryd.ntmps56
  go_wp2
  generalize w.alloc (.cells (bitP n.testBit) 48) = w1 at *
  generalize w.heap.size = q at *
  go_loop [3, 4] (fun nv iv => ∃ i : Nat, i ≤ 64 ∧ iv = .int .i64 ((i : Int) - 1) ∧ nv = mk (n / 2 ^ i)) (fun _ iv => (intOf iv + 1).toNat)
  case atStart => exact ⟨64, by omega, rfl, by rw [Nat.div_eq_of_lt (by unfold top at hn; omega)]; rfl⟩
  case round =>
    obtain ⟨i, hi, rfl, rfl⟩ := hrel
    cases i with
    | zero =>
      have e : (((0 : Nat) : Int) - 1) = -1 := rfl
      rw [e, Nat.pow_zero, Nat.div_one]
      clear e
      go_wp2
      go_ret
      exact ⟨rfl, X0.out.same⟩
    | succ i =>
      have e : (((i + 1 : Nat) : Int) - 1) = (i : Int) := by omega
      rw [e]
      clear e
      have hi64 : i < 64 := by omega
      have hb := X0.out.blk 0 rfl
      have g0 := (cell_of hb.1 i).trans (bitP_get n.testBit i hi64)
      have hql := lt_of hb.1
      have hbit := bit_step n i
      have hdiv := div_step n i
      have HD := hid hdiv
      have HBI := hid hbit
      have hle : n / 2 ^ i ≤ top := Nat.le_trans (Nat.div_le_self _ _) hn
      unfold top at hle
      have hii : (i : Int) < 64 := by omega
      clear hb hbit hdiv
      rw [HD.out]
      generalize hpx : n / 2 ^ i = x at *
      have HPX := hid hpx
      clear hpx
      generalize hbb : n.testBit i = bb at *
      clear hbb
      have hx2 : x / 2 * 2 ≤ 18446744073709551615 := by omega
      cases bb with
      | false =>
        have hx : x / 2 * 2 = x := by have := HBI.out; simp at this; omega
        have HX := hid hx
        clear hx
        generalize x / 2 = y at *
        go_wp2
        go_round
        case rel => exact ⟨i, by omega, rfl, by rw [HPX.out, ← HX.out]; exact congrArg (Value.int .u64) (by omega)⟩
        case measure => simp [intOf]
      | true =>
        have hx : x / 2 * 2 + 1 = x := by have := HBI.out; simp at this; omega
        have HX := hid hx
        have hx3 : x / 2 * 2 + 1 ≤ 18446744073709551615 := by omega
        clear hx
        generalize x / 2 = y at *
        go_wp2
        go_round
        case rel => exact ⟨i, by omega, rfl, by rw [HPX.out, ← HX.out]; exact congrArg (Value.int .u64) (by omega)⟩
        case measure => simp [intOf]
end Go.Proofs.YtkjecihiipjngaaDoor.Mask
