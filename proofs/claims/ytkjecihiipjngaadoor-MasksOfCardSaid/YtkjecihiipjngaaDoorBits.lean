/-
  paddockref03: masks as 64 yes and no.
-/
import Derived.Test.YtkjecihiipjngaaDoorMask
import Derived.Test.YtkjecihiipjngaaDoorArr
namespace Go.Proofs.YtkjecihiipjngaaDoor.Mask
open Go Go.RowKit

/-- Sixty-four yes and no. -/
def bitP (f : Nat → Bool) : Array Value := ((List.range 64).map (fun i => Value.bool (f i))).toArray
theorem bitP_size (f : Nat → Bool) : (bitP f).size = 64 := by simp [bitP]
theorem bitP_get (f : Nat → Bool) (i : Nat) (h : i < 64) : (bitP f)[i]? = some (.bool (f i)) := by simp [bitP, h]
theorem bitP_one (f : Nat → Bool) : (bitP f).all (·.oneCell') = true := by
  rw [Array.all_eq_true_iff_forall_mem]
  intro x hx
  simp [bitP] at hx
  obtain ⟨i, _, rfl⟩ := hx
  rfl
theorem bitP_congr {f g : Nat → Bool} (h : ∀ i, i < 64 → f i = g i) : bitP f = bitP g := by
  unfold bitP
  congr 1
  apply List.map_congr_left
  intro i hi
  rw [h i (List.mem_range.1 hi)]
theorem bitP_set (f : Nat → Bool) (i : Nat) (b : Bool) (h : i < 64) : (bitP f).setIfInBounds i (.bool b) = bitP (fun j => if j = i then b else f j) := by
  unfold bitP
  rw [List.setIfInBounds_toArray]
  congr 1
  apply List.ext_getElem
  · simp
  · intro k h1 h2
    simp only [List.getElem_set, List.getElem_map, List.getElem_range]
    by_cases e : i = k
    · subst e; simp
    · rw [if_neg e, if_neg (Ne.symm e)]
/-- A number's bits. -/
def bitA (n : Nat) : Array Value := bitP n.testBit
def noBits : Array Value := bitP (fun _ => false)
theorem bitA_zero : bitA 0 = noBits := bitP_congr (fun i _ => Nat.zero_testBit i)

theorem zeroB : ∀ w, (zeroValue 48).run Tryd.prog w = .ok (.agg noBits) w := by intro w; kernel_rfl
theorem builtB : Tryd.prog.built 48 [] = some noBits := by kernel_rfl
theorem sizeB (f : Nat → Bool) : (Tryd.prog.info? 48).map (·.size) = some (bitP f).size := by rw [bitP_size]; kernel_rfl

theorem bit_step (n i : Nat) : n.testBit i = decide (n / 2 ^ i % 2 = 1) := by rw [Nat.testBit_eq_decide_div_mod_eq]
theorem div_step (n i : Nat) : n / 2 ^ (i + 1) = n / 2 ^ i / 2 := by rw [Nat.pow_succ, Nat.div_div_eq_div_mul]

set_option maxRecDepth 100000 in
theorem from_any (n : Nat) (hn : n ≤ top) (w : World) : Calls Tryd.prog 24 #[mk n] w fun r w' => r = .returned (.agg (bitA n)) ∧ Same w w' := by
  go_enter Tryd.func24, Tryd.ntmps24
  go_wp2_with (first | (refine wpList_alloc_big rfl _ rfl (.agg noBits) zeroB ?_) | (refine wpList_build_big rfl _ rfl noBits builtB ?_) | (refine wpList_store_same rfl _ _ _ rfl _ noBits (by rfl) (by rfl) _ (alloc_new _ _) (sizeB _) (bitP_one _) ?_))
  have X0 := hid (((Star.new w).alloc noBits 48).alloc noBits 48)
  rw [World.size_alloc] at X0
  have X1 := hid (X0.out.set 0 (R' := Blk (w.heap.size + 1) (bitP (fun j => decide (j < 0) && n.testBit j)) 48) rfl (fun F h => by rw [show (bitP (fun j => decide (j < 0) && n.testBit j)) = noBits from bitP_congr (fun i _ => by simp)]; exact h))
  clear X0
  generalize w.heap.size = q at *
  go_loopw [0, 4] (fun nv iv wr => ∃ i : Nat, i ≤ 64 ∧ iv = .int .i64 i ∧ nv = mk (n / 2 ^ i) ∧ Star w wr [Blk (q + 1) (bitP (fun j => decide (j < i) && n.testBit j)) 48, Blk q noBits 48]) (fun _ iv _ => 64 - (intOf iv).toNat)
  case atStart => exact ⟨0, by omega, rfl, by rw [Nat.pow_zero, Nat.div_one], X1.out⟩
  case round =>
    obtain ⟨i, hi, rfl, rfl, hX⟩ := hrel
    have X := hid hX
    clear hX X1
    by_cases hlt : i < 64
    · obtain ⟨hb, -⟩ := X.out.blk 0 rfl
      have g0 := (cell_of hb i).trans (bitP_get _ i hlt)
      have f0 := free_of hb i
      have HD := hid (div_step n i)
      have HT := hid (bit_step n i)
      have hle : n / 2 ^ i ≤ top := Nat.le_trans (Nat.div_le_self _ _) hn
      clear hb
      generalize n / 2 ^ i = m at *
      have hmi : 0 ≤ (m : Int) % 2 ∧ (m : Int) % 2 < 2 := by omega
      go_wp2
      go_roundw
      case rel => 
        have hw : IntKind.u64.wrap ((m : Int) / 2) = ((m / 2 : Nat) : Int) := by
          unfold top at hle
          simp only [IntKind.wrap, IntKind.bits, IntKind.signed]; simp; omega
        refine ⟨i + 1, by omega, by go_num, by rw [HD.out]; exact congrArg (Value.int .u64) hw, ?_⟩
        have h := X.out.put 0 rfl i (.bool (decide ((m : Int) % 2 = 1)))
        rw [bitP_set _ _ _ hlt] at h
        have e : (bitP fun j => if j = i then decide ((m : Int) % 2 = 1) else decide (j < i) && n.testBit j) = bitP (fun j => decide (j < i + 1) && n.testBit j) := by
          refine bitP_congr (fun j _ => ?_)
          by_cases hj : j = i
          · subst hj; rw [if_pos rfl, HT.out]; simp; omega
          · rw [if_neg hj]; congr 1; simp; omega
        rw [e] at h
        exact h
      case measure => simp [intOf]; omega
    · have : i = 64 := by omega
      subst this
      have e : (bitP fun j => decide (j < 64) && n.testBit j) = bitA n := bitP_congr (fun j hj => by simp [hj])
      have X' := X.out
      rw [e] at X'
      have X2 := hid X'
      obtain ⟨hb, -⟩ := X'.blk 0 rfl
      obtain ⟨hc, -⟩ := X'.blk 1 rfl
      have HB := hid hb
      have HC := hid hc
      clear hb hc X' X e
      go_wp2_with (first | (refine wpList_load_row rfl _ _ rfl (q + 1) (by rfl) _ (bitA n) _ _ HB.out Tryd.underlying48 rfl (sizeB _) ?_) | (refine wpList_store_row rfl _ _ _ rfl q (bitA n) (by rfl) (by rfl) _ noBits HC.out (sizeB _) (by simp [noBits, bitA, bitP_size]) (bitP_one _) ?_))
      refine bodyPost_ret (v := .agg (bitA n)) (results_cell_row Tryd.results24 _ _ q _ _ _ _ rfl (setRow_heap _ _ _ _ _ _ HC.out) Tryd.underlying48 rfl (sizeB _)) rfl ⟨rfl, ?_⟩
      exact Chg.setRow q _ X2.out.same (fun h => by have := (X2.out.blk 1 rfl).2; omega)

def okAt (b f g : Nat → Bool) (i : Nat) : Bool := !(f i && !b i || g i && b i)
def fitB (b f g : Nat → Bool) : Bool := (List.range 64).all (okAt b f g)
theorem fitB_yes {b f g : Nat → Bool} (h : ∀ i, i < 64 → okAt b f g i = true) : fitB b f g = true := by
  unfold fitB; rw [List.all_eq_true]; intro i hi; exact h i (List.mem_range.1 hi)
theorem fitB_no {b f g : Nat → Bool} (i : Nat) (hi : i < 64) (h : okAt b f g i = false) : fitB b f g = false := by
  unfold fitB; rw [List.all_eq_false]; exact ⟨i, List.mem_range.2 hi, by simp [h]⟩

set_option maxRecDepth 100000 in
theorem fitB_any (b f g : Nat → Bool) (w : World) : Calls Tryd.prog 25 #[.agg (bitP b), .agg (bitP f), .agg (bitP g)] w fun r w' => r = .returned (.bool (fitB b f g)) ∧ Same w w' := by
  go_enter Tryd.func25, Tryd.ntmps25
  go_wp2
  have X0 := hid ((((Star.new w).alloc (bitP b) 48).alloc (bitP f) 48).alloc (bitP g) 48)
  rw [World.size_alloc, World.size_alloc] at X0
  generalize ((w.alloc (.cells (bitP b) 48)).alloc (.cells (bitP f) 48)).alloc (.cells (bitP g) 48) = w3 at *
  generalize w.heap.size = q at *
  go_loop [7] (fun iv => ∃ i : Nat, i ≤ 64 ∧ iv = .int .i64 i ∧ ∀ j, j < i → okAt b f g j = true) (fun iv => 64 - (intOf iv).toNat)
  case atStart => exact ⟨0, by omega, rfl, fun j h => by omega⟩
  case round =>
    obtain ⟨i, hi, rfl, hall⟩ := hrel
    have HA := hid hall
    clear hall
    by_cases hlt : i < 64
    · have g2 := (cell_of (X0.out.blk 0 rfl).1 i).trans (bitP_get _ i hlt)
      have g1 := (cell_of (X0.out.blk 1 rfl).1 i).trans (bitP_get _ i hlt)
      have g0 := (cell_of (X0.out.blk 2 rfl).1 i).trans (bitP_get _ i hlt)
      have hok : okAt b f g i = !(f i && !b i || g i && b i) := rfl
      have HOK := hid hok
      clear hok
      generalize b i = x at *
      generalize f i = y at *
      generalize g i = z at *
      cases x <;> cases y <;> cases z
      all_goals
        go_wp2
        first
        | (go_round
           case rel => exact ⟨i + 1, by omega, by go_num, fun j hj => if h : j < i then HA.out j h else by (have : j = i := by omega); subst this; exact HOK.out⟩
           case measure => simp [intOf]; omega)
        | (go_ret
           exact ⟨ret_bool (fitB_no i hlt HOK.out).symm, X0.out.same⟩)
    · go_wp2
      go_ret
      exact ⟨ret_bool (fitB_yes (fun j hj => HA.out j (by omega))).symm, X0.out.same⟩
end Go.Proofs.YtkjecihiipjngaaDoor.Mask
