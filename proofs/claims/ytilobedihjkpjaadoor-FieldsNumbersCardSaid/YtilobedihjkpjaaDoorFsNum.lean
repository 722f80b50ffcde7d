/-
  Package fields: Numbers: the keys of the map of the open fields, sorted.
-/
import Derived.Test.YtilobedihjkpjaaDoorIter
import Derived.Test.YtilobedihjkpjaaDoorFsNew
namespace Go.Proofs.YtilobedihjkpjaaDoor.Fs
open Go Go.RowKit Go.Maps Go.Sort Go.Shelf Go.Proofs.YtilobedihjkpjaaDoor.Steps
/-- The numbers of the open fields. -/
def keys (st : Nat → Option Slot) : List Int := ((List.range 4).filter (fun k => (st k).isSome)).map (fun k : Nat => (k : Int))
theorem keys_len (st : Nat → Option Slot) : (keys st).length ≤ 4 := by
  unfold keys
  rw [List.length_map]
  exact Nat.le_trans (List.length_filter_le _ _) (by simp)
theorem keys_sorted (st : Nat → Option Slot) : (keys st).Pairwise (fun a b => a < b) := by
  unfold keys
  rw [List.pairwise_map]
  exact (List.Pairwise.filter _ List.pairwise_lt_range).imp (fun h => by omega)
theorem keys_mem (st : Nat → Option Slot) (hf : ∀ k x, st k = some x → k < 4) (y : Int) : y ∈ keys st ↔ (mapF st (.int .i64 y)).isSome = true := by
  unfold keys
  rw [List.mem_map]
  constructor
  · rintro ⟨k, hk, rfl⟩
    rw [mapF_nat, Option.isSome_map]
    exact (List.mem_filter.1 hk).2
  · intro h
    by_cases hy : 0 ≤ y
    · obtain ⟨n, rfl⟩ := Int.eq_ofNat_of_zero_le hy
      have h' : (st n).isSome = true := by
        have h2 : (mapF st (.int .i64 ((n : Nat) : Int))).isSome = true := h
        rw [mapF_nat, Option.isSome_map] at h2
        exact h2
      obtain ⟨x, hx⟩ := Option.isSome_iff_exists.1 h'
      exact ⟨n, List.mem_filter.2 ⟨List.mem_range.2 (hf n x hx), h'⟩, rfl⟩
    · rw [mapF_neg st y (by omega)] at h
      cases h
theorem keys_merge (st : Nat → Option Slot) : (keys st).mergeSort leI = keys st :=
  List.mergeSort_of_pairwise ((keys_sorted st).imp (fun h => by simp only [decide_eq_true_eq]; omega))
/-- slices.Sort's two contracts at this dump. -/
theorem sortsK (m : Nat) : AnyZI.SortsIn Tryd.prog Tryd.sortedK_ren Fence.wide m :=
  ⟨fun blk off cap ss W hH hblk hsz => callsIn_wide.2 (AnyM.slices_Sort_int Tryd.sortK blk off cap ss W hH hblk hsz),
   fun p cap W => callsIn_wide.2 (AnyM.slices_Sort_int_none Tryd.sortK p cap W)⟩
section
variable {w0 w : World} {L : List Res} {s gp mb : Nat} {G : Gr} {V : Int} {st : Nat → Option Slot}
set_option maxRecDepth 100000 in
set_option maxHeartbeats 4000000 in
theorem numbers_any (X : Star w0 w (setL s gp mb G V st L)) (hf : ∀ k x, st k = some x → k < 4) :
    Calls Tryd.prog 41 #[.pointer (some ⟨s, 0, none⟩)] w fun r w' => ∃ v, r = .returned v ∧ Star w0 w' (Row 3 1 v (keys st).length ((keys st).map (Value.int .i64)) :: setL s gp mb G V st L) := by
  have hb := (X.blk 0 rfl).1
  have d1 := cell_of hb 1
  have dl := lt_of hb
  simp only [List.getElem?_toArray, List.getElem?_cons_zero, List.getElem?_cons_succ] at d1
  obtain ⟨⟨D0, hown, hsize, hat⟩, -⟩ := X.map 2 rfl
  have hbl := hown.lt
  have hmax : Maps.size D0 ≤ 4 := by rw [hsize]; exact cnt_le st
  have hsort : (keys st).Perm (intKeys D0) := CollectedI.perm (left := fun _ => false) ⟨(keys_sorted st).imp (fun h e => by omega), fun y => by
    constructor
    · intro hy
      refine ⟨?_, rfl⟩
      have h1 := (keys_mem st hf y).1 hy
      have hy4 : 0 ≤ y ∧ y < 4 := by
        unfold keys at hy
        obtain ⟨k, hk, rfl⟩ := List.mem_map.1 hy
        have := List.mem_range.1 (List.mem_filter.1 hk).1
        omega
      rw [MapO.has hat ((keyed).key (keyI y (by omega) (by omega))), h1]
    · rintro ⟨h, -⟩
      have hy := hown
      by_cases hw : -9223372036854775808 ≤ y ∧ y ≤ 9223372036854775807
      · rw [MapO.has hat ((keyed).key (keyI y hw.1 hw.2))] at h
        exact (keys_mem st hf y).2 h
      · exfalso
        obtain ⟨es, rfl, hko⟩ := hown.keysOf
        rw [has_eq, List.any_eq_true] at h
        obtain ⟨p, hp, hs⟩ := h
        obtain ⟨v, hv⟩ := hko p hp
        obtain ⟨z, _, hz, hl⟩ := Maps.keyOf_i64 Tryd.underlying3 hv
        rw [hz] at hs
        have e1 : IntKind.i64.min = -9223372036854775808 := rfl
        have e2 : IntKind.i64.max = 9223372036854775807 := rfl
        have : z = y := by simpa [Lit.sameKey] using hs
        subst this
        simp only [Lit.wf, Bool.and_eq_true, decide_eq_true_eq] at hl
        omega⟩ hown keyed Tryd.underlying3 (fun _ => rfl)
  have X0 := hid X
  have HS := hid hsort
  refine (callsIn_wide (n := 6)).1 ?_
  have hseq : SeqGives Fence.wide 2 Tryd.prog 85 #[.pointer (some ⟨w.heap.size, 0, none⟩)] encZ (fun ss => ss.Perm (intKeys D0)) (Maps.size D0) (w.alloc (.cells #[.map (some mb)] 97)) :=
    AnyZI.keys_gives (ρ := Tryd.keysK_ren) { Tryd.keysK with } Fence.wide _ trivial rfl (by omega) w.heap.size mb (cnt st) D0 _ (by simp) (by simp) (by
      obtain ⟨es, clock, hb, Ft, hs, hD⟩ := hown
      exact ⟨es, clock, (Below.heap_alloc _ _ mb hbl).trans hb, Ft, hs, hD⟩)
  have cK : ∀ mb W, CallsIn Fence.wide 5 Tryd.prog 68 #[.map mb] W fun e w' => e = .returned (.func (.func 85) #[] #[.pointer (some ⟨W.heap.size, 0, none⟩)]) ∧ w' = W.alloc (.cells #[.map mb] 97) := fun mb W => AnyZI.keys_in Tryd.keysK Fence.wide 5 trivial rfl mb W
  have cS := AnyZI.sorted_in Tryd.sortedK Fence.wide 5 trivial trivial trivial trivial rfl (by omega) (sortsK _) (enters_of Tryd.func84 (by kernel_rfl) rfl) 85 #[.pointer (some ⟨w.heap.size, 0, none⟩)] trivial (enters_of Tryd.func85 (by kernel_rfl) rfl) _ _ (by unfold maxLen; omega) (by omega) _ hseq
  change CallsIn _ _ Tryd.prog 67 _ _ _ at cS
  have hfK : Fence.wide.fn 68 := trivial
  have hfS : Fence.wide.fn 67 := trivial
  clear X hb hown hsize hat hmax hsort
  refine callsIn_of_wp Tryd.func41 rfl trivial ?_ rfl
  simp only [Tryd.ntmps41, List.size_toArray, List.length_cons, List.length_nil, Nat.reduceAdd, Nat.reduceSub, Array.replicate_succ, Array.replicate_zero, List.push_toArray, List.append_toArray, List.nil_append, List.cons_append]
  gi_wp2_with (first
    | (gi_at_call 68; refine (cK _ _).mono ?_; rintro e w' ⟨rfl, rfl⟩)
    | (gi_at_call 67; refine cS.mono ?_; rintro e w' ⟨v, ss, rfl, hS, hrow, hnil, hbw⟩))
  go_ret
  refine ⟨v, rfl, ?_⟩
  have e1 : ss.mergeSort leI = keys st := by rw [mergeSort_of_perm_i (hS.trans HS.out.symm), keys_merge]
  have e2 : ss.length = (keys st).length := (hS.trans HS.out.symm).length_eq
  have hsame : Same w w' := by
    have h := ((Below.refl _ w).alloc (Nat.le_refl _) (.cells #[.map (some mb)] 97)).trans (hbw.mono (by simp))
    exact ⟨h.os, h.tape, h.output, h.size, fun k hk _ => h.block k hk⟩
  rw [show (fun x y => decide (x ≤ y)) = leI from rfl, e1, e2] at hrow
  refine X0.out.fresh ⟨ownsRow_base_a hrow (by simp), fun k hk => ?_⟩ hsame
  obtain ⟨-, ⟨rfl, -⟩ | ⟨g, cap, cur, rfl, hge, -⟩⟩ := hrow
  · cases hk
  · have e : g = k := by simpa [Value.ownBlock] using hk
    simp only [World.size_alloc] at hge
    omega
end
end Go.Proofs.YtilobedihjkpjaaDoor.Fs
