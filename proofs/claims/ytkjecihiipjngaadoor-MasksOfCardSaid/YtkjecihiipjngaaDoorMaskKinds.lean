/-
  Package masks: Kinds, Count, Right; math/bits.
-/
import Derived.Test.YtkjecihiipjngaaDoorBitsPlain
import Derived.Test.YtkjecihiipjngaaDoorMaskOf
import Derived.Test.YtkjecihiipjngaaDoorBits
import Derived.Laws.Bits64b
namespace Go.Proofs.YtkjecihiipjngaaDoor.Mask
open Go Go.RowKit

theorem tz_key (x a : Nat) (hx : x < 18446744073709551616) (hx0 : x ≠ 0) (hlow : x &&& (18446744073709551616 - x) = a) :
    IntKind.u64.wrap (bits BinOp.and IntKind.u64 (x : Int) (IntKind.u64.wrap (-(x : Int))) * 285870213051353865) / 288230376151711744 = ((a * 285870213051353865 % 18446744073709551616 / 288230376151711744 : Nat) : Int) := by
  have e1 : IntKind.u64.wrap (-(x : Int)) = ((18446744073709551616 - x : Nat) : Int) := by rw [IntKind.wrap_u64]; omega
  rw [e1, bits_and_u64_nat x _ hx (by omega), hlow, IntKind.wrap_u64]
  omega

/-- The library's table. -/
def Tab (w : World) : Prop := ∀ j, j < 64 → w.cell? ⟨10, j, none⟩ = some (.int .u8 (Lib.deBruijn64tab.getD j 0))
theorem Tab.same {w w' : World} (h : Tab w) (hs : Same w w') : Tab w' := fun j hj => hs.keep (h j hj)

set_option maxRecDepth 100000 in
theorem tz_core (x k idx : Nat) (w : World) (hx0 : ((x : Int) == 0) = false)
    (key : IntKind.u64.wrap (bits BinOp.and IntKind.u64 (x : Int) (IntKind.u64.wrap (-(x : Int))) * 285870213051353865) / 288230376151711744 = (idx : Int))
    (hi : idx < 64) (hk : k < 64) (hcell : w.cell? ⟨10, idx, none⟩ = some (.int .u8 k)) : Calls Tryd.prog 62 #[mk x] w fun r w' => r = .returned (.int .i64 k) ∧ w = w' := by
  go_enter Tryd.func62, Tryd.ntmps62
  go_wp2_with (simp only [key])
  go_ret
  exact ⟨rfl, rfl⟩
theorem tz_any (x : Nat) (hx : x ≤ top) (h0 : x ≠ 0) (w : World) (hT : Tab w) : Calls Tryd.prog 62 #[mk x] w fun r w' => r = .returned (.int .i64 (Lib.ctz 64 x)) ∧ w = w' := by
  have hlt : x < 2 ^ 64 := by unfold top at hx; omega
  obtain ⟨hlow, hk⟩ := Lib.lowest_bit 64 x h0 hlt
  obtain ⟨hi, htab⟩ := Lib.deBruijn64_at _ hk
  have hcell := hT _ hi
  rw [htab] at hcell
  exact tz_core x _ _ w (by simp; omega) (tz_key x _ hlt h0 hlow) hi hk hcell

set_option maxRecDepth 100000 in
theorem ones_core (x A1 A2 B1 B2 C R : Nat) (hx : x ≤ 18446744073709551615) (hA : A1 + A2 ≤ 18446744073709551615) (hB : B1 + B2 ≤ 4919131752989213764) (hC : C ≤ 578721382704613384)
    (a1 : bits .and .u64 ((x : Int) / 2) 6148914691236517205 = (A1 : Int)) (a2 : bits .and .u64 (x : Int) 6148914691236517205 = (A2 : Int))
    (b1 : bits .and .u64 (((A1 : Int) + A2) / 4) 3689348814741910323 = (B1 : Int)) (b2 : bits .and .u64 ((A1 : Int) + A2) 3689348814741910323 = (B2 : Int))
    (c1 : bits .and .u64 (((B1 : Int) + B2) / 16 + (B1 + B2)) 1085102592571150095 = (C : Int)) (d1 : bits .and .i64 ((C : Int) + C / 256 + (C + C / 256) / 65536 + (C + C / 256 + (C + C / 256) / 65536) / 4294967296) 127 = (R : Int)) (w : World) :
    Calls Tryd.prog 63 #[mk x] w fun r w' => r = .returned (.int .i64 R) ∧ w = w' := by
  go_enter Tryd.func63, Tryd.ntmps63
  go_wp2
  go_ret
  exact ⟨rfl, rfl⟩
theorem ones_any (x : Nat) (hx : x ≤ top) (w : World) : Calls Tryd.prog 63 #[mk x] w fun r w' => r = .returned (.int .i64 (bitsOf x).length) ∧ w = w' := by
  obtain ⟨h1, h2, h3, h4⟩ := oc_count x hx
  unfold top at hx h1
  have k1 := u64_and_nat (x / 2) 6148914691236517205 (by omega) (by omega)
  have k2 := u64_and_nat x 6148914691236517205 (by omega) (by omega)
  have k3 := u64_and_nat (oc1 x / 4) 3689348814741910323 (by omega) (by omega)
  have k4 := u64_and_nat (oc1 x) 3689348814741910323 (by omega) (by omega)
  have k5 := u64_and_nat (oc2 (oc1 x) / 16 + oc2 (oc1 x)) 1085102592571150095 (by omega) (by omega)
  refine ones_core x (x / 2 &&& 6148914691236517205) (x &&& 6148914691236517205) (oc1 x / 4 &&& 3689348814741910323) (oc1 x &&& 3689348814741910323) (oc3 (oc2 (oc1 x))) _ hx h1 h2 h3 k1 k2 k3 k4 k5 ?_ w
  rw [i64_and127, ← h4]
  generalize oc3 (oc2 (oc1 x)) = c
  simp only
  omega

theorem infoI : (Tryd.prog.info? 3).map (fun i => (i.zero, i.size, i.bytes)) = some (some (.int .i64 0), 1, 8) := by kernel_rfl
def nI (l : List Nat) : List Value := l.map (fun i : Nat => Value.int .i64 (i : Int))
theorem nI_one (l : List Nat) : ∀ u ∈ nI l, u.oneCell' = true := by intro u hu; simp [nI] at hu; obtain ⟨i, _, rfl⟩ := hu; rfl
/-- A row of whole numbers of the call's own. -/
abbrev natRow (v : Value) (l : List Nat) : Res := Row 3 1 v l.length (nI l)

set_option maxRecDepth 100000 in
set_option maxHeartbeats 1000000 in
theorem kinds_any {w0 w : World} {L : List Res} (X : Star w0 w L) (m : Nat) (hm : m ≤ top) (hT : Tab w0) :
    Calls Tryd.prog 31 #[mk m] w fun r w' => ∃ v, r = .returned v ∧ Star w0 w' (natRow v (bitsOf m) :: L) := by
  obtain ⟨i0, hi0, hz0, hz1, hz2⟩ := info_parts infoI
  have HT := hid hT
  have X0 := hid X
  clear hT X
  go_enter Tryd.func31, Tryd.ntmps31
  go_wp2
  go_loopw [3, 4] (fun v rv wr => ∃ (x : Nat) (l : List Nat), x ≤ top ∧ rv = mk x ∧ l ++ bitsOf x = bitsOf m ∧ Star w0 wr (natRow v l :: L)) (fun _ rv _ => (intOf rv).toNat)
  case atStart => exact ⟨m, [], hm, rfl, rfl, X0.out.nilRow _ _⟩
  case round =>
    obtain ⟨x, l, hx, rfl, hl, hZ⟩ := hrel
    have Z := hid hZ
    have HL := hid hl
    obtain ⟨a, cp, e, _⟩ := own_slice (hZ.row 0 rfl).1
    subst e
    have hrow := hid (hZ.row 0 rfl).1
    have hll : l.length ≤ 64 := by
      have h1 := bitsOf_len m
      rw [← hl, List.length_append] at h1
      omega
    generalize hn : l.length = n at *
    have HN := hid hn
    clear hZ X0 hl hn
    by_cases h0 : x = 0
    · subst h0
      go_wp2
      go_ret
      have e := HL.out
      rw [bitsOf_zero, List.append_nil] at e
      have h := Z.out
      subst e
      exact ⟨_, rfl, h⟩
    · obtain ⟨hb, hk, hlt⟩ := bitsOf_step x hx h0
      have hand := u64_and_nat x (x - 1) (by unfold top at hx; omega) (by unfold top at hx; omega)
      have hsub : ((x - 1 : Nat) : Int) = (x : Int) - 1 := by omega
      rw [hsub] at hand
      have hle : (x &&& (x - 1)) ≤ top := by omega
      have hne : ((x : Int) != 0) = true := by simp; omega
      have hx1 : (1 : Int) ≤ x := by omega
      have HB := hid hb
      have TZ := hid (fun w (hT : Tab w) => tz_any x hx h0 w hT)
      unfold top at hx
      clear hb h0 hsub
      generalize Lib.ctz 64 x = k at *
      generalize (x &&& (x - 1)) = y at *
      go_wp2_with (first
        | (go_at_call 62; refine (TZ.out _ (HT.out.same Z.out.same)).mono ?_; rintro r w1 ⟨rfl, rfl⟩)
        | (at_builtin; refine wpList_app rfl _ _ 23 rfl 3 i0 (.int .i64 0) 1 8 Tryd.underlying23 hi0 hz0 hz1 hz2 rfl (by decide) (.slice a n cp) n (nI l) rfl (own_chg (S := fun _ => False) hrow.out ((Chg.refl _).alloc _) (fun _ _ f => f)) (some _) 1 1 [.int .i64 k] rfl (reads_blk (cs := #[.int .i64 k]) (E := 3) (f := (0, 0)) (alloc_new _ _) 1 1 1 rfl) (by intro u hu; simp at hu; subst hu; rfl) (by omega) (by omega) ?_; intro a7 c7 w7 ho7 hg7 hn7; have Z7 := hid ((Z.out.go ((Chg.refl _).alloc _)).grown 0 rfl ho7 hg7 hn7); clear ho7 hg7 hn7))
      go_roundw
      case rel =>
        refine ⟨y, l ++ [k], hle, rfl, ?_, ?_⟩
        · rw [List.append_assoc, List.singleton_append, ← HB.out]; exact HL.out
        · have h := Z7.out
          have e1 : nI l ++ [.int .i64 k] = nI (l ++ [k]) := by simp [nI]
          have e2 : n + 1 = (l ++ [k]).length := by rw [List.length_append, HN.out]; rfl
          rw [e1] at h
          generalize n + 1 = n1 at *
          subst e2
          exact h
      case measure => simp [intOf]; omega

set_option maxRecDepth 100000 in
set_option maxHeartbeats 1000000 in
theorem refKinds_any {w0 w : World} {L : List Res} (X : Star w0 w L) (f : Nat → Bool) :
    Calls Tryd.prog 32 #[.agg (bitP f)] w fun r w' => ∃ v, r = .returned v ∧ Star w0 w' (natRow v ((List.range 64).filter f) :: L) := by
  obtain ⟨i0, hi0, hz0, hz1, hz2⟩ := info_parts infoI
  have X1 := hid (X.alloc (bitP f) 48)
  clear X
  go_enter Tryd.func32, Tryd.ntmps32
  go_wp2
  have X0 := hid (X1.out.add (w' := (w.alloc (.cells (bitP f) 48)).alloc (.cells #[] 3)) ((Chg.refl _).alloc _) (R := natRow (.slice (some ⟨(w.alloc (.cells (bitP f) 48)).heap.size, 0, none⟩) 0 0) []) ⟨World.ownsRow_lit (base := 0) (e := 3) (size := 1) (w.alloc (.cells (bitP f) 48)) #[] 0 (Nat.zero_le _) (by unfold maxLen; omega) rfl, rfl⟩ (fun k h => by simp [Value.ownBlock] at h; simp; omega))
  rw [World.size_alloc] at X0
  clear X1
  generalize w.heap.size = q at *
  go_loopw [3, 4] (fun v iv wr => ∃ i : Nat, i ≤ 64 ∧ iv = .int .i64 i ∧ Star w0 wr (natRow v ((List.range i).filter f) :: Blk q (bitP f) 48 :: L)) (fun _ iv _ => 64 - (intOf iv).toNat)
  case atStart => exact ⟨0, by omega, rfl, X0.out⟩
  case round =>
    obtain ⟨i, hi, rfl, hZ⟩ := hrel
    have Z := hid hZ
    obtain ⟨a, cp, e, _⟩ := own_slice (hZ.row 0 rfl).1
    subst e
    have hrow := hid (hZ.row 0 rfl).1
    have hll : ((List.range i).filter f).length ≤ 64 := by
      have h1 := List.length_filter_le f (List.range i)
      simp at h1
      omega
    generalize hn : ((List.range i).filter f).length = n at *
    have HN := hid hn
    clear hZ X0 hn
    by_cases hlt : i < 64
    · have c0 := (cell_of (Z.out.blk 1 rfl).1 i).trans (bitP_get f i hlt)
      have hql := lt_of (Z.out.blk 1 rfl).1
      have HF := hid (show (List.range (i + 1)).filter f = (List.range i).filter f ++ if f i then [i] else [] by
        rw [List.range_succ, List.filter_append]; cases hf : f i <;> simp [hf])
      generalize hfi : f i = b at *
      cases b with
      | false =>
        go_wp2
        go_roundw
        case rel =>
          refine ⟨i + 1, by omega, by go_num, ?_⟩
          rw [HF.out]
          simp only [Bool.false_eq_true, if_false, List.append_nil]
          exact Z.out
        case measure => simp [intOf]; omega
      | true =>
        go_wp2_with (at_builtin; refine wpList_app rfl _ _ 23 rfl 3 i0 (.int .i64 0) 1 8 Tryd.underlying23 hi0 hz0 hz1 hz2 rfl (by decide) (.slice a n cp) n (nI ((List.range i).filter f)) rfl (own_chg (S := fun _ => False) hrow.out ((Chg.refl _).alloc _) (fun _ _ f => f)) (some _) 1 1 [.int .i64 i] rfl (reads_blk (cs := #[.int .i64 i]) (E := 3) (f := (0, 0)) (alloc_new _ _) 1 1 1 rfl) (by intro u hu; simp at hu; subst hu; rfl) (by omega) (by omega) ?_; intro a7 c7 w7 ho7 hg7 hn7; have Z7 := hid ((Z.out.go ((Chg.refl _).alloc _)).grown 0 rfl ho7 hg7 hn7); clear ho7 hg7 hn7)
        go_roundw
        case rel =>
          refine ⟨i + 1, by omega, by go_num, ?_⟩
          rw [HF.out]
          simp only [if_true]
          have h := Z7.out
          have e1 : nI ((List.range i).filter f) ++ [.int .i64 i] = nI ((List.range i).filter f ++ [i]) := by simp [nI]
          have e2 : n + 1 = ((List.range i).filter f ++ [i]).length := by rw [← HN.out]; simp
          rw [e1] at h
          generalize n + 1 = n1 at *
          subst e2
          exact h
        case measure => simp [intOf]; omega
    · have : i = 64 := by omega
      subst this
      go_wp2
      go_ret
      exact ⟨_, rfl, (Z.out.pull 1 rfl).drop⟩
end Go.Proofs.YtkjecihiipjngaaDoor.Mask
