/-
  ColumnPlays: the walk.
-/
import Derived.Lib.MinMax
import Derived.Deep.CutBlock
import Derived.Deep.DeepCutAuto
import Derived.Test.YtkjecihiipjngaaDoorLaw05
import Derived.Test.YtkjecihiipjngaaDoorColR
import Derived.Test.YtkjecihiipjngaaDoorKept
import Derived.Test.YtkjecihiipjngaaDoorFlat
import Derived.Test.YtkjecihiipjngaaDoorArr
import Derived.Test.YtkjecihiipjngaaDoorErr
namespace Go.Proofs.YtkjecihiipjngaaDoor.ColumnPlays
open Go Go.RowKit Go.Proofs.YtkjecihiipjngaaDoor.ColR

/-- A call of a script. -/
structure OpC where
  kind : Int
  i : Int
  x : Int
  v : Value
  l : List Int
abbrev copyR (g cp : Nat) (xs : List Int) : Res := Row 3 1 (.slice (some ⟨g, 0, none⟩) (xs.length + 4) cp) (xs.length + 4) ((xs ++ Num.marks).map (Value.int .i64))
def OpC.cells (o : OpC) : List Value := [.int .i64 o.kind, .int .i64 o.i, .int .i64 o.x, o.v]
theorem OpC.len (o : OpC) : o.cells.length = 4 := rfl

set_option maxRecDepth 100000 in
set_option maxHeartbeats 8000000 in
theorem walk (most : Int) (os : List OpC) (v : Value) (w : World) (hr : Reads w v os.length 4 (os.flatMap OpC.cells)) (hlo : os.length ≤ 9223372036854775807) (hall : ∀ o ∈ os, Ints w o.v o.l ∧ o.l.length ≤ 9223372036854775807) (hmost : most ≤ 9223372036854775807) (ad : Nat → Addr) (hE : Err.Errs w ad) :
    Calls Tryd.prog 11 #[.int .i64 most, v] w fun r w' => r = .returned (.bool true) ∧ Same w w' := by
  obtain ⟨i0, hi0, hz0, hz1, hz2⟩ := info_parts ColI.info
  obtain ⟨a, ca, rfl⟩ := hr.slice
  have HR := hid hr
  have HALL := hid hall
  have HE := hid hE
  obtain ⟨n, hn⟩ : ∃ n, n = os.length := ⟨_, rfl⟩
  rw [← hn] at hlo
  simp only [← hn] at HR ⊢
  have HN := hid hn
  clear hr hE hn hall
  go_enter Tryd.func11, Tryd.ntmps11
  go_wp2_with fail
  refine (Law05.alive _).mono ?_
  rintro r w1 ⟨rfl, hs1⟩
  have X1 := hid ((Star.new w).go hs1)
  clear hs1
  by_cases h1 : 100 < n
  · go_wp2
    go_ret
    exact ⟨rfl, X1.out.same⟩
  go_wp2_with fail
  refine (new_any X1.out most).mono ?_
  rintro r w2 ⟨p, rfl, hX⟩
  have X2 := hid ((colR_new (T := 71) (xs := []) (m := max most 0) hX (w' := w2.alloc (.cells #[.slice none 0 0, .int .i64 (max most 0)] 71)) (v := .slice none 0 0) ⟨alloc_new _ _, World.ownsRow_nil _ _ _ _, by simp [Value.ownBlock]⟩ ((Chg.refl _).alloc _) (by rintro k (rfl | h); exact Nat.le_refl _; simp [Value.ownBlock] at h)))
  have hM0 : 0 ≤ max most 0 ∧ max most 0 ≤ 9223372036854775807 := by omega
  clear hX X1
  go_wp2
  generalize max most 0 = M at *
  generalize w2.alloc _ = w3 at *
  generalize w2.heap.size = q at *
  obtain ⟨ma, mc, -, m1, -, ml, -, -⟩ := ref_facts X2.out
  go_region_held3 (fun w' => w'.cell? ⟨q, 1, none⟩ = some (.int .i64 M)) (go_keep) ((go_at_call 45; refine (most_any ((X2.out.swap).go ((Chg.refl _).drew))).mono ?_; rintro r w' ⟨rfl, rfl⟩))
  have X3 := hid (X2.out.swap.go (w' := w3.drew) ((Chg.refl _).drew))
  clear X2 m1 ml
  generalize w3.drew = w4 at *
  go_wp2
  go_loopw [5, 44] (fun pv kv wr => ∃ (j p : Nat) (xs : List Int), j ≤ n ∧ pv = .pointer (some ⟨p, 0, none⟩) ∧ kv = .int .i64 j ∧ xs.length ≤ 100 * j ∧ Star w wr [colR 94 p xs M, colR 71 q xs M]) (fun _ kv _ => n - (intOf kv).toNat)
  case atStart => exact ⟨0, p, [], by omega, rfl, rfl, by simp, X3.out⟩
  case round =>
    obtain ⟨j, p, xs, hj, rfl, rfl, hlx, hX⟩ := hrel
    have X := hid hX
    clear hX X3
    by_cases hjn : j < n
    · obtain ⟨b, off, cap, e1, hb, hcl⟩ := HR.out.open (by have := HN.out; omega)
      have hjo : j < os.length := by have := HN.out; omega
      obtain ⟨o, ho⟩ : ∃ o, os[j]? = some o := ⟨_, List.getElem?_eq_getElem hjo⟩
      have g0 := X.out.keepCell (hcl (j * 4 + 0) _ ((rows_get OpC.cells OpC.len os j 0 o ho (by omega)).trans rfl))
      have g1 := X.out.keepCell (hcl (j * 4 + 1) _ ((rows_get OpC.cells OpC.len os j 1 o ho (by omega)).trans rfl))
      have g2 := X.out.keepCell (hcl (j * 4 + 2) _ ((rows_get OpC.cells OpC.len os j 2 o ho (by omega)).trans rfl))
      have g3 := X.out.keepCell (hcl (j * 4 + 3) _ ((rows_get OpC.cells OpC.len os j 3 o ho (by omega)).trans rfl))
      obtain ⟨hil, hll⟩ := HALL.out o (List.mem_of_getElem? ho)
      rw [Nat.add_zero] at g0
      rw [← Nat.add_assoc] at g1 g2 g3
      obtain ⟨kind, oi, ox, ov, l⟩ := o
      obtain ⟨al, cl, e2⟩ := hil.slice
      simp only at e2 hil hll g0 g1 g2 g3
      subst e2
      have HIL := hid hil
      obtain ⟨ln, hln⟩ : ∃ ln, ln = l.length := ⟨_, rfl⟩
      rw [← hln] at hll g3
      simp only [← hln] at HIL
      have HLN := hid hln
      have HIL2 : Hid (∀ {w' : World} {L : List Res}, Star w w' L → Ints w' (.slice al ln cl) l) := hid (fun X => by have h := X.reads hil; rw [hln]; exact h)
      cases e1
      clear hcl ho hil hln
      by_cases h100 : 100 < ln
      · go_wp2
        go_ret
        exact ⟨rfl, X.out.same.alloc _⟩
      have XO := hid (X.out.alloc #[.int .i64 kind, .int .i64 oi, .int .i64 ox, .slice al ln cl] 73)
      have hbo := XO.out.blk 0 rfl
      have o0 : (wr.alloc (.cells #[.int .i64 kind, .int .i64 oi, .int .i64 ox, .slice al ln cl] 73)).cell? ⟨wr.heap.size, 0, none⟩ = some (.int .i64 kind) := cell_of hbo.1 0
      have o1 : (wr.alloc (.cells #[.int .i64 kind, .int .i64 oi, .int .i64 ox, .slice al ln cl] 73)).cell? ⟨wr.heap.size, 1, none⟩ = some (.int .i64 oi) := cell_of hbo.1 1
      have o2 : (wr.alloc (.cells #[.int .i64 kind, .int .i64 oi, .int .i64 ox, .slice al ln cl] 73)).cell? ⟨wr.heap.size, 2, none⟩ = some (.int .i64 ox) := cell_of hbo.1 2
      have o3 : (wr.alloc (.cells #[.int .i64 kind, .int .i64 oi, .int .i64 ox, .slice al ln cl] 73)).cell? ⟨wr.heap.size, 3, none⟩ = some (.slice al ln cl) := cell_of hbo.1 3
      have ol := lt_of hbo.1
      clear hbo
      go_upto_block 2 with (fail)
      clear g0 g1 g2 g3 X
      generalize wr.alloc _ = wo at *
      generalize wr.heap.size = qo at *
      go_cut [5, 9] (fun s5 s9 wx => ∃ (p6 : Nat) (xs6 : List Int), s5 = .pointer (some ⟨p6, 0, none⟩) ∧ s9 = .bool true ∧ xs6.length ≤ 100 * (j + 1) ∧ Star w wx [colR 94 p6 xs6 M, colR 71 q xs6 M])
      case rest =>
        obtain ⟨p6, xs6, rfl, rfl, hl6, hX6⟩ := hcut
        clear XO o0 o1 o2 o3 ol
        as_aux_lemma =>
          have XT : Hid (Star w _ [colR 94 p6 xs6 M, colR 71 q xs6 M]) := hid (hX6)
          obtain ⟨ma, mc, m0, -, -, ml, mi, mx⟩ := ref_facts (XT.out.swap)
          have MI := hid mi
          have hl9 : xs6.length ≤ 100 * (j + 1) := by exact hl6
          have hl8 : xs6.length * 8 ≤ 140737488355328 := by omega
          have HL9 := hid hl9
          clear mi hl9
          obtain ⟨nx, hnx⟩ : ∃ nx, nx = xs6.length := ⟨_, rfl⟩
          rw [← hnx] at m0 mx
          have HNX := hid hnx
          clear hnx
          go_wp2
          go_region_held3 (fun w' => w'.cell? ⟨q, 0, none⟩ = some (.slice ma nx mc)) (go_keep) (first
            | (go_at_call 41; refine (len_any (XT.out.go ((Chg.refl _).drew))).mono ?_; rintro r w' ⟨rfl, rfl⟩; rw [← HNX.out])
            | (go_at_call 54; refine (all_any (XT.out.go ((Chg.refl _).drew)) hl8).mono ?_; rintro r wa ⟨va, rfl, hX, hs⟩; obtain ⟨aa, ca, rfl, -⟩ := own_slice (hX.row 0 rfl).1; have XA := hid hX; have SA := hid (Chg.trans (S := fun _ => False) ((Chg.refl _).drew) hs (fun _ _ f => f)); have pa0 := SA.out.keep m0; have pal := Nat.lt_of_lt_of_le ml SA.out.size; clear hX hs)
            | (go_at_call 33; refine (Num.sameInts _ _ xs6 xs6 _ (Reads.of_own (XA.out.row 0 rfl).1) (by rw [HNX.out]; exact MI.out.same SA.out) (by rw [← HNX.out]; exact mx) (by rw [← HNX.out]; exact mx)).mono ?_; rintro r wb ⟨rfl, hs⟩; rw [decide_eq_true rfl]; have pb0 := hs.keep pa0; have pbl := Nat.lt_of_lt_of_le pal hs.size; have XB := hid (XA.out.go hs); clear hs))
          all_goals
            go_wp2
            go_roundw
            case rel =>
              have hrel : ∃ (j' p' : Nat) (xs' : List Int), j' ≤ n ∧ Value.pointer (some ⟨p6, 0, none⟩) = .pointer (some ⟨p', 0, none⟩) ∧ Value.int .i64 ((j : Int) + 1) = .int .i64 j' ∧ xs'.length ≤ 100 * j' ∧ Star w _ [colR 94 p' xs' M, colR 71 q xs' M] := ⟨j + 1, p6, xs6, by omega, rfl, by go_num, HL9.out, XB.out.drop⟩
              first | exact hrel | ((repeat apply Exists.intro); exact ⟨hrel, rfl⟩)
            case measure => simp [intOf]; omega
      case first =>
        by_cases k1 : kind = 1
        · skip
          as_aux_lemma =>
            subst k1
            go_wp2_with fail
            refine (Num.ints_any _ l _ (HIL2.out XO.out) (by rw [← HLN.out]; omega)).mono ?_
            rintro r w5 ⟨g, cp, rfl, hC, hs⟩
            rw [← HLN.out]
            have X0 : Hid (Star w w5 [copyR g cp l, Blk qo #[.int .i64 1, .int .i64 oi, .int .i64 ox, .slice al ln cl] 73, colR 94 p xs M, colR 71 q xs M]) := hid (XO.out.add hs (R := copyR g cp l) ⟨hC.own, rfl⟩ (fun i h => by have e : g = i := Option.some.inj h; have := hC.new; omega))
            have hcm : cp ≤ 9223372036854775807 := by
              rcases hC.own.2 with ⟨h, _⟩ | ⟨g', cap, cur, h, _, _, _, h2, _⟩
              · cases h
              · cases h; unfold maxLen at h2; exact h2
            have X1 : Hid (Star w w5 [colR 94 p xs M, copyR g cp l, Blk qo #[.int .i64 1, .int .i64 oi, .int .i64 ox, .slice al ln cl] 73, colR 71 q xs M]) := hid (X0.out.pull 2 rfl)
            have HCI : Hid (∀ {w' : World} {L : List Res} {R : Res}, Star w w' (R :: copyR g cp l :: L) → Ints w' (.slice (some ⟨g, 0, none⟩) ln cp) l) := hid (fun X => by rw [HLN.out]; exact Num.Copy.reads (w0 := w) ⟨(X.row 1 rfl).1, (X.row 1 rfl).2 g rfl⟩)
            have HLI : Hid (∀ {w' : World} {L : List Res}, Star w w' L → Ints w' (.slice al ln cl) l) := hid (fun X => HIL2.out X)
            have HKEPT : Hid (∀ {w' : World} {L : List Res}, Star w w' (copyR g cp l :: L) → Calls Tryd.prog 48 #[.slice (some ⟨g, 0, none⟩) ln cp, .slice al ln cl] w' fun r w'' => r = .returned (.bool true) ∧ Same w' w'') := hid (fun X => by rw [HLN.out]; exact Num.kept_any w g cp _ l _ ⟨(X.row 0 rfl).1, (X.row 0 rfl).2 g rfl⟩ (by have h := HIL2.out X; rw [HLN.out] at h; exact h) (by rw [← HLN.out]; omega) hcm)
            have o3 := cell_of (X1.out.blk 2 rfl).1 3
            have ol := lt_of (X1.out.blk 2 rfl).1
            simp only [List.getElem?_toArray, List.getElem?_cons_zero, List.getElem?_cons_succ] at o3
            have hll2 : l.length ≤ 100 := by rw [← HLN.out]; omega
            clear XO hs hC X0 o0 o1 o2
            by_cases hfull : M - (xs.length : Int) < (ln : Int)
            · have hfl : M - (xs.length : Int) < (l.length : Int) := by have := HLN.out; omega
              go_wp2_with fail
              go_region_held3 (fun w' => w'.cell? ⟨qo, 3, none⟩ = some (.slice al ln cl)) (go_keep) (first
                | (go_at_call 39; refine (push_full (X1.out.go (w' := w5.drew) ((Chg.refl _).drew)) _ ln _ hM0 hll hfull _ (HE.out.same (X1.out.same.drew)).c1).mono ?_; rintro r wa ⟨rfl, hX⟩; have XA := hid hX; have ka := cell_of (XA.out.blk 2 rfl).1 3; have kal := lt_of (XA.out.blk 2 rfl).1; simp only [List.getElem?_toArray, List.getElem?_cons_zero, List.getElem?_cons_succ] at ka; clear hX)
                | (go_at_call 42; refine (Err.num ad 2 (by omega) _ (HE.out.same XA.out.same)).mono ?_; rintro r w' ⟨rfl, hs⟩; have XA2 := hid (XA.out.go hs); have ka2 := cell_of (XA2.out.blk 2 rfl).1 3; have ka2l := lt_of (XA2.out.blk 2 rfl).1; clear hs)
                | (go_at_call 47; refine (refpush_full (XA2.out.pull 3 rfl) _ l (HLI.out XA2.out) hM0 (by omega) (by omega) hfl).mono ?_; rintro r wb ⟨rfl, hX⟩; have XB := hid hX; have kb := cell_of (XB.out.blk 3 rfl).1 3; have kbl := lt_of (XB.out.blk 3 rfl).1; simp only [List.getElem?_toArray, List.getElem?_cons_zero, List.getElem?_cons_succ] at kb; clear hX)
                | (go_at_call 48; refine (HKEPT.out (XB.out.pull 2 rfl)).mono ?_; rintro r wc ⟨rfl, hs⟩; have XC := hid (XB.out.go hs); have kc := cell_of (XC.out.blk 3 rfl).1 3; have kcl := lt_of (XC.out.blk 3 rfl).1; simp only [List.getElem?_toArray, List.getElem?_cons_zero, List.getElem?_cons_succ] at kc; clear hs))
              all_goals
                have hXD : Star w wc [colR 71 q xs M, colR 94 p xs M, copyR g cp l, Blk qo #[.int .i64 1, .int .i64 oi, .int .i64 ox, .slice al ln cl] 73] := XC.out
                have XD : Hid (Star w wc [Row 3 1 (.slice (some ⟨g, 0, none⟩) (ln + 4) cp) (ln + 4) ((l ++ Num.marks).map (Value.int .i64)), colR 71 q xs M, colR 94 p xs M]) := hid (by have h := ((hXD.pull 3 rfl).drop).pull 2 rfl; rw [HLN.out]; exact h)
                have hml : ((l ++ Num.marks).map (Value.int .i64)).length = ln + 4 := by simp [Num.marks, HLN.out]
                have HML := hid hml
                clear hXD XA XB XC ka kal kb kbl kc kcl hml
                go_wp2_with fail
                go_loopw [76] (fun iv wr2 => ∃ (k : Nat) (ys : List Value), k ≤ ln ∧ iv = .int .i64 k ∧ ys.length = ln + 4 ∧ Star w wr2 [Row 3 1 (.slice (some ⟨g, 0, none⟩) (ln + 4) cp) (ln + 4) ys, colR 71 q xs M, colR 94 p xs M]) (fun iv _ => ln - (intOf iv).toNat)
                case atStart => exact ⟨0, _, by omega, rfl, HML.out, XD.out⟩
                case round =>
                  obtain ⟨k, ys, hk, rfl, hyl, hX⟩ := hrel
                  have XE := hid hX
                  clear hX XD
                  by_cases hkn : k < ln
                  · have hrow := (XE.out.row 0 rfl).1
                    have hf := hrow.frozenAt k
                    have hcc := (hrow.cellAt k (by omega)).trans (List.getElem?_eq_getElem (by omega))
                    have XF := hid (XE.out.store 0 rfl k (.int .i64 (-5)))
                    clear hrow XE
                    go_wp2
                    go_roundw
                    case rel =>
                      have hrel : ∃ (k' : Nat) (ys' : List Value), k' ≤ ln ∧ Value.int .i64 ((k : Int) + 1) = .int .i64 k' ∧ ys'.length = ln + 4 ∧ Star w _ [Row 3 1 (.slice (some ⟨g, 0, none⟩) (ln + 4) cp) (ln + 4) ys', colR 71 q xs M, colR 94 p xs M] := ⟨k + 1, ys.set k (.int .i64 (-5)), by omega, by go_num, by rw [List.length_set]; exact hyl, XF.out⟩
                      first | exact hrel | ((repeat apply Exists.intro); exact ⟨hrel, rfl⟩)
                    case measure => simp [intOf]; omega
                  · have X9 := hid (XE.out.drop.swap)
                    go_wp2
                    go_meet
                    exact ⟨p, xs, rfl, rfl, by (try rw [List.length_append, ← HLN.out]); omega, X9.out⟩

            · have hfl : (l.length : Int) ≤ M - (xs.length : Int) := by have := HLN.out; omega
              have hle := hfl
              go_wp2_with fail
              go_region_held3 (fun w' => w'.cell? ⟨qo, 3, none⟩ = some (.slice al ln cl)) (go_keep) (first
                | (go_at_call 39; refine (push_ok (X1.out.go (w' := w5.drew) ((Chg.refl _).drew)) _ l (HCI.out (X1.out.go (w' := w5.drew) ((Chg.refl _).drew))) hM0 hle (by omega)).mono ?_; rintro r wa ⟨rfl, hX⟩; have XA := hid hX; have ka := cell_of (XA.out.blk 2 rfl).1 3; have kal := lt_of (XA.out.blk 2 rfl).1; simp only [List.getElem?_toArray, List.getElem?_cons_zero, List.getElem?_cons_succ] at ka; clear hX)
                | (go_at_call 42; refine (Err.num_nil _).mono ?_; rintro r w' ⟨rfl, rfl⟩; have XA2 := XA)
                | (go_at_call 47; refine (refpush_ok (XA2.out.pull 3 rfl) _ l (HLI.out XA2.out) hM0 (by omega) (by omega) (by omega)).mono ?_; rintro r wb ⟨rfl, hX⟩; have XB := hid hX; have kb := cell_of (XB.out.blk 3 rfl).1 3; have kbl := lt_of (XB.out.blk 3 rfl).1; simp only [List.getElem?_toArray, List.getElem?_cons_zero, List.getElem?_cons_succ] at kb; clear hX)
                | (go_at_call 48; refine (HKEPT.out (XB.out.pull 2 rfl)).mono ?_; rintro r wc ⟨rfl, hs⟩; have XC := hid (XB.out.go hs); have kc := cell_of (XC.out.blk 3 rfl).1 3; have kcl := lt_of (XC.out.blk 3 rfl).1; simp only [List.getElem?_toArray, List.getElem?_cons_zero, List.getElem?_cons_succ] at kc; clear hs))
              all_goals
                have hXD : Star w wc [colR 71 q (xs ++ l) M, colR 94 p (xs ++ l) M, copyR g cp l, Blk qo #[.int .i64 1, .int .i64 oi, .int .i64 ox, .slice al ln cl] 73] := XC.out
                have XD : Hid (Star w wc [Row 3 1 (.slice (some ⟨g, 0, none⟩) (ln + 4) cp) (ln + 4) ((l ++ Num.marks).map (Value.int .i64)), colR 71 q (xs ++ l) M, colR 94 p (xs ++ l) M]) := hid (by have h := ((hXD.pull 3 rfl).drop).pull 2 rfl; rw [HLN.out]; exact h)
                have hml : ((l ++ Num.marks).map (Value.int .i64)).length = ln + 4 := by simp [Num.marks, HLN.out]
                have HML := hid hml
                clear hXD XA XB XC ka kal kb kbl kc kcl hml
                go_wp2_with fail
                go_loopw [76] (fun iv wr2 => ∃ (k : Nat) (ys : List Value), k ≤ ln ∧ iv = .int .i64 k ∧ ys.length = ln + 4 ∧ Star w wr2 [Row 3 1 (.slice (some ⟨g, 0, none⟩) (ln + 4) cp) (ln + 4) ys, colR 71 q (xs ++ l) M, colR 94 p (xs ++ l) M]) (fun iv _ => ln - (intOf iv).toNat)
                case atStart => exact ⟨0, _, by omega, rfl, HML.out, XD.out⟩
                case round =>
                  obtain ⟨k, ys, hk, rfl, hyl, hX⟩ := hrel
                  have XE := hid hX
                  clear hX XD
                  by_cases hkn : k < ln
                  · have hrow := (XE.out.row 0 rfl).1
                    have hf := hrow.frozenAt k
                    have hcc := (hrow.cellAt k (by omega)).trans (List.getElem?_eq_getElem (by omega))
                    have XF := hid (XE.out.store 0 rfl k (.int .i64 (-5)))
                    clear hrow XE
                    go_wp2
                    go_roundw
                    case rel =>
                      have hrel : ∃ (k' : Nat) (ys' : List Value), k' ≤ ln ∧ Value.int .i64 ((k : Int) + 1) = .int .i64 k' ∧ ys'.length = ln + 4 ∧ Star w _ [Row 3 1 (.slice (some ⟨g, 0, none⟩) (ln + 4) cp) (ln + 4) ys', colR 71 q (xs ++ l) M, colR 94 p (xs ++ l) M] := ⟨k + 1, ys.set k (.int .i64 (-5)), by omega, by go_num, by rw [List.length_set]; exact hyl, XF.out⟩
                      first | exact hrel | ((repeat apply Exists.intro); exact ⟨hrel, rfl⟩)
                    case measure => simp [intOf]; omega
                  · have X9 := hid (XE.out.drop.swap)
                    go_wp2
                    go_meet
                    exact ⟨p, (xs ++ l), rfl, rfl, by (try rw [List.length_append, ← HLN.out]); omega, X9.out⟩
        by_cases k2 : kind = 2
        · skip
          as_aux_lemma =>
            subst k2
            have X1 : Hid (Star w _ [colR 94 p xs M, Blk qo #[.int .i64 2, .int .i64 oi, .int .i64 ox, .slice al ln cl] 73, colR 71 q xs M]) := hid (XO.out.pull 1 rfl)
            clear XO o2 o3
            go_wp2_with fail
            by_cases hin : 0 ≤ oi ∧ oi < xs.length
            · obtain ⟨i, rfl⟩ := Int.eq_ofNat_of_zero_le hin.1
              have hix : xs[i]? = some (xs[i]'(by omega)) := List.getElem?_eq_getElem (by omega)
              generalize xs[i]'(by omega) = x at hix
              have HIX := hid hix
              have HHAS : has xs (i : Int) = true := decide_eq_true (by omega)
              clear hix
              refine (get_in X1.out i x HIX.out).mono ?_
              rintro r w5 ⟨rfl, hX⟩
              have X2 : Hid (Star w w5 [colR 71 q xs M, colR 94 p xs M, Blk qo #[.int .i64 2, .int .i64 i, .int .i64 ox, .slice al ln cl] 73]) := hid (hX.pull 2 rfl)
              have HHC : Hid (∀ k : Nat, Calls Tryd.prog 50 #[.pointer (some ⟨q, 0, none⟩), .int .i64 i] (w5.drewN k) fun r w' => r = .returned (.bool true) ∧ w' = w5.drewN k) := hid (fun k => (has_any (X2.out.go (w' := w5.drewN k) ((Chg.refl _).drewN k)) i).mono (fun r w' h => ⟨by rw [h.1, HHAS], h.2.symm⟩))
              obtain ⟨g, cg, e0, e1, -, egl, eql, -⟩ := colR_cell X2.out i x HIX.out
              have hxl : xs.length ≤ 10000 := by omega
              obtain ⟨nx, hnx⟩ : ∃ nx, nx = xs.length := ⟨_, rfl⟩
              rw [← hnx] at e0 hxl
              have HNX := hid hnx
              have hinx : 0 ≤ (i : Int) ∧ (i : Int) < (nx : Int) := by omega
              have hwn : IntKind.i64.wrap ((nx : Int) - 1) = (nx : Int) - 1 := IntWalk.i64_in _ (by omega)
              have hmm : max (min (i : Int) ((nx : Int) - 1)) 0 = (i : Int) := by omega
              have hwi : IntKind.i64.wrap (i : Int) = (i : Int) := IntWalk.i64_in _ (by omega)
              have o1 := cell_of (X2.out.blk 2 rfl).1 1
              have ol := lt_of (X2.out.blk 2 rfl).1
              simp only [List.getElem?_toArray, List.getElem?_cons_zero, List.getElem?_cons_succ] at o1
              clear hX X1 hnx HHAS
              go_wp2_with fail
              go_quiet ((go_at_call 50; exact Calls.quiet_of_same (HHC.out _)))
              have X3 : Hid (Star w _ [colR 94 p xs M, colR 71 q xs M]) := hid (((X2.out.pull 2 rfl).drop.swap).go (w' := w5.drewN nq) ((Chg.refl _).drewN nq))
              go_wp2
              go_meet
              exact ⟨p, xs, rfl, rfl, by have := HNX.out; omega, X3.out⟩
            · have hout : oi < 0 ∨ (xs.length : Int) ≤ oi := by omega
              have HO := hid hout
              have HHAS : has xs oi = false := decide_eq_false (by omega)
              clear hin hout
              refine (get_out X1.out oi HO.out _ (HE.out.same X1.out.same).c0).mono ?_
              rintro r w5 ⟨rfl, hX⟩
              have X2 : Hid (Star w w5 [colR 71 q xs M, colR 94 p xs M, Blk qo #[.int .i64 2, .int .i64 oi, .int .i64 ox, .slice al ln cl] 73]) := hid (hX.pull 2 rfl)
              have HHC : Hid (∀ n : SameW w5, Calls Tryd.prog 50 #[.pointer (some ⟨q, 0, none⟩), .int .i64 oi] n.w fun r w' => r = .returned (.bool false) ∧ n.w = w') := hid (fun n => (has_any (X2.out.go (w' := n.w) n.same) oi).mono (fun r w' h => ⟨by rw [h.1, HHAS], h.2⟩))
              have HNUM : Hid (∀ n : SameW w5, Calls Tryd.prog 42 #[.iface 116 (.pointer (some (ad 0)))] n.w fun r w' => r = .returned (.int .i64 1) ∧ Same n.w w') := hid (fun n => Err.num ad 1 (by omega) n.w ((HE.out.same X2.out.same).same n.same))
              have o1 := cell_of (X2.out.blk 2 rfl).1 1
              have ol := lt_of (X2.out.blk 2 rfl).1
              simp only [List.getElem?_toArray, List.getElem?_cons_zero, List.getElem?_cons_succ] at o1
              have oc := SameW.cell o1
              clear hX X1 HHAS
              go_wp2_with fail
              refine wp_region_same (by kernel_rfl) (by kernel_rfl) ?_
              iterate 45 (go_big_quiet_step (first | (go_at_call 50; with_reducible exact Calls.same_of_eq (HHC.out _)) | (go_at_call 42; with_reducible exact Calls.same_of (HNUM.out _))))
              with_reducible refine wpQuiet_nil ?_
              intro w8 hw8
              obtain ⟨m8, rfl⟩ := hw8
              have X3 : Hid (Star w _ [colR 94 p xs M, colR 71 q xs M]) := hid (((X2.out.pull 2 rfl).drop.swap).go m8.same)
              go_wp2
              go_meet
              exact ⟨p, xs, rfl, rfl, by omega, X3.out⟩
        by_cases k3 : kind = 3
        · skip
          as_aux_lemma =>
            subst k3
            have X1 : Hid (Star w _ [colR 94 p xs M, Blk qo #[.int .i64 3, .int .i64 oi, .int .i64 ox, .slice al ln cl] 73, colR 71 q xs M]) := hid (XO.out.pull 1 rfl)
            clear XO o3
            go_wp2_with fail
            by_cases hin : 0 ≤ oi ∧ oi < xs.length
            · obtain ⟨i, rfl⟩ := Int.eq_ofNat_of_zero_le hin.1
              have hix : xs[i]? = some (xs[i]'(by omega)) := List.getElem?_eq_getElem (by omega)
              generalize xs[i]'(by omega) = x at hix
              have HIX := hid hix
              have HHAS : has xs (i : Int) = true := decide_eq_true (by omega)
              clear hix
              refine (set_in X1.out i ox (by omega)).mono ?_
              rintro r w5 ⟨rfl, hX⟩
              have X2 : Hid (Star w w5 [colR 71 q xs M, colR 94 p (xs.set i ox) M, Blk qo #[.int .i64 3, .int .i64 i, .int .i64 ox, .slice al ln cl] 73]) := hid (hX.pull 2 rfl)
              have o1 := cell_of (X2.out.blk 2 rfl).1 1
              have o2 := cell_of (X2.out.blk 2 rfl).1 2
              have ol := lt_of (X2.out.blk 2 rfl).1
              simp only [List.getElem?_toArray, List.getElem?_cons_zero, List.getElem?_cons_succ] at o1 o2
              clear hX X1
              go_wp2_with fail
              refine (has_any X2.out i).mono ?_
              rintro r w6 ⟨rfl, rfl⟩
              rw [HHAS]
              obtain ⟨ma, mc, m0, -, -, ml, mi, mx⟩ := ref_facts X2.out
              have hxl : xs.length ≤ 10000 := by omega
              have MI : Hid (Reads w5 (.slice ma xs.length mc) xs.length 1 (iv xs)) := hid mi
              obtain ⟨nx, hnx⟩ : ∃ nx, nx = xs.length := ⟨_, rfl⟩
              simp only [← hnx] at m0 mx MI hxl
              have HNX := hid hnx
              clear mi hnx
              go_wp2_with (at_builtin; refine wpList_app rfl (.tmp 149) (.tmp 153) 23 rfl 3 i0 (.int .i64 0) 1 8 Tryd.underlying23 hi0 hz0 hz1 hz2 rfl (by decide) _ 0 [] rfl (World.ownsRow_lit w5 #[] 0 (Nat.zero_le _) (by unfold maxLen; omega) rfl) ma nx mc (iv xs) rfl (MI.out.same ((Chg.refl _).alloc _)) (iv_one xs) (by omega) (by omega) ?_; rw [Nat.zero_add, List.nil_append]; intro a1 c1 w1 ho1 hg1 hn1; have S1 := hid (show Same w5 w1 from ((Chg.refl _).alloc _).grown hg1 (fun k e f => by have e' : w5.heap.size = k := Option.some.inj e; omega)); have N1 := hid (show After w5 (.slice a1 nx c1) by intro k hk; rcases hn1 with e | e; (have hk2 := hk; rw [e] at hk2; have e' : w5.heap.size = k := Option.some.inj hk2; omega); (have := e k hk; simp at this; omega)); have d1 := S1.out.keep m0; have dl1 : q < w1.heap.size := Nat.lt_of_lt_of_le ml S1.out.size; obtain ⟨hf2, hput⟩ := colR_put (xs' := xs) X2.out S1.out (by rw [← HNX.out]; exact ho1) N1.out; have X3 := hid hput; clear ho1 hg1 hn1 hput)
              clear X2 m0 ml mx o1 o2 ol d1 dl1 hf2 MI
              generalize World.setCell _ _ _ = w7 at *
              obtain ⟨g, cg, e0, e1, ef, egl, eql, eset⟩ := colR_cell (X3.out.go (w' := w7.drew) ((Chg.refl _).drew)) i x HIX.out
              rw [← HNX.out] at e0
              have f0 : w7.cell? ⟨q, 0, none⟩ = some (.slice (some ⟨g, 0, none⟩) nx cg) := e0
              have f1 : w7.cell? ⟨g, i, none⟩ = some (.int .i64 x) := e1
              have f2 : w7.frozen? ⟨g, i, none⟩ = false := ef
              have fgl : g < w7.heap.size := egl
              have fql : q < w7.heap.size := eql
              have hinx : i < nx := by have := HNX.out; omega
              have o1 := cell_of (X3.out.blk 2 rfl).1 1
              have o2 := cell_of (X3.out.blk 2 rfl).1 2
              have ol := lt_of (X3.out.blk 2 rfl).1
              simp only [List.getElem?_toArray, List.getElem?_cons_zero, List.getElem?_cons_succ] at o1 o2
              have ES := hid (eset ox)
              clear e0 e1 ef egl eql eset
              go_region
              all_goals
                have X4 : Hid (Star w _ [colR 94 p (xs.set i ox) M, colR 71 q (xs.set i ox) M]) := hid ((ES.out.pull 2 rfl).drop.swap)
                go_wp2
                go_meet
                exact ⟨p, xs.set i ox, rfl, rfl, by rw [List.length_set]; omega, X4.out⟩
            · have hout : oi < 0 ∨ (xs.length : Int) ≤ oi := by omega
              have HO := hid hout
              have HHAS : has xs oi = false := decide_eq_false (by omega)
              clear hin hout
              refine (set_out X1.out oi ox HO.out _ (HE.out.same X1.out.same).c0).mono ?_
              rintro r w5 ⟨rfl, hX⟩
              have X2 : Hid (Star w w5 [colR 71 q xs M, colR 94 p xs M, Blk qo #[.int .i64 3, .int .i64 oi, .int .i64 ox, .slice al ln cl] 73]) := hid (hX.pull 2 rfl)
              have o1 := cell_of (X2.out.blk 2 rfl).1 1
              have ol := lt_of (X2.out.blk 2 rfl).1
              simp only [List.getElem?_toArray, List.getElem?_cons_zero, List.getElem?_cons_succ] at o1
              clear hX X1
              go_wp2_with fail
              refine (has_any X2.out oi).mono ?_
              rintro r w6 ⟨rfl, rfl⟩
              rw [HHAS]
              have X3 : Hid (Star w w5 [colR 94 p xs M, colR 71 q xs M]) := hid ((X2.out.pull 2 rfl).drop.swap)
              go_wp2_with fail
              refine (Err.num ad 1 (by omega) _ (HE.out.same X3.out.same)).mono ?_
              rintro r w7 ⟨rfl, hs7⟩
              have X4 := hid (X3.out.go hs7)
              clear hs7
              go_wp2
              go_meet
              exact ⟨p, xs, rfl, rfl, by omega, X4.out⟩
        by_cases k4 : kind = 4
        · skip
          as_aux_lemma =>
            subst k4
            have X1 : Hid (Star w _ [colR 94 p xs M, Blk qo #[.int .i64 4, .int .i64 oi, .int .i64 ox, .slice al ln cl] 73, colR 71 q xs M]) := hid (XO.out.pull 1 rfl)
            clear XO o2 o3
            go_wp2_with fail
            by_cases hin : 0 ≤ oi ∧ oi < xs.length
            · obtain ⟨i, rfl⟩ := Int.eq_ofNat_of_zero_le hin.1
              have hix : xs[i]? = some (xs[i]'(by omega)) := List.getElem?_eq_getElem (by omega)
              generalize xs[i]'(by omega) = x at hix
              have HIX := hid hix
              have htl := out_len xs i (xs.length - 1) (by omega)
              clear hix
              refine (take_in X1.out i x HIX.out).mono ?_
              rintro r w5 ⟨rfl, hX⟩
              have X2 : Hid (Star w w5 [colR 71 q xs M, colR 94 p (takeOut xs i) M, Blk qo #[.int .i64 4, .int .i64 i, .int .i64 ox, .slice al ln cl] 73]) := hid (hX.pull 2 rfl)
              have o1 := cell_of (X2.out.blk 2 rfl).1 1
              have ol := lt_of (X2.out.blk 2 rfl).1
              simp only [List.getElem?_toArray, List.getElem?_cons_zero, List.getElem?_cons_succ] at o1
              clear hX X1
              go_wp2_with fail
              refine (reftake_in X2.out i x HIX.out (by omega)).mono ?_
              rintro r w6 ⟨rfl, hX⟩
              have X3 : Hid (Star w w6 [colR 94 p (takeOut xs i) M, colR 71 q (takeOut xs i) M]) := hid ((hX.pull 2 rfl).drop.swap)
              clear hX X2
              go_wp2_with fail
              refine (Err.num_nil _).mono ?_
              rintro r w7 ⟨rfl, rfl⟩
              go_wp2
              go_meet
              exact ⟨p, takeOut xs i, rfl, rfl, by omega, X3.out⟩
            · have hout : oi < 0 ∨ (xs.length : Int) ≤ oi := by omega
              have HO := hid hout
              clear hin hout
              refine (take_out X1.out oi HO.out _ (HE.out.same X1.out.same).c0 ⟨_, _, rfl⟩).mono ?_
              rintro r w5 ⟨rfl, hX⟩
              have X2 : Hid (Star w w5 [colR 71 q xs M, colR 94 p xs M, Blk qo #[.int .i64 4, .int .i64 oi, .int .i64 ox, .slice al ln cl] 73]) := hid (hX.pull 2 rfl)
              have o1 := cell_of (X2.out.blk 2 rfl).1 1
              have ol := lt_of (X2.out.blk 2 rfl).1
              simp only [List.getElem?_toArray, List.getElem?_cons_zero, List.getElem?_cons_succ] at o1
              clear hX X1
              go_wp2_with fail
              refine (reftake_out X2.out oi (decide_eq_false (by have := HO.out; omega))).mono ?_
              rintro r w6 ⟨rfl, hX⟩
              have X3 : Hid (Star w w6 [colR 94 p xs M, colR 71 q xs M]) := hid ((hX.pull 2 rfl).drop.swap)
              clear hX X2
              go_wp2_with fail
              refine (Err.num ad 1 (by omega) _ (HE.out.same X3.out.same)).mono ?_
              rintro r w7 ⟨rfl, hs7⟩
              have X4 := hid (X3.out.go hs7)
              clear hs7
              go_wp2
              go_meet
              exact ⟨p, xs, rfl, rfl, by omega, X4.out⟩
        by_cases k5 : kind = 5
        · skip
          as_aux_lemma =>
            subst k5
            have X1 : Hid (Star w _ [colR 94 p xs M, Blk qo #[.int .i64 5, .int .i64 oi, .int .i64 ox, .slice al ln cl] 73, colR 71 q xs M]) := hid (XO.out.pull 1 rfl)
            clear XO o1 o2 o3
            go_wp2_with fail
            refine (clone_any X1.out (by omega)).mono ?_
            rintro r w5 ⟨q2, rfl, hX⟩
            have X2 : Hid (Star w w5 [colR 94 p xs M, colR 94 q2 xs M, Blk qo #[.int .i64 5, .int .i64 oi, .int .i64 ox, .slice al ln cl] 73, colR 71 q xs M]) := hid hX.swap
            clear hX X1
            go_wp2_with fail
            by_cases hx0 : xs.length = 0
            · refine (take_out X2.out 0 (.inr (by omega)) _ (HE.out.same X2.out.same).c0 ⟨_, _, rfl⟩).mono ?_
              rintro r w6 ⟨rfl, hX⟩
              have X3 : Hid (Star w w6 [colR 94 q2 xs M, colR 71 q xs M]) := hid ((hX.drop.pull 1 rfl).drop)
              clear hX X2
              go_wp2
              go_meet
              exact ⟨q2, xs, rfl, rfl, by omega, X3.out⟩
            · refine (take_in X2.out 0 (xs[0]'(by omega)) (List.getElem?_eq_getElem (by omega))).mono ?_
              rintro r w6 ⟨rfl, hX⟩
              have X3 : Hid (Star w w6 [colR 94 q2 xs M, colR 71 q xs M]) := hid ((hX.drop.pull 1 rfl).drop)
              clear hX X2
              go_wp2
              go_meet
              exact ⟨q2, xs, rfl, rfl, by omega, X3.out⟩
        · skip
          as_aux_lemma =>
            go_wp2
            go_meet
            exact ⟨p, xs, rfl, rfl, by omega, XO.out.drop⟩
    · go_wp2
      go_ret
      exact ⟨rfl, X.out.same⟩
end Go.Proofs.YtkjecihiipjngaaDoor.ColumnPlays
