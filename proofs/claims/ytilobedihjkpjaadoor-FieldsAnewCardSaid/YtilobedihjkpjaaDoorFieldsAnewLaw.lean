/-
  FieldsAnew answers true for every input: the law's row and its tied card. Conditions: those of the given row alone.
-/
import Derived.Test.YtilobedihjkpjaaDoorFrame
import Derived.Test.YtilobedihjkpjaaDoorInGrid
import Derived.Test.YtilobedihjkpjaaDoorInAsk19
import Derived.Test.YtilobedihjkpjaaDoorFrameErr
import Derived.Test.YtilobedihjkpjaaDoorFieldsAnew
import Derived.SevenTiedAt
namespace Go.Proofs.YtilobedihjkpjaaDoor.FieldsAnew
open Go Go.RowKit Go.ChangeShapes Go.WideShapes Go.ChangeAt

theorem doorMet (os : Os) (args : Array Value) : laidMetH Tryd.prog Rows.fieldsAnewRow.laid ((World.doorLaid Tryd.prog 199 os).forCall (fun _ _ => 0) ⟨#[], args, []⟩).memory :=
  laidMetH_of_parts3 (fuel := 8) (laidMet_of_run' 8 (by kernel_rfl) (by kernel_rfl)) (by kernel_rfl) (by kernel_rfl)

set_option maxRecDepth 100000 in
theorem lifted (os : Os) (started : os.Started) (H : Type) (enc : TypeId × Value → H) :
    ReturnsInHanded {} Tryd.checked os 5 .any (fun w args => (Rows.fieldsAnewSpec.pre enc Tryd.prog Tryd.f5 [] false w args ∧ laidMetH Tryd.prog Rows.fieldsAnewRow.laid w) ∧ sizedMet enc Tryd.prog Tryd.f5 (OpenSpec.ofChange Rows.fieldsAnewSpec) false w args)
      (Rows.fieldsAnewSpec.post enc Tryd.prog Tryd.f5 false true false false) := by
  refine returnsInHanded_of_change_and (C := Tryd.checked) (X := fun w _ => laidMetH Tryd.prog Rows.fieldsAnewRow.laid w) (fun _ _ _ hh h => h.of_heap hh) own started (by kernel_rfl) Tryd.func5
    (ChangeSpec.witness_shaped (enc := enc) (C := Tryd.checked) (os := os) (X := fun w _ => laidMetH Tryd.prog Rows.fieldsAnewRow.laid w) false (World.doorLaid Tryd.prog 199 os) #[.agg #[.int .i64 0, .int .i64 0, .int .i64 0, .int .i64 0, .int .i64 0], .slice none 0 0, .slice none 0 0] 8 rfl (World.shaped_of_RefB (by kernel_rfl) (by kernel_rfl)) (by kernel_rfl) (by kernel_rfl) (by kernel_rfl) (doorMet os _)) ?_
  intro W base args ds gs before hval0 hW _ hsz0 hL0 _
  have hL : laidMet Tryd.prog Rows.fieldsAnewRow.laid W := by
    have := hL0
    rw [MakeChecks.laidMetH_plain _ _ _ (by kernel_rfl)] at this
    exact this
  obtain ⟨ps, hLv, hLn, hLr⟩ := hL
  obtain ⟨ads, hal, _, _, hse⟩ := sents_of errT [("paddock/api.ErrRange", 1, _), ("paddock/api.ErrFull", 2, _), ("paddock/api.ErrNone", 3, _), ("paddock/api.ErrForm", 7, _), ("paddock/api.ErrGoal", 0, _)] (r := []) hLv hLn hLr (by intro x hx; simp only [List.mem_cons, List.not_mem_nil, or_false] at hx; rcases hx with rfl | rfl | rfl | rfl | rfl <;> exact ⟨by kernel_rfl, by kernel_rfl⟩)
  have hErrRange := hse 0 _ (ads[0]'(by rw [hal]; decide)) rfl (by simp)
  have hErrFull := hse 1 _ (ads[1]'(by rw [hal]; decide)) rfl (by simp)
  have hErrNone := hse 2 _ (ads[2]'(by rw [hal]; decide)) rfl (by simp)
  have hErrForm := hse 3 _ (ads[3]'(by rw [hal]; decide)) rfl (by simp)
  have hErrGoal := hse 4 _ (ads[4]'(by rw [hal]; decide)) rfl (by simp)
  obtain ⟨ad, hE⟩ := Err.errsS_of hErrRange.cell hErrFull.cell hErrNone.cell hErrForm.cell hErrGoal.cell
  have hW' := hW
  have hlt := hW.lt
  have hval : ∀ (j : Nat) t v, Tryd.f5.params[j]? = some t → args[j]? = some v → Value.okWide Tryd.prog W .any base t v := hval0
  have hsz : (DataW.weightsEach Tryd.prog (Tryd.f5.params.toList ++ Rows.fieldsAnewSpec.plain.varTypes Tryd.prog) (ds ++ gs)).all (· ≤ reachBytes) = true := hsz0
  obtain ⟨p, q, hA0, hV, rfl, _, _⟩ := hW
  have hA : DataW.TrodAll enc Tryd.prog W 0 (fun _ => true) true Tryd.f5.params.toList args.toList ds p := hA0
  obtain ⟨rfl, rfl⟩ := trodVars_none hV
  rw [Tryd.params5] at hA hval hsz
  obtain ⟨v0, vs0, d0, ds0, p0, q0, hargs, rfl, rfl, h0, r0⟩ := trodAll_cons hA
  obtain ⟨v1, vs1, d1, ds1, p1, q1, rfl, rfl, rfl, h1, r1⟩ := trodAll_cons r0
  obtain ⟨v2, vs2, d2, ds2, p2, q2, rfl, rfl, rfl, h2, r2⟩ := trodAll_cons r1
  obtain ⟨rfl, rfl, rfl⟩ := trodAll_nil r2
  obtain rfl : args = #[v0, v1, v2] := by cases args; simp_all
  obtain ⟨g0, rfl⟩ := in_grid Tryd.underlying23 (by kernel_rfl) Tryd.underlying3 (by kernel_rfl) ⟨rfl, rfl⟩ ⟨rfl, rfl⟩ ⟨rfl, rfl⟩ ⟨rfl, rfl⟩ ⟨rfl, rfl⟩ (hval 0 23 v0 rfl rfl) h0
  obtain ⟨a1, n1, c1, rfl⟩ := okWide_slice Tryd.underlying24 (hval 1 24 v1 rfl rfl)
  obtain ⟨xs1, hxs1, hb1, hd1⟩ := in_ints Tryd.underlying24 Tryd.underlying3 (by kernel_rfl) (fun y hy => hlt y (by simp [hy])) ⟨_, _, _, rfl⟩ h1
  have hx1 := ints_reach hsz (j := 1) rfl rfl Tryd.underlying24 (by kernel_rfl) hd1
  obtain ⟨a2, n2, c2, rfl⟩ := okWide_slice Tryd.underlying25 (hval 2 25 v2 rfl rfl)
  obtain ⟨ys2, _, hrt2, hallt2, hytl2, _, _⟩ := in_rows Tryd.underlying25 (show Tryd.prog.cellsOf 24 = 1 by kernel_rfl) (by omega) (fun y hy => hlt y (by simp [hy])) ⟨_, _, _, rfl⟩ h2
  obtain ⟨ls2, ls12, ls22, ls32⟩ := lists_of Tryd.underlying24 Tryd.underlying3 (by kernel_rfl) ys2 hallt2
  refine (walk g0 _ xs1 _ ls2 W hxs1 (by omega) (by rw [ls12, ls22]; exact hrt2) ls32 (by rw [ls12]; have := hytl2; unfold maxLen at this; omega) ad hE).mono ?_
  rintro r w' ⟨rfl, hs⟩
  exact ⟨_, rfl, law_post laidOut (by kernel_rfl) rfl Tryd.underlying4 rfl hW' (by simp [Rows.fieldsAnewSpec]) hs⟩

theorem said : Rows.FieldsAnewSaid :=
  OpenClaim.holds_of_wide 5 Tryd.f5 rfl rfl rfl rfl rfl rfl rfl ⟨rfl, rfl, rfl, rfl, rfl⟩ rfl rfl rfl rfl rfl (by kernel_rfl) Tryd.func5 (by kernel_rfl)
    (of_decide_eq_true (by kernel_rfl)) (by unfold Func.isWrapper; first | (rw [if_pos (by decide +kernel)]; kernel_rfl) | (rw [if_neg (by decide +kernel)]; exact ⟨rfl, rfl⟩))
    (fun os started H enc _ => lifted os started H enc)

theorem plain (f : FuncId) (fn : Func) (hf : Tryd.pinned.checked.prog.funcNamed "paddock/paddocklaw20.FieldsAnew" = some f) (hfn : Tryd.pinned.checked.prog.funcs[f]? = some fn) :
    true = Tryd.pinned.checked.prog.looks [] ∧ ∀ (j : Nat) t, fn.params[j]? = some t → Tryd.pinned.checked.prog.wantsStandIn t = false := by
  obtain rfl : f = 5 := Option.some.inj ((show Tryd.prog.funcNamed "paddock/paddocklaw20.FieldsAnew" = some 5 by kernel_rfl).symm.trans hf) |>.symm
  obtain rfl : fn = Tryd.f5 := (Option.some.inj (Tryd.func5.symm.trans hfn)).symm
  refine ⟨by kernel_rfl, fun j t ht => ?_⟩
  rw [Tryd.params5] at ht
  have hm : t ∈ [23, 24, 25] := by simpa using Array.mem_of_getElem? ht
  have hall : ([23, 24, 25].all fun u => !Tryd.prog.wantsStandIn u) = true := by kernel_rfl
  exact (show Tryd.prog.wantsStandIn t = false by simpa using List.all_eq_true.1 hall t hm)

/-- The tied card. -/
theorem card : Rows.FieldsAnewCardSaid :=
  Claim7.holds_tied_plain_at .later [] _ _ _ _ said (fun _ h => by cases h) (by kernel_rfl) (fun _ h => by cases h) fieldsAnew_row_tie rfl ⟨rfl, rfl⟩ (by kernel_rfl) rfl plain (by kernel_rfl)
#print axioms card
end Go.Proofs.YtilobedihjkpjaaDoor.FieldsAnew
