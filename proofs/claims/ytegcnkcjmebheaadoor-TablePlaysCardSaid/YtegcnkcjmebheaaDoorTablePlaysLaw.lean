/-
  TablePlays answers true for every input: the law's row and its tied card. Conditions: those of the given row alone.
-/
import Derived.Test.YtegcnkcjmebheaaDoorFrame
import Derived.Test.YtegcnkcjmebheaaDoorFrameErr
import Derived.Test.YtegcnkcjmebheaaDoorTabTab
import Derived.Test.YtegcnkcjmebheaaDoorIn07b
import Derived.Test.YtegcnkcjmebheaaDoorTablePlays
import Derived.SevenTiedAt
namespace Go.Proofs.YtegcnkcjmebheaaDoor.TablePlays
open Go Go.RowKit Go.ChangeShapes Go.WideShapes Go.ChangeAt

theorem doorMet (os : Os) (args : Array Value) : laidMetH Tryd.prog Rows.tablePlaysRow.laid ((World.doorLaid Tryd.prog 204 os).forCall (fun _ _ => 0) ⟨#[], args, []⟩).memory :=
  laidMetH_of_parts3 (fuel := 8) (laidMet_of_run' 8 (by kernel_rfl) (by kernel_rfl)) (by kernel_rfl) (by kernel_rfl)

set_option maxRecDepth 100000 in
theorem lifted (os : Os) (started : os.Started) (H : Type) (enc : TypeId × Value → H) :
    ReturnsInHanded {} Tryd.checked os 6 .any (fun w args => (Rows.tablePlaysSpec.pre enc Tryd.prog Tryd.f6 [] false w args ∧ laidMetH Tryd.prog Rows.tablePlaysRow.laid w) ∧ sizedMet enc Tryd.prog Tryd.f6 (OpenSpec.ofChange Rows.tablePlaysSpec) false w args)
      (Rows.tablePlaysSpec.post enc Tryd.prog Tryd.f6 false true false false) := by
  refine returnsInHanded_of_change_and (C := Tryd.checked) (X := fun w _ => laidMetH Tryd.prog Rows.tablePlaysRow.laid w) (fun _ _ _ hh h => h.of_heap hh) own started (by kernel_rfl) Tryd.func6
    (ChangeSpec.witness_shaped (enc := enc) (C := Tryd.checked) (os := os) (X := fun w _ => laidMetH Tryd.prog Rows.tablePlaysRow.laid w) false (World.doorLaid Tryd.prog 204 os) #[.int .u64 0, .slice none 0 0] 8 rfl (World.shaped_of_RefB (by kernel_rfl) (by kernel_rfl)) (by kernel_rfl) (by kernel_rfl) (by kernel_rfl) (doorMet os _)) ?_
  intro W base args ds gs before hval0 hW _ hsz0 hL0 _
  have hL : laidMet Tryd.prog Rows.tablePlaysRow.laid W := by
    have := hL0
    rw [MakeChecks.laidMetH_plain _ _ _ (by kernel_rfl)] at this
    exact this
  obtain ⟨ps, hLv, hLn, hLr⟩ := hL
  have hTab := tab_of hLv
  obtain ⟨ps, hLv, hLn, hLr⟩ := laid_rest hLv hLn hLr
  obtain ⟨ad, hE⟩ := errs_of (W := W) hLv hLn hLr
  have hW' := hW
  have hlt := hW.lt
  have hval : ∀ (j : Nat) t v, Tryd.f6.params[j]? = some t → args[j]? = some v → Value.okWide Tryd.prog W .any base t v := hval0
  have hsz : (DataW.weightsEach Tryd.prog (Tryd.f6.params.toList ++ Rows.tablePlaysSpec.plain.varTypes Tryd.prog) (ds ++ gs)).all (· ≤ reachBytes) = true := hsz0
  obtain ⟨p, q, hA0, hV, rfl, _, _⟩ := hW
  have hA : DataW.TrodAll enc Tryd.prog W 0 (fun _ => true) true Tryd.f6.params.toList args.toList ds p := hA0
  obtain ⟨rfl, rfl⟩ := trodVars_none hV
  rw [Tryd.params6] at hA hval hsz
  obtain ⟨v0, vs0, d0, ds0, p0, q0, hargs, rfl, rfl, h0, r0⟩ := trodAll_cons hA
  obtain ⟨v1, vs1, d1, ds1, p1, q1, rfl, rfl, rfl, h1, r1⟩ := trodAll_cons r0
  obtain ⟨rfl, rfl, rfl⟩ := trodAll_nil r1
  obtain rfl : args = #[v0, v1] := by cases args; simp_all
  obtain ⟨x0, rfl, rfl, rfl, wx0⟩ := open_int Tryd.underlying30 (hval 0 30 v0 rfl rfl) h0
  obtain ⟨m0, rfl, hm0⟩ : ∃ m0 : Nat, x0 = (m0 : Int) ∧ m0 ≤ 18446744073709551615 := ⟨x0.toNat, by
    have h1 : IntKind.u64.min = 0 := rfl
    have h2 : IntKind.u64.max = 18446744073709551615 := rfl
    simp only [Lit.wf, Bool.and_eq_true, decide_eq_true_eq] at wx0
    omega⟩
  obtain ⟨a1, n1, c1, rfl⟩ := okWide_slice Tryd.underlying63 (hval 1 63 v1 rfl rfl)
  obtain ⟨os1, hos1, hl1, hall1⟩ := in_opt Tryd.underlying63 Tryd.underlying70 (by kernel_rfl) Tryd.underlying3 (by kernel_rfl) Tryd.underlying35 (by kernel_rfl) Tryd.underlying38 (by kernel_rfl) Tryd.underlying37 (by kernel_rfl) ⟨rfl, rfl⟩ ⟨rfl, rfl⟩ ⟨rfl, rfl⟩ ⟨rfl, rfl⟩ ⟨rfl, rfl⟩ ⟨rfl, rfl⟩ ⟨rfl, rfl⟩ ⟨rfl, rfl⟩ ⟨rfl, rfl⟩ ⟨rfl, rfl⟩ ⟨rfl, rfl⟩ (fun y hy => hlt y (by simp [hy])) ⟨_, _, _, rfl⟩ h1
  refine (walk m0 hm0 _ os1 W hos1 (by unfold maxLen at hl1; omega) (fun o ho => ⟨(hall1 o ho).1, (hall1 o ho).2.1, (hall1 o ho).2.2⟩) ad hE hTab).mono ?_
  rintro r w' ⟨rfl, hs⟩
  exact ⟨_, rfl, law_post laidOut (by kernel_rfl) rfl Tryd.underlying4 rfl hW' (by simp [Rows.tablePlaysSpec]) hs⟩

theorem said : Rows.TablePlaysSaid :=
  OpenClaim.holds_of_wide 6 Tryd.f6 rfl rfl rfl rfl rfl rfl rfl ⟨rfl, rfl, rfl, rfl, rfl⟩ rfl rfl rfl rfl rfl (by kernel_rfl) Tryd.func6 (by kernel_rfl)
    (of_decide_eq_true (by kernel_rfl)) (by unfold Func.isWrapper; first | (rw [if_pos (by decide +kernel)]; kernel_rfl) | (rw [if_neg (by decide +kernel)]; exact ⟨rfl, rfl⟩))
    (fun os started H enc _ => lifted os started H enc)

theorem plain (f : FuncId) (fn : Func) (hf : Tryd.pinned.checked.prog.funcNamed "paddock/paddocklaw07.TablePlays" = some f) (hfn : Tryd.pinned.checked.prog.funcs[f]? = some fn) :
    true = Tryd.pinned.checked.prog.looks [] ∧ ∀ (j : Nat) t, fn.params[j]? = some t → Tryd.pinned.checked.prog.wantsStandIn t = false := by
  obtain rfl : f = 6 := Option.some.inj ((show Tryd.prog.funcNamed "paddock/paddocklaw07.TablePlays" = some 6 by kernel_rfl).symm.trans hf) |>.symm
  obtain rfl : fn = Tryd.f6 := (Option.some.inj (Tryd.func6.symm.trans hfn)).symm
  refine ⟨by kernel_rfl, fun j t ht => ?_⟩
  rw [Tryd.params6] at ht
  have hm : t ∈ [30, 63] := by simpa using Array.mem_of_getElem? ht
  have hall : ([30, 63].all fun u => !Tryd.prog.wantsStandIn u) = true := by kernel_rfl
  exact (show Tryd.prog.wantsStandIn t = false by simpa using List.all_eq_true.1 hall t hm)

/-- The tied card. -/
theorem card : Rows.TablePlaysCardSaid :=
  Claim7.holds_tied_plain_at .later [] _ _ _ _ said (fun _ h => by cases h) (by kernel_rfl) (fun _ h => by cases h) tablePlays_row_tie rfl ⟨rfl, rfl⟩ (by kernel_rfl) rfl plain (by kernel_rfl)
#print axioms card
end Go.Proofs.YtegcnkcjmebheaaDoor.TablePlays
