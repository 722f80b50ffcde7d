/-
  HandlesPlays answers true for every input: the law's row and its tied card. Conditions: those of the given row alone.
-/
import Derived.Test.YtminjgfobcnmhaaDoorFrame
import Derived.Test.YtminjgfobcnmhaaDoorInOpH
import Derived.Test.YtminjgfobcnmhaaDoorInSlots
import Derived.Test.YtminjgfobcnmhaaDoorFrameErr
import Derived.Test.YtminjgfobcnmhaaDoorHandlesPlays
import Derived.SevenTiedAt
namespace Go.Proofs.YtminjgfobcnmhaaDoor.HandlesPlays
open Go Go.RowKit Go.ChangeShapes Go.WideShapes Go.ChangeAt

theorem doorMet (os : Os) (args : Array Value) : laidMetH Tryd.prog Rows.handlesPlaysRow.laid ((World.doorLaid Tryd.prog 199 os).forCall (fun _ _ => 0) ⟨#[], args, []⟩).memory :=
  laidMetH_of_parts3 (fuel := 8) (laidMet_of_run' 8 (by kernel_rfl) (by kernel_rfl)) (by kernel_rfl) (by kernel_rfl)

set_option maxRecDepth 100000 in
theorem lifted (os : Os) (started : os.Started) (H : Type) (enc : TypeId × Value → H) :
    ReturnsInHanded {} Tryd.checked os 12 .any (fun w args => (Rows.handlesPlaysSpec.pre enc Tryd.prog Tryd.f12 [] false w args ∧ laidMetH Tryd.prog Rows.handlesPlaysRow.laid w) ∧ sizedMet enc Tryd.prog Tryd.f12 (OpenSpec.ofChange Rows.handlesPlaysSpec) false w args)
      (Rows.handlesPlaysSpec.post enc Tryd.prog Tryd.f12 false true false false) := by
  refine returnsInHanded_of_change_and (C := Tryd.checked) (X := fun w _ => laidMetH Tryd.prog Rows.handlesPlaysRow.laid w) (fun _ _ _ hh h => h.of_heap hh) own started (by kernel_rfl) Tryd.func12
    (ChangeSpec.witness_shaped (enc := enc) (C := Tryd.checked) (os := os) (X := fun w _ => laidMetH Tryd.prog Rows.handlesPlaysRow.laid w) false (World.doorLaid Tryd.prog 199 os) #[.slice none 0 0, .slice none 0 0, .slice none 0 0] 8 rfl (World.shaped_of_RefB (by kernel_rfl) (by kernel_rfl)) (by kernel_rfl) (by kernel_rfl) (by kernel_rfl) (doorMet os _)) ?_
  intro W base args ds gs before hval0 hW _ hsz0 hL0 _
  have hL : laidMet Tryd.prog Rows.handlesPlaysRow.laid W := by
    have := hL0
    rw [MakeChecks.laidMetH_plain _ _ _ (by kernel_rfl)] at this
    exact this
  obtain ⟨ps, hLv, hLn, hLr⟩ := hL
  obtain ⟨ad, hE⟩ := errs_of (W := W) hLv hLn hLr
  have hW' := hW
  have hlt := hW.lt
  have hval : ∀ (j : Nat) t v, Tryd.f12.params[j]? = some t → args[j]? = some v → Value.okWide Tryd.prog W .any base t v := hval0
  have hsz : (DataW.weightsEach Tryd.prog (Tryd.f12.params.toList ++ Rows.handlesPlaysSpec.plain.varTypes Tryd.prog) (ds ++ gs)).all (· ≤ reachBytes) = true := hsz0
  obtain ⟨p, q, hA0, hV, rfl, _, _⟩ := hW
  have hA : DataW.TrodAll enc Tryd.prog W 0 (fun _ => true) true Tryd.f12.params.toList args.toList ds p := hA0
  obtain ⟨rfl, rfl⟩ := trodVars_none hV
  rw [Tryd.params12] at hA hval hsz
  obtain ⟨v0, vs0, d0, ds0, p0, q0, hargs, rfl, rfl, h0, r0⟩ := trodAll_cons hA
  obtain ⟨v1, vs1, d1, ds1, p1, q1, rfl, rfl, rfl, h1, r1⟩ := trodAll_cons r0
  obtain ⟨v2, vs2, d2, ds2, p2, q2, rfl, rfl, rfl, h2, r2⟩ := trodAll_cons r1
  obtain ⟨rfl, rfl, rfl⟩ := trodAll_nil r2
  obtain rfl : args = #[v0, v1, v2] := by cases args; simp_all
  obtain ⟨a0, n0, c0, rfl⟩ := okWide_slice Tryd.underlying52 (hval 0 52 v0 rfl rfl)
  obtain ⟨S0, hS0, hl0⟩ := in_slots Tryd.underlying52 Tryd.underlying58 (by kernel_rfl) Tryd.underlying3 (by kernel_rfl) Tryd.underlying4 (by kernel_rfl) ⟨rfl, rfl⟩ ⟨rfl, rfl⟩ (fun y hy => hlt y (by simp [hy])) ⟨_, _, _, rfl⟩ h0
  obtain ⟨a1, n1, c1, rfl⟩ := okWide_slice Tryd.underlying53 (hval 1 53 v1 rfl rfl)
  obtain ⟨xs1, hxs1, hl1, hc1⟩ := in_intsC Tryd.underlying53 Tryd.underlying3 (by kernel_rfl) (fun y hy => hlt y (by simp [hy])) ⟨_, _, _, rfl⟩ h1
  obtain ⟨a2, n2, c2, rfl⟩ := okWide_slice Tryd.underlying38 (hval 2 38 v2 rfl rfl)
  obtain ⟨os2, hos2, hl2⟩ := in_oph Tryd.underlying38 Tryd.underlying44 (by kernel_rfl) Tryd.underlying3 (by kernel_rfl) ⟨rfl, rfl⟩ ⟨rfl, rfl⟩ ⟨rfl, rfl⟩ Tryd.underlying42 (by kernel_rfl) ⟨rfl, rfl⟩ ⟨rfl, rfl⟩ (fun y hy => hlt y (by simp [hy])) ⟨_, _, _, rfl⟩ h2
  refine (walk S0 xs1 os2 _ _ _ W hS0 hxs1 hos2 (by have := hl0; unfold maxLen at this; omega) (by have := hl1; unfold maxLen at this; omega) (by have := hl2; unfold maxLen at this; omega) hc1 ad hE).mono ?_
  rintro r w' ⟨rfl, hs⟩
  exact ⟨_, rfl, law_post laidOut (by kernel_rfl) rfl Tryd.underlying4 rfl hW' (by simp [Rows.handlesPlaysSpec]) hs⟩

theorem said : Rows.HandlesPlaysSaid :=
  OpenClaim.holds_of_wide 12 Tryd.f12 rfl rfl rfl rfl rfl rfl rfl ⟨rfl, rfl, rfl, rfl, rfl⟩ rfl rfl rfl rfl rfl (by kernel_rfl) Tryd.func12 (by kernel_rfl)
    (of_decide_eq_true (by kernel_rfl)) (by unfold Func.isWrapper; first | (rw [if_pos (by decide +kernel)]; kernel_rfl) | (rw [if_neg (by decide +kernel)]; exact ⟨rfl, rfl⟩))
    (fun os started H enc _ => lifted os started H enc)

theorem plain (f : FuncId) (fn : Func) (hf : Tryd.pinned.checked.prog.funcNamed "paddock/paddocklaw04.HandlesPlays" = some f) (hfn : Tryd.pinned.checked.prog.funcs[f]? = some fn) :
    true = Tryd.pinned.checked.prog.looks [] ∧ ∀ (j : Nat) t, fn.params[j]? = some t → Tryd.pinned.checked.prog.wantsStandIn t = false := by
  obtain rfl : f = 12 := Option.some.inj ((show Tryd.prog.funcNamed "paddock/paddocklaw04.HandlesPlays" = some 12 by kernel_rfl).symm.trans hf) |>.symm
  obtain rfl : fn = Tryd.f12 := (Option.some.inj (Tryd.func12.symm.trans hfn)).symm
  refine ⟨by kernel_rfl, fun j t ht => ?_⟩
  rw [Tryd.params12] at ht
  have hm : t ∈ [52, 53, 38] := by simpa using Array.mem_of_getElem? ht
  have hall : ([52, 53, 38].all fun u => !Tryd.prog.wantsStandIn u) = true := by kernel_rfl
  exact (show Tryd.prog.wantsStandIn t = false by simpa using List.all_eq_true.1 hall t hm)

/-- The tied card. -/
theorem card : Rows.HandlesPlaysCardSaid :=
  Claim7.holds_tied_plain_at .later [] _ _ _ _ said (fun _ h => by cases h) (by kernel_rfl) (fun _ h => by cases h) handlesPlays_row_tie rfl ⟨rfl, rfl⟩ (by kernel_rfl) rfl plain (by kernel_rfl)
#print axioms card
end Go.Proofs.YtminjgfobcnmhaaDoor.HandlesPlays
