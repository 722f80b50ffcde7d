/-
  FieldsNumbers: the walk.
-/
import Derived.Test.YtilobedihjkpjaaDoorAlive20
import Derived.Test.YtilobedihjkpjaaDoorFsNum
import Derived.Deep.CutBlock
import Derived.Deep.DeepCutAuto
namespace Go.Proofs.YtilobedihjkpjaaDoor.FieldsNumbers
open Go Go.RowKit Go.Maps Go.Proofs.YtilobedihjkpjaaDoor.Err Go.Proofs.YtilobedihjkpjaaDoor.Steps Go.Proofs.YtilobedihjkpjaaDoor.Ord Go.Proofs.YtilobedihjkpjaaDoor.Route Go.Proofs.YtilobedihjkpjaaDoor.Fld Go.Proofs.YtilobedihjkpjaaDoor.Fs
/-- Which ones are open. -/
abbrev isB (st : Nat → Option Slot) (k : Nat) : Value := .bool (st k).isSome
abbrev opens (st : Nat → Option Slot) : Array Value := #[isB st 0, isB st 1, isB st 2, isB st 3]
theorem opens_get (st : Nat → Option Slot) : ∀ k, k < 4 → (opens st)[k]? = some (isB st k)
  | 0, _ | 1, _ | 2, _ | 3, _ => rfl
  | k + 4, h => by omega
theorem opens_set (st : Nat → Option Slot) (o : Option Slot) (b : Bool) (ho : o.isSome = b) : ∀ k, k < 4 → (opens st).setIfInBounds k (.bool b) = opens (upd st k o)
  | 0, _ | 1, _ | 2, _ | 3, _ => by subst ho; simp [opens, isB, upd]
  | k + 4, h => by omega
/-- How many of the first k are open. -/
def cntTo (st : Nat → Option Slot) : Nat → Nat
  | 0 => 0
  | k + 1 => cntTo st k + Fs.one (st k)
theorem cntTo_le (st : Nat → Option Slot) : ∀ k, cntTo st k ≤ k
  | 0 => Nat.le_refl _
  | k + 1 => by
    have h1 := cntTo_le st k
    have h2 : Fs.one (st k) ≤ 1 := by unfold Fs.one; split <;> omega
    show cntTo st k + Fs.one (st k) ≤ k + 1
    omega
theorem keys_cnt (st : Nat → Option Slot) : (keys st).length = cntTo st 4 := by
  unfold keys
  rw [List.length_map, show List.range 4 = [0, 1, 2, 3] from rfl]
  simp only [cntTo, Fs.one, List.filter_cons, List.filter_nil]
  cases (st 0).isSome <;> cases (st 1).isSome <;> cases (st 2).isSome <;> cases (st 3).isSome <;> rfl
section
set_option maxRecDepth 100000 in
set_option maxHeartbeats 16000000 in
theorem walk (xs : List Int) (v : Value) (w : World) (hr : Ints w v xs) (hb : xs.length ≤ 9223372036854775807) (ad : Nat → Addr) (hE : Errs w ad) :
    Calls Tryd.prog 8 #[v] w fun r w' => r = .returned (.bool true) ∧ Same w w' := by
  obtain ⟨a, cb, rfl⟩ := hr.slice
  have HE := hid hE
  obtain ⟨n, hn⟩ : ∃ n, n = xs.length := ⟨_, rfl⟩
  have HN := hid hn
  have HB : Hid (∀ (j : Nat) (t : Int), xs[j]? = some t → ∃ b off cap, Value.slice a n cb = .slice (some ⟨b, off, none⟩) n cap ∧ w.cell? ⟨b, off + j, none⟩ = some (.int .i64 t)) := hid (fun j t ht => by
    obtain ⟨hj, e2⟩ := (List.getElem?_eq_some_iff.1 ht)
    obtain ⟨b, off, cap, e, _, hc⟩ := hr.cells (by omega)
    rw [← hn] at e
    exact ⟨b, off, cap, e, by rw [← e2]; exact hc j hj⟩)
  rw [← hn] at hb ⊢
  clear hr hE hn
  go_enter Tryd.func8, Tryd.ntmps8
  go_wp2_with fail
  refine (Fs.alive_any ad HE.out.set).mono ?_
  rintro r w1 ⟨rfl, hs1⟩
  have S1 := hid hs1
  clear hs1
  go_wp2_with fail
  refine (Fs.made_yes ⟨3, 3, 1, 0, 0⟩ [] _ (readsNil w1) (by simp) (by decide) (by decide) ad (HE.out.same S1.out).set.fld.two).mono ?_
  rintro r w2 ⟨s, gp, mb, m, mg, G, hok, -, hlen, rfl, hX⟩
  have hl3 : G.fs.length = 9 := hlen.trans (by decide)
  have HL := hid hl3
  have X2 : Hid (Star w w2 (setL s gp mb G 0 (fun _ => none) [modB m mg (.slice none 0 0) (.slice none 0 0) (.slice none 0 0) (.slice none 0 0) 0, gndR 76 mg G])) := hid (((Star.new w).go S1.out).lift hX)
  clear hX hok hlen hl3
  by_cases h60 : 60 < n
  · go_wp2_with fail
    go_ret
    exact ⟨rfl, X2.out.same⟩
  · go_wp2_with fail
    have X3 := hid (X2.out.alloc #[.bool false, .bool false, .bool false, .bool false] 80)
    clear X2
    generalize w2.alloc _ = w3 at *
    generalize w2.heap.size = ob at *
    generalize [modB m mg (.slice none 0 0) (.slice none 0 0) (.slice none 0 0) (.slice none 0 0) 0, gndR 76 mg G] = L at *
    go_loopw [33] (fun iv wr => ∃ (j : Nat) (st : Nat → Option Slot), j ≤ n ∧ iv = .int .i64 j ∧ (∀ k x, st k = some x → k < 4) ∧ Star w wr (Blk ob (opens st) 80 :: setL s gp mb G 0 st L)) (fun iv _ => n - (intOf iv).toNat)
    case atStart => exact ⟨0, fun _ => none, by omega, rfl, by simp, X3.out⟩
    case round =>
      obtain ⟨j, st, hj, rfl, hfew, hX⟩ := hrel
      have X := hid hX
      have HF := hid hfew
      have hbk := (hX.blk 0 rfl).1
      have C := hid (fun k (hk : k < 4) => (cell_of hbk k).trans (opens_get st k hk))
      have ol := lt_of hbk
      have hfz := hid (free_of hbk)
      clear hX hfew hbk X3
      by_cases hjn : j < n
      · obtain ⟨t, ht⟩ : ∃ t, xs[j]? = some t := ⟨_, List.getElem?_eq_getElem (by have := HN.out; omega)⟩
        obtain ⟨b, off, cap, e1, hc⟩ := HB.out j t ht
        cases e1
        have hc1 := X.out.same.keep hc
        have hbl := World.block_lt_of_cell? _ _ hc1
        clear hc ht
        by_cases hin : 0 ≤ t ∧ t < 4 ∧ (st t.toNat).isSome = true
        · obtain ⟨h0, h4, hsome⟩ := hin
          obtain ⟨k, rfl⟩ := Int.eq_ofNat_of_zero_le h0
          obtain ⟨x, hx⟩ := Option.isSome_iff_exists.1 hsome
          simp only [Int.ofNat_eq_natCast, Int.toNat_natCast] at *
          have hk : k < 4 := by omega
          have ck : wr.cell? ⟨ob, k, none⟩ = some (.bool true) := (C.out k hk).trans (by rw [isB, hx]; rfl)
          have fk := hfz.out k
          have X4 := hid (setIn (show Star w _ (Blk ob (opens (upd st k none)) 80 :: setL s gp mb G 0 st L) from opens_set st none false rfl k hk ▸ (X.out.put 0 rfl k (.bool false))))
          have HX := hid hx
          have HM := hid (show mapF (upd st k none) (.int .i64 (k : Int)) = none by rw [mapF_nat, upd_same]; rfl)
          have HKK := hid hk
          clear C hfz hx hsome X
          go_wp2_with (first
            | (go_at_call 40; refine (close_yes X4.out k hk x HX.out).mono ?_; rintro r w5 ⟨rfl, hX5⟩; have X5 := hid hX5; have hE5 := (HE.out.same hX5.same).c2; clear hX5 X4)
            | (go_at_call 40; refine (close_no X5.out k (by omega) (by omega) HM.out _ HE.out.c2).mono ?_; rintro r w6 ⟨rfl, rfl⟩)
            | (go_at_call 29; refine (num_err ad 2 (by omega) _ (HE.out.same X5.out.same)).mono ?_; rintro r w7 ⟨rfl, hs7⟩; have X7 := hid (X5.out.go hs7); clear hs7))
          go_roundw
          case rel => exact ⟨j + 1, upd st k none, by omega, by go_num, fun i y hy => by
            by_cases e : i = k
            · omega
            · rw [upd_other _ _ e] at hy
              exact HF.out i y hy, setOut X7.out⟩
          case measure => simp [intOf]; omega
        · go_upto_region 10 with fail
          go_cut [47] (fun s47 wx => s47 = Value.bool false ∧ wx = wr)
          case first =>
            by_cases h0 : 0 ≤ t
            · by_cases h4 : t < 4
              · obtain ⟨k, rfl⟩ := Int.eq_ofNat_of_zero_le h0
                simp only [Int.ofNat_eq_natCast, Int.toNat_natCast] at *
                have hk : k < 4 := by omega
                have ck : wr.cell? ⟨ob, k, none⟩ = some (.bool false) := (C.out k hk).trans (by
                  rw [isB]
                  cases hst : (st k).isSome
                  · rfl
                  · exact absurd ⟨h0, h4, hst⟩ hin)
                clear hin
                go_wp2_with fail
                go_meet
                exact ⟨rfl, rfl⟩
              · clear hin
                go_wp2_with fail
                go_meet
                exact ⟨rfl, rfl⟩
            · clear hin
              go_wp2_with fail
              go_meet
              exact ⟨rfl, rfl⟩
          case rest =>
            obtain ⟨rfl, rfl⟩ := hcut
            clear hin
            obtain ⟨mm, hm, hmod0⟩ := mod_small t 9 (by omega) (by omega)
            have hmod : wrap64 ((IntKind.u64.wrap t).tmod 9) = (mm : Int) := hmod0
            clear hmod0
            go_wp2_with fail
            go_loop [9] (fun iv => ∃ k : Nat, k ≤ 4 ∧ iv = .int .i64 k ∧ ∀ i, i < k → (st i).isSome = true) (fun iv => 4 - (intOf iv).toNat)
            case atStart => exact ⟨0, by omega, rfl, fun i h => by omega⟩
            case round =>
              obtain ⟨k, hk, rfl, hall⟩ := hrel
              have HA := hid hall
              clear hall
              by_cases hk4 : k < 4
              · cases hst : (st k).isSome with
                | true =>
                  have ck : wc.cell? ⟨ob, k, none⟩ = some (.bool true) := (C.out k hk4).trans (by rw [isB, hst])
                  have HST := hid hst
                  clear hst
                  go_wp2_with fail
                  go_round
                  case rel =>
                    refine ⟨k + 1, by omega, by go_num, fun i hi => ?_⟩
                    by_cases e : i = k
                    · subst e; exact HST.out
                    · exact HA.out i (by omega)
                  case measure => simp [intOf]; omega
                | false =>
                  have ck : wc.cell? ⟨ob, k, none⟩ = some (.bool false) := (C.out k hk4).trans (by rw [isB, hst])
                  have HST := hid (show st k = none by cases h : st k with
                    | none => rfl
                    | some x => rw [h] at hst; cases hst)
                  clear hst
                  have X5 := hid ((setIn X.out).alloc #[.int .i64 mm] 3)
                  have HGO := hid (show GoalsOk G [(mm : Int)] from goalOne (by rw [HL.out]; omega))
                  clear X
                  go_wp2_with fail
                  refine (open_any X5.out.drop [(mm : Int)] _ (reads_blk (X5.out.blk 0 rfl).1 1 1 1 rfl) (by simp) ad HE.out.set.fld _ HE.out.c1).mono ?_
                  rintro r w5 hcase
                  rcases hcase with ⟨k2, x, -, hk4', hk1, hk2, -, -, -, -, rfl, hX⟩ | ⟨-, hfull, -, -⟩ | ⟨_, hn, -⟩
                  · obtain rfl : k2 = k := first_is hk1 hk2 HST.out HA.out
                    have X6 := hid (setOut hX)
                    have hbk := (X6.out.blk 0 rfl).1
                    have ol6 := lt_of hbk
                    have hfz6 := free_of hbk k2
                    have ck6 : w5.cell? ⟨ob, k2, none⟩ = some (isB st k2) := (cell_of hbk k2).trans (opens_get st k2 hk4')
                    clear hX hbk hfz C X5 hk1 hk2 ol
                    go_wp2
                    go_roundw
                    case rel => exact ⟨j + 1, upd st k2 (some x), by omega, by go_num, fun i y hy => by
                      by_cases e : i = k2
                      · omega
                      · rw [upd_other _ _ e] at hy
                        exact HF.out i y hy, opens_set st (some x) true rfl k2 hk4' ▸ (X6.out.put 0 rfl k2 (.bool true))⟩
                    case measure => simp [intOf]; omega
                  · have := hfull k hk4; rw [HST.out] at this; cases this
                  · exact absurd HGO.out hn
              · have X5 := hid ((setIn X.out).alloc #[.int .i64 mm] 3)
                have HGO := hid (show GoalsOk G [(mm : Int)] from goalOne (by rw [HL.out]; omega))
                obtain rfl : k = 4 := by omega
                clear X
                go_wp2_with fail
                refine (open_any X5.out.drop [(mm : Int)] _ (reads_blk (X5.out.blk 0 rfl).1 1 1 1 rfl) (by simp) ad HE.out.set.fld _ HE.out.c1).mono ?_
                rintro r w5 hcase
                rcases hcase with ⟨k2, x, -, hk4', hk1, -⟩ | ⟨-, hfull, rfl, hX⟩ | ⟨_, hn, -⟩
                · have := HA.out k2 hk4'; rw [hk1] at this; cases this
                · have X6 := hid (setOut hX)
                  clear hX hfull X5 C hfz
                  go_wp2_with fail
                  refine (num_err ad 1 (by omega) _ (HE.out.same X6.out.same)).mono ?_
                  rintro r w7 ⟨rfl, hs7⟩
                  have X7 := hid (X6.out.go hs7)
                  clear hs7 X6
                  go_wp2
                  go_roundw
                  case rel => exact ⟨j + 1, st, by omega, by go_num, HF.out, X7.out⟩
                  case measure => simp [intOf]; omega
                · exact absurd HGO.out hn
      · have c0 : wr.cell? ⟨ob, 0, none⟩ = some (isB st 0) := C.out 0 (by omega)
        have c1 : wr.cell? ⟨ob, 1, none⟩ = some (isB st 1) := C.out 1 (by omega)
        have c2 : wr.cell? ⟨ob, 2, none⟩ = some (isB st 2) := C.out 2 (by omega)
        have c3 : wr.cell? ⟨ob, 3, none⟩ = some (isB st 3) := C.out 3 (by omega)
        have hcl : ∀ k, cntTo st k ≤ k := cntTo_le st
        go_wp2_with fail
        go_loop [12, 96] (fun cv iv => ∃ k : Nat, k ≤ 4 ∧ iv = .int .i64 k ∧ cv = .int .i64 (cntTo st k : Nat)) (fun _ iv => 4 - (intOf iv).toNat)
        case atStart => exact ⟨0, by omega, rfl, rfl⟩
        case round =>
          obtain ⟨k, hk, rfl, rfl⟩ := hrel
          have i0 : ∀ w : World, (Instr.index 80 (.agg #[.bool (st 0).isSome, .bool (st 1).isSome, .bool (st 2).isSome, .bool (st 3).isSome]) (.int .i64 0)).run Tryd.prog w = .ok (.bool (st 0).isSome) w := fun _ => by kernel_rfl
          have i1 : ∀ w : World, (Instr.index 80 (.agg #[.bool (st 0).isSome, .bool (st 1).isSome, .bool (st 2).isSome, .bool (st 3).isSome]) (.int .i64 1)).run Tryd.prog w = .ok (.bool (st 1).isSome) w := fun _ => by kernel_rfl
          have i2 : ∀ w : World, (Instr.index 80 (.agg #[.bool (st 0).isSome, .bool (st 1).isSome, .bool (st 2).isSome, .bool (st 3).isSome]) (.int .i64 2)).run Tryd.prog w = .ok (.bool (st 2).isSome) w := fun _ => by kernel_rfl
          have i3 : ∀ w : World, (Instr.index 80 (.agg #[.bool (st 0).isSome, .bool (st 1).isSome, .bool (st 2).isSome, .bool (st 3).isSome]) (.int .i64 3)).run Tryd.prog w = .ok (.bool (st 3).isSome) w := fun _ => by kernel_rfl
          generalize hik : (k : Int) = ik
          generalize hcm : ((cntTo st k : Nat) : Int) = cm
          rcases (show k = 0 ∨ k = 1 ∨ k = 2 ∨ k = 3 ∨ k = 4 by omega) with rfl | rfl | rfl | rfl | rfl
          · obtain rfl : ik = 0 := by omega
            have hcm1 : 0 ≤ cm ∧ cm ≤ 4 := by have := hcl 0; omega
            cases hst : (st 0).isSome with
            | true =>
              have hs1 : cntTo st 1 = cntTo st 0 + 1 := by simp only [cntTo, Fs.one, hst]; rfl
              go_wp2_with fail
              go_round
              case rel => exact ⟨1, by omega, rfl, by rw [hs1]; go_num⟩
              case measure => simp [intOf]
            | false =>
              have hs1 : cntTo st 1 = cntTo st 0 := by simp only [cntTo, Fs.one, hst]; rfl
              go_wp2_with fail
              go_round
              case rel => exact ⟨1, by omega, rfl, by rw [hs1, hcm]⟩
              case measure => simp [intOf]
          · obtain rfl : ik = 1 := by omega
            have hcm1 : 0 ≤ cm ∧ cm ≤ 4 := by have := hcl 1; omega
            cases hst : (st 1).isSome with
            | true =>
              have hs1 : cntTo st 2 = cntTo st 1 + 1 := by simp only [cntTo, Fs.one, hst]; rfl
              go_wp2_with fail
              go_round
              case rel => exact ⟨2, by omega, rfl, by rw [hs1]; go_num⟩
              case measure => simp [intOf]
            | false =>
              have hs1 : cntTo st 2 = cntTo st 1 := by simp only [cntTo, Fs.one, hst]; rfl
              go_wp2_with fail
              go_round
              case rel => exact ⟨2, by omega, rfl, by rw [hs1, hcm]⟩
              case measure => simp [intOf]
          · obtain rfl : ik = 2 := by omega
            have hcm1 : 0 ≤ cm ∧ cm ≤ 4 := by have := hcl 2; omega
            cases hst : (st 2).isSome with
            | true =>
              have hs1 : cntTo st 3 = cntTo st 2 + 1 := by simp only [cntTo, Fs.one, hst]; rfl
              go_wp2_with fail
              go_round
              case rel => exact ⟨3, by omega, rfl, by rw [hs1]; go_num⟩
              case measure => simp [intOf]
            | false =>
              have hs1 : cntTo st 3 = cntTo st 2 := by simp only [cntTo, Fs.one, hst]; rfl
              go_wp2_with fail
              go_round
              case rel => exact ⟨3, by omega, rfl, by rw [hs1, hcm]⟩
              case measure => simp [intOf]
          · obtain rfl : ik = 3 := by omega
            have hcm1 : 0 ≤ cm ∧ cm ≤ 4 := by have := hcl 3; omega
            cases hst : (st 3).isSome with
            | true =>
              have hs1 : cntTo st 4 = cntTo st 3 + 1 := by simp only [cntTo, Fs.one, hst]; rfl
              go_wp2_with fail
              go_round
              case rel => exact ⟨4, by omega, rfl, by rw [hs1]; go_num⟩
              case measure => simp [intOf]
            | false =>
              have hs1 : cntTo st 4 = cntTo st 3 := by simp only [cntTo, Fs.one, hst]; rfl
              go_wp2_with fail
              go_round
              case rel => exact ⟨4, by omega, rfl, by rw [hs1, hcm]⟩
              case measure => simp [intOf]
          · obtain rfl : ik = 4 := by omega
            have X9 := hid (X.out.drop)
            have HCM := hid hcm
            clear hcm C X hfz c0 c1 c2 c3
            go_wp2_with fail
            refine (numbers_any X9.out HF.out).mono ?_
            rintro r w9 ⟨nv, rfl, hX9⟩
            obtain ⟨va, vc, rfl, -⟩ := own_slice (hX9.row 0 rfl).1
            have SM := hid hX9.same
            clear hX9 X9
            have hkc : ((keys st).length : Int) = cm := by rw [keys_cnt]; exact HCM.out
            go_wp2_with fail
            go_ret
            exact ⟨rfl, SM.out⟩
end
end Go.Proofs.YtilobedihjkpjaaDoor.FieldsNumbers
