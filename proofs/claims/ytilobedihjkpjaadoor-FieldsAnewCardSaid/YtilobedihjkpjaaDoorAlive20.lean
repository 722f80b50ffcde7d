/-
  Package fields: the chapter's example.
-/
import Derived.Test.YtilobedihjkpjaaDoorFsNew
import Derived.Deep.CutBlock
import Derived.Deep.DeepCutAuto
import Derived.Test.YtilobedihjkpjaaDoorMade20
namespace Go.Proofs.YtilobedihjkpjaaDoor.Fs
open Go Go.RowKit Go.Maps Go.Proofs.YtilobedihjkpjaaDoor.Err Go.Proofs.YtilobedihjkpjaaDoor.Steps Go.Proofs.YtilobedihjkpjaaDoor.Ord Go.Proofs.YtilobedihjkpjaaDoor.Route Go.Proofs.YtilobedihjkpjaaDoor.Fld
section
variable {w0 w : World} {L : List Res} {s gp mb : Nat} {G : Gr} {V : Int} {st : Nat → Option Slot}
set_option maxRecDepth 100000 in
set_option maxHeartbeats 8000000 in
theorem open_any (X : Star w0 w (setL s gp mb G V st L)) (xs : List Int) (v : Value) (hr : Ints w v xs) (hb : xs.length ≤ 9223372036854775807) (ad : Nat → Addr) (hE : ErrsF w0 ad) (e2 : Value) (he : w0.cell? ⟨2, 0, none⟩ = some e2) :
    Calls Tryd.prog 20 #[.pointer (some ⟨s, 0, none⟩), v] w fun r w' =>
      (∃ (k : Nat) (x : Slot), GoalsOk G xs ∧ k < 4 ∧ st k = none ∧ (∀ j, j < k → (st j).isSome = true) ∧ OrdOf xs x.gl ∧ x.G = G ∧ x.v = V ∧ FOk x.G x.gl x.c ∧ r = .returned (.tuple #[.int .i64 k, .nilIface]) ∧ Star w0 w' (setL s gp mb G V (upd st k (some x)) L)) ∨
      (GoalsOk G xs ∧ (∀ j, j < 4 → (st j).isSome = true) ∧ r = .returned (.tuple #[.int .i64 0, e2]) ∧ Star w0 w' (setL s gp mb G V st L)) ∨
      (∃ k, ¬ GoalsOk G xs ∧ (k = 0 ∧ 1 ≤ xs.length ∧ xs.length ≤ 8 ∨ k = 9 ∧ ¬ (1 ≤ xs.length ∧ xs.length ≤ 8)) ∧ r = .returned (.tuple #[.int .i64 0, .iface 205 (.pointer (some (ad k)))]) ∧ Star w0 w' (setL s gp mb G V st L)) := by
  have hbk := (X.blk 0 rfl).1
  have d0 := cell_of hbk 0
  have d1 := cell_of hbk 1
  have d2 := cell_of hbk 2
  have dl := lt_of hbk
  simp only [List.getElem?_toArray, List.getElem?_cons_zero, List.getElem?_cons_succ] at d0 d1 d2
  obtain ⟨pg, pc, hG, -⟩ := gnd_at X 1 rfl
  have HG := hid hG
  have HR := hid hr
  have HB := hid hb
  have HE := hid hE
  have HE2 := hid he
  have X0 := hid X
  clear X hbk hG hr hb hE he
  go_enter Tryd.func20, Tryd.ntmps20
  go_wp2_with fail
  refine (new_all HG.out xs v HR.out HB.out ad ⟨X0.out.same.keep HE.out.c0, X0.out.same.keep HE.out.c6, X0.out.same.keep HE.out.c9⟩).mono ?_
  rintro r w4 hcase
  rcases hcase with ⟨f, gl, c, ho, hF, hgo, rfl, hX4⟩ | ⟨k, hgo, hk, rfl, hs4⟩
  · have X4 : Hid (Star w0 w4 (fldR f G gl c :: setL s gp mb G V st L)) := hid (X0.out.lift hX4)
    have HO := hid ho
    have HF := hid hF
    have HGO := hid hgo
    clear hX4 ho hF hgo X0 d0 d1 d2 dl HG HR
    have hbk := (X4.out.blk 1 rfl).1
    have d0 := cell_of hbk 0
    have d1 := cell_of hbk 1
    have d2 := cell_of hbk 2
    have dl := lt_of hbk
    simp only [List.getElem?_toArray, List.getElem?_cons_zero, List.getElem?_cons_succ] at d0 d1 d2
    have M := hid (X4.out.map 3 rfl).1
    clear hbk
    go_wp2_with fail
    go_loop [23] (fun iv => ∃ j : Nat, j ≤ 4 ∧ iv = .int .i64 j ∧ ∀ i, i < j → (st i).isSome = true) (fun iv => 4 - (intOf iv).toNat)
    case atStart => exact ⟨0, by omega, rfl, fun i h => by omega⟩
    case round =>
      obtain ⟨j, hj, rfl, hall⟩ := hrel
      have HA := hid hall
      clear hall
      by_cases hj4 : j < 4
      · have KY := hid (keyI j (by omega) (by omega))
        cases hst : st j with
        | none =>
          have HN := hid (show mapF st (.int .i64 (j : Int)) = none by rw [mapF_nat, hst]; rfl)
          have HST := hid hst
          clear hst
          go_wp2_with (at_lookup; refine wpList_lookOk rfl _ _ rfl keyed Tryd.underlying97 (.pointer none) zeroP rfl M.out (.int .i64 j) (.int .i64 j) rfl KY.out (.pointer none) false (by rw [HN.out]; rfl) (by rw [HN.out]; rfl) ?_)
          go_region_with (go_at_call 31; refine (goals_any (X4.out.go ((Chg.refl _).drew)) HF.out).mono ?_; rintro r w5 ⟨gv, rfl, hX5⟩; obtain ⟨ga, gk, rfl⟩ := own_shape (hX5.row 0 rfl).1 HF.out.pos; have X5 := hid hX5; have hbk := (hX5.blk 2 rfl).1; have b0 := cell_of hbk 0; have b1 := cell_of hbk 1; have b2 := cell_of hbk 2; have bl := lt_of hbk; simp only [List.getElem?_toArray, List.getElem?_cons_zero, List.getElem?_cons_succ] at b0 b1 b2; have X6 := hid (hX5.alloc (opC f ga gl.length gk V) 103); have h6 := (X6.out.map 5 rfl).1; obtain ⟨w9, hrun0, hM, hC⟩ := h6.store keyed Tryd.underlying97 (by have := cnt_le st; omega) KY.out w5.heap.size; have hrun := (show (Instr.mapUpdate 97 (.map (some mb)) (.int .i64 (j : Int)) (.pointer (some ⟨w5.heap.size, 0, none⟩))).run Tryd.prog (w5.alloc (.cells (opC f ga gl.length gk V) 103)) = .ok () w9 from hrun0); have X9 := hid (X6.out.mapSet 5 rfl hM hC); clear hbk hX5 h6 hM hC hrun0)
          all_goals
            go_wp2
            go_ret2
            refine .inl ⟨j, ⟨w5.heap.size, f, ga, gk, gl, G, c, V⟩, HGO.out, hj4, HST.out, HA.out, HO.out, rfl, rfl, HF.out, rfl, ?_⟩
            have h1 : Star w0 w9 (Blk w5.heap.size (opC f ga gl.length gk V) 103 :: numR ga gl.length gk gl :: fldR f G gl c :: setB s gp mb V :: gndR 92 gp G :: mapB mb (upd st j (some ⟨w5.heap.size, f, ga, gk, gl, G, c, V⟩)) :: (slots st ++ L)) := X9.out.set 5 rfl (fun F h => by
              refine ⟨?_, h.2⟩
              have h3 := h.1.congr (mapF_upd st j (some ⟨w5.heap.size, f, ga, gk, gl, G, c, V⟩))
              rw [← cnt_put st j hj4] at h3
              exact h3)
            exact slotPut hj4 (slotShut (x := ⟨w5.heap.size, f, ga, gk, gl, G, c, V⟩) ((h1.pull 2 rfl).pull 1 rfl))
        | some x =>
          have HN := hid (show mapF st (.int .i64 (j : Int)) = some x.a by rw [mapF_nat, hst]; rfl)
          have HST := hid hst
          clear hst
          go_wp2_with (at_lookup; refine wpList_lookOk rfl _ _ rfl keyed Tryd.underlying97 (.pointer none) zeroP rfl M.out (.int .i64 j) (.int .i64 j) rfl KY.out (.pointer (some ⟨x.a, 0, none⟩)) true (by rw [HN.out]; rfl) (by rw [HN.out]; rfl) ?_)
          go_round
          case rel =>
            refine ⟨j + 1, by omega, by go_num, fun i hi => ?_⟩
            by_cases e : i = j
            · subst e; rw [HST.out]; rfl
            · exact HA.out i (by omega)
          case measure => simp [intOf]; omega
      · have hE := X4.out.same.keep HE2.out
        have hEl := World.block_lt_of_cell? _ _ hE
        go_wp2_with fail
        go_quiet (fail)
        go_wp2
        go_ret2
        exact .inr (.inl ⟨HGO.out, fun i hi => HA.out i (by omega), rfl, (X4.out.go ((Chg.refl _).drewN _)).drop⟩)
  · have HK := hid hk
    have HGO := hid hgo
    have X4 := hid (X0.out.go hs4)
    clear hs4 hk hgo X0 d0 d1 d2 dl HG HR
    go_wp2
    go_ret2
    exact .inr (.inr ⟨k, HGO.out, HK.out, rfl, X4.out⟩)
end
end Go.Proofs.YtilobedihjkpjaaDoor.Fs
namespace Go.Proofs.YtilobedihjkpjaaDoor.Err
open Go Go.RowKit
/-- The five errors that sets of fields need. -/
structure ErrsS (w : World) (ad : Nat → Addr) : Prop where
  c0 : w.cell? ⟨1, 0, none⟩ = some (.iface 205 (.pointer (some (ad 0))))
  c1 : w.cell? ⟨2, 0, none⟩ = some (.iface 205 (.pointer (some (ad 1))))
  c2 : w.cell? ⟨3, 0, none⟩ = some (.iface 205 (.pointer (some (ad 2))))
  c6 : w.cell? ⟨7, 0, none⟩ = some (.iface 205 (.pointer (some (ad 6))))
  c9 : w.cell? ⟨0, 0, none⟩ = some (.iface 205 (.pointer (some (ad 9))))
theorem ErrsS.same {w w' : World} {ad : Nat → Addr} (h : ErrsS w ad) (hs : Same w w') : ErrsS w' ad := ⟨hs.keep h.c0, hs.keep h.c1, hs.keep h.c2, hs.keep h.c6, hs.keep h.c9⟩
theorem ErrsS.fld {w : World} {ad : Nat → Addr} (h : ErrsS w ad) : ErrsF w ad := ⟨h.c0, h.c6, h.c9⟩
theorem Errs.set {w : World} {ad : Nat → Addr} (h : Errs w ad) : ErrsS w ad := ⟨h.c0, h.c1, h.c2, h.c6, h.c9⟩
theorem errsS_of {w : World} {a0 a1 a2 a6 a9 : Addr} (h0 : w.cell? ⟨1, 0, none⟩ = some (.iface 205 (.pointer (some a0))))
    (h1 : w.cell? ⟨2, 0, none⟩ = some (.iface 205 (.pointer (some a1)))) (h2 : w.cell? ⟨3, 0, none⟩ = some (.iface 205 (.pointer (some a2))))
    (h6 : w.cell? ⟨7, 0, none⟩ = some (.iface 205 (.pointer (some a6)))) (h9 : w.cell? ⟨0, 0, none⟩ = some (.iface 205 (.pointer (some a9)))) : ∃ ad, ErrsS w ad :=
  ⟨fun k => match k with | 0 => a0 | 1 => a1 | 2 => a2 | 6 => a6 | _ => a9, h0, h1, h2, h6, h9⟩
end Go.Proofs.YtilobedihjkpjaaDoor.Err
namespace Go.Proofs.YtilobedihjkpjaaDoor.Fs
open Go Go.RowKit Go.Maps Go.Proofs.YtilobedihjkpjaaDoor.Err Go.Proofs.YtilobedihjkpjaaDoor.Steps Go.Proofs.YtilobedihjkpjaaDoor.Ord Go.Proofs.YtilobedihjkpjaaDoor.Route Go.Proofs.YtilobedihjkpjaaDoor.Fld
theorem first_is {st : Nat → Option Slot} {k m : Nat} (h1 : st k = none) (h2 : ∀ j, j < k → (st j).isSome = true) (h3 : st m = none) (h4 : ∀ j, j < m → (st j).isSome = true) : k = m := by
  rcases Nat.lt_trichotomy k m with h | h | h
  · have := h4 k h; rw [h1] at this; cases this
  · exact h
  · have := h2 m h; rw [h3] at this; cases this
theorem goalOne {G : Gr} {t : Int} (h : 0 ≤ t ∧ t < G.fs.length) : GoalsOk G [t] := ⟨by simp, by simp, fun x hx => by simp only [List.mem_singleton] at hx; subst hx; exact h⟩
section
variable {w : World}
set_option maxRecDepth 100000 in
set_option maxHeartbeats 8000000 in
theorem alive_any (ad : Nat → Addr) (hE : ErrsS w ad) : Calls Tryd.prog 18 #[] w fun r w' => r = .returned (.bool true) ∧ Same w w' := by
  have HE := hid hE
  clear hE
  go_enter Tryd.func18, Tryd.ntmps18
  go_wp2_with fail
  refine (made_yes ⟨3, 1, 1, 0, 0⟩ [] _ (readsNil w) (by simp) (by decide) (by decide) ad HE.out.fld.two).mono ?_
  rintro r w1 ⟨s, gp, mb, m, mg, G, hok, -, hlen, rfl, hX⟩
  have hl3 : G.fs.length = 3 := hlen.trans (by decide)
  have HL := hid hl3
  have X1 := hid (hX.alloc #[.int .i64 0] 3)
  clear hX hok hlen hl3
  go_wp2_with fail
  refine (open_any X1.out.drop [0] _ (reads_blk (X1.out.blk 0 rfl).1 1 1 1 rfl) (by decide) ad HE.out.fld _ HE.out.c1).mono ?_
  rintro r w2 hcase
  have g0 : GoalsOk G [0] := goalOne (by rw [HL.out]; decide)
  have g1 : GoalsOk G [1] := goalOne (by rw [HL.out]; decide)
  have g2 : GoalsOk G [2] := goalOne (by rw [HL.out]; decide)
  have G1 := hid g1
  have G2 := hid g2
  rcases hcase with ⟨k, x, -, -, hk1, hk2, -, -, -, -, rfl, hX⟩ | ⟨-, hfull, -, -⟩ | ⟨_, hn, -⟩
  · obtain rfl : k = 0 := first_is hk1 hk2 rfl (fun j h => by omega)
    have X2 := hid (hX.alloc #[.int .i64 1] 3)
    clear hX hk1 hk2 X1 g0 g1 g2
    go_wp2_with fail
    refine (open_any X2.out.drop [1] _ (reads_blk (X2.out.blk 0 rfl).1 1 1 1 rfl) (by decide) ad HE.out.fld _ HE.out.c1).mono ?_
    rintro r w3 hcase
    rcases hcase with ⟨k, y, -, -, hk1, hk2, -, -, -, -, rfl, hX⟩ | ⟨-, hfull, -, -⟩ | ⟨_, hn, -⟩
    · obtain rfl : k = 1 := first_is hk1 hk2 (by simp [upd]) (fun j h => by obtain rfl : j = 0 := (by omega); rw [upd_same]; rfl)
      have X3 := hid hX
      clear hX hk1 hk2 X2
      go_wp2_with fail
      refine (close_yes X3.out 0 (by omega) x (by simp [upd])).mono ?_
      rintro r w4 ⟨rfl, hX⟩
      have X4 := hid (hX.alloc #[.int .i64 2] 3)
      clear hX X3
      go_wp2_with fail
      refine (open_any X4.out.drop [2] _ (reads_blk (X4.out.blk 0 rfl).1 1 1 1 rfl) (by decide) ad HE.out.fld _ HE.out.c1).mono ?_
      rintro r w5 hcase
      rcases hcase with ⟨k, z, -, -, hk1, hk2, -, -, -, -, rfl, hX⟩ | ⟨-, hfull, -, -⟩ | ⟨_, hn, -⟩
      · obtain rfl : k = 0 := first_is hk1 hk2 (by rw [upd_same]) (fun j h => by omega)
        have HS := hid hX.same
        clear hX hk1 hk2 X4
        go_wp2
        go_ret
        exact ⟨rfl, HS.out⟩
      · have := hfull 0 (by omega); rw [upd_same] at this; cases this
      · exact absurd G2.out hn
    · have := hfull 1 (by omega); simp [upd] at this
    · exact absurd G1.out hn
  · have := hfull 0 (by omega); cases this
  · exact absurd g0 hn
end
end Go.Proofs.YtilobedihjkpjaaDoor.Fs
