/-
  field.New, all its ways.
-/
import Derived.Test.YtilobedihjkpjaaDoorFieldFlat
import Derived.Test.YtilobedihjkpjaaDoorField
import Derived.Test.YtilobedihjkpjaaDoorMadeOf
import Derived.Test.YtilobedihjkpjaaDoorNum
import Derived.Test.YtilobedihjkpjaaDoorErr
import Derived.Test.YtilobedihjkpjaaDoorMade19
import Derived.Test.YtilobedihjkpjaaDoorInAsk19
import Derived.Test.YtilobedihjkpjaaDoorRouteFind
namespace Go.Proofs.YtilobedihjkpjaaDoor
def g13 : Gr := ⟨3, 1, [true, true, true]⟩
theorem g13_of : Gr.block 3 1 [] = g13 := by unfold g13 Gr.block Gr.ofF; rfl
theorem g13_ok : g13.Ok := ⟨by decide, by decide, by decide, by decide, by decide⟩
set_option maxRecDepth 100000 in
theorem g13_least : Least g13 [0] [0, 10, 20] := by
  have h1 : ([0, 10, 20] : List Int).length = g13.fs.length := by decide +kernel
  have h2 : ∀ t, t < ([0, 10, 20] : List Int).length → cAt [0, 10, 20] t = -1 ∨ 0 ≤ cAt [0, 10, 20] t := by decide +kernel
  have h3 : ∀ t ∈ [0], g13.free t = true → cAt [0, 10, 20] t = 0 := by decide +kernel
  have h4 : ∀ t, t < ([0, 10, 20] : List Int).length → ∀ s ∈ g13.around t, 0 ≤ cAt [0, 10, 20] s.to → 0 ≤ cAt [0, 10, 20] t ∧ cAt [0, 10, 20] t ≤ cAt [0, 10, 20] s.to + s.c := by decide +kernel
  have h5 : ∀ t, t < ([0, 10, 20] : List Int).length → 0 ≤ cAt [0, 10, 20] t → (t ∈ [0] ∧ g13.free t = true ∧ cAt [0, 10, 20] t = 0) ∨ ∃ s ∈ g13.around t, 0 ≤ cAt [0, 10, 20] s.to ∧ cAt [0, 10, 20] t = cAt [0, 10, 20] s.to + s.c := by decide +kernel
  exact Least.check h1 h2 h3 h4 h5
end Go.Proofs.YtilobedihjkpjaaDoor
namespace Go.Proofs.YtilobedihjkpjaaDoor.Fld
open Go Go.RowKit Go.Proofs.YtilobedihjkpjaaDoor.Err Go.Proofs.YtilobedihjkpjaaDoor.Steps Go.Proofs.YtilobedihjkpjaaDoor.Ord Go.Proofs.YtilobedihjkpjaaDoor.Route
theorem OrdOf.one {t : Int} {l : List Int} (h : OrdOf [t] l) : l = [t] := by
  obtain ⟨hm, hr, hp, hl⟩ := h
  match l, hp, hl with
  | [a], _, _ =>
    have := (hm a).1 List.mem_cons_self
    simp only [List.mem_singleton] at this
    rw [this]
theorem readsNil (w : World) : Ints w (.slice none 0 0) [] := ⟨none, 0, rfl, rfl, fun _ => ⟨rfl, rfl⟩, fun a h => by cases h⟩
theorem fokOf {G : Gr} {xs gl : List Int} (ho : OrdOf xs gl) (hG : G.Ok) (h8 : xs.length ≤ 8) (hin : ∀ x ∈ xs, 0 ≤ x ∧ x < G.fs.length) {c : List Int} (hc : Least G (goalsOf gl) c) : FOk G gl c :=
  ⟨hG, hc, ho.pos, by have := ho.le; omega, fun x hx => hin x ((ho.mem x).1 hx)⟩
section
variable {w : World}
set_option maxRecDepth 100000 in
set_option maxHeartbeats 8000000 in
theorem alive_any (ad : Nat → Addr) (hE : Errs2 w ad) : Calls Tryd.prog 9 #[] w fun r w' => r = .returned (.bool true) ∧ Same w w' := by
  have HE := hid hE
  clear hE
  go_enter Tryd.func9, Tryd.ntmps9
  go_wp2_with fail
  refine (of_any ⟨3, 1, 1, 0, 0⟩ (by decide) [] _ (readsNil w) (by simp) ad HE.out).mono ?_
  rintro r w2 hcase
  rcases hcase with ⟨-, p, rfl, hX⟩ | ⟨⟨x, hx, hbad⟩, -⟩
  · have X2 := hid ((show Star w w2 [gndR 92 p g13] from g13_of ▸ hX).alloc #[.int .i64 0] 3)
    clear hX
    obtain ⟨g, c, h, -⟩ := gnd_at X2.out 1 rfl
    have H := hid h
    clear h
    go_wp2_with fail
    refine (new_ok H.out [0] _ (reads_blk (X2.out.blk 0 rfl).1 1 1 1 rfl) (by decide) (by decide) (by decide)).mono ?_
    rintro r w3 ⟨f, gl, ho, rfl, hX3⟩
    obtain rfl := OrdOf.one ho
    have hF : FOk g13 [0] [0, 10, 20] := fokOf ho g13_ok (by decide) (by decide) g13_least
    have X3 := hid (hX3 [0, 10, 20])
    have HS := hid X2.out.same
    clear hX3 X2 H ho
    go_wp2_with fail
    refine (flat_any X3.out hF).mono ?_
    rintro r w4 ⟨v, rfl, hX4⟩
    have e : flatI (g13.cells [0, 10, 20] g13.fs.length) = [0, -1, 10, 4, 20, 4] := by decide +kernel
    rw [e] at hX4
    have X5 := hid (hX4.alloc #[.int .i64 0, .int .i64 (-1), .int .i64 10, .int .i64 4, .int .i64 20, .int .i64 4] 3)
    clear hX4 X3 e
    go_wp2_with fail
    refine (Num.sameInts _ _ [0, -1, 10, 4, 20, 4] [0, -1, 10, 4, 20, 4] _ (Reads.of_own (X5.out.row 1 rfl).1) (reads_blk (X5.out.blk 0 rfl).1 6 6 1 rfl) (by simp) (by simp)).mono ?_
    rintro r w7 ⟨rfl, hs7⟩
    have HS2 := hid (Chg.trans (S := fun _ => False) HS.out (X5.out.go hs7).same (fun _ _ f => f))
    clear hs7 X5
    go_wp2
    go_ret
    exact ⟨rfl, HS2.out⟩
  · simp at hx
set_option maxRecDepth 100000 in
theorem in_any (v : Value) (xs : List Int) (n : Int) (hr : Ints w v xs) (hb : xs.length ≤ 9223372036854775807) : Calls Tryd.prog 13 #[v, .int .i64 n] w fun r w' => r = .returned (.bool (decide (n ∈ xs))) ∧ w = w' := by
  obtain ⟨av, cv, rfl⟩ := hr.slice
  obtain ⟨l, hl⟩ : ∃ l, l = xs.length := ⟨_, rfl⟩
  have HN := hid hl
  rw [← hl] at hb ⊢
  have HB : Hid (∀ (j : Nat) (t : Int), xs[j]? = some t → ∃ b off cap, Value.slice av l cv = .slice (some ⟨b, off, none⟩) l cap ∧ w.cell? ⟨b, off + j, none⟩ = some (.int .i64 t)) := hid (fun j t ht => by
    obtain ⟨hj, e2⟩ := (List.getElem?_eq_some_iff.1 ht)
    obtain ⟨b, off, cap, e, _, hc⟩ := hr.cells (by omega)
    rw [← hl] at e
    exact ⟨b, off, cap, e, by rw [← e2]; exact hc j hj⟩)
  clear hr hl
  go_enter Tryd.func13, Tryd.ntmps13
  go_wp2_with fail
  go_loop [9] (fun iv => ∃ j : Nat, j ≤ l ∧ iv = .int .i64 j ∧ ∀ x ∈ xs.take j, x ≠ n) (fun iv => l - (intOf iv).toNat)
  case atStart => exact ⟨0, by omega, rfl, by simp⟩
  case round =>
    obtain ⟨j, hj, rfl, hall⟩ := hrel
    have HA := hid hall
    clear hall
    by_cases hjl : j < l
    · obtain ⟨t, ht⟩ : ∃ t, xs[j]? = some t := ⟨_, List.getElem?_eq_getElem (by have := HN.out; omega)⟩
      obtain ⟨b, off, cap, e1, hc⟩ := HB.out j t ht
      cases e1
      have hbl := World.block_lt_of_cell? _ _ hc
      have HT := hid ht
      clear ht
      by_cases e : t = n
      · subst e
        go_wp2
        go_ret
        refine ⟨?_, rfl⟩
        rw [decide_eq_true (List.mem_of_getElem? HT.out)]
        rfl
      · have e2 : (t == n) = false := by simpa using e
        have HE := hid e
        clear e
        go_wp2
        go_round
        case rel =>
          refine ⟨j + 1, by omega, by go_num, fun x hx => ?_⟩
          obtain ⟨h1, h2⟩ := List.getElem?_eq_some_iff.1 HT.out
          rw [List.take_succ_eq_append_getElem h1, h2, List.mem_append] at hx
          rcases hx with hx | hx
          · exact HA.out x hx
          · simp only [List.mem_singleton] at hx; rw [hx]; exact HE.out
        case measure => simp [intOf]; omega
    · go_wp2
      go_ret
      refine ⟨?_, rfl⟩
      have h : n ∉ xs := fun h => by
        have := HA.out n (by rw [List.take_of_length_le (by have := HN.out; omega)]; exact h)
        exact this rfl
      rw [decide_eq_false h]
      rfl
end
end Go.Proofs.YtilobedihjkpjaaDoor.Fld
namespace Go.Proofs.YtilobedihjkpjaaDoor.Err
open Go Go.RowKit
/-- The three errors that fields need. -/
structure ErrsF (w : World) (ad : Nat → Addr) : Prop where
  c0 : w.cell? ⟨1, 0, none⟩ = some (.iface 205 (.pointer (some (ad 0))))
  c6 : w.cell? ⟨7, 0, none⟩ = some (.iface 205 (.pointer (some (ad 6))))
  c9 : w.cell? ⟨0, 0, none⟩ = some (.iface 205 (.pointer (some (ad 9))))
theorem ErrsF.same {w w' : World} {ad : Nat → Addr} (h : ErrsF w ad) (hs : Same w w') : ErrsF w' ad := ⟨hs.keep h.c0, hs.keep h.c6, hs.keep h.c9⟩
theorem ErrsF.two {w : World} {ad : Nat → Addr} (h : ErrsF w ad) : Errs2 w ad := ⟨h.c0, h.c6⟩
theorem Errs.fld {w : World} {ad : Nat → Addr} (h : Errs w ad) : ErrsF w ad := ⟨h.c0, h.c6, h.c9⟩
theorem errsF_of {w : World} {a0 a6 a9 : Addr} (h0 : w.cell? ⟨1, 0, none⟩ = some (.iface 205 (.pointer (some a0))))
    (h6 : w.cell? ⟨7, 0, none⟩ = some (.iface 205 (.pointer (some a6)))) (h9 : w.cell? ⟨0, 0, none⟩ = some (.iface 205 (.pointer (some a9)))) : ∃ ad, ErrsF w ad :=
  ⟨fun k => match k with | 0 => a0 | 6 => a6 | _ => a9, h0, h6, h9⟩
end Go.Proofs.YtilobedihjkpjaaDoor.Err
namespace Go.Proofs.YtilobedihjkpjaaDoor.Fld
open Go Go.RowKit Go.Proofs.YtilobedihjkpjaaDoor.Err Go.Proofs.YtilobedihjkpjaaDoor.Steps Go.Proofs.YtilobedihjkpjaaDoor.Ord Go.Proofs.YtilobedihjkpjaaDoor.Route
/-- Goals that a field takes. -/
def GoalsOk (G : Gr) (xs : List Int) : Prop := 1 ≤ xs.length ∧ xs.length ≤ 8 ∧ ∀ x ∈ xs, 0 ≤ x ∧ x < G.fs.length
section
variable {w : World} {p pg pc : Nat} {G : Gr}
theorem new_all (hG : Gnd 92 w p pg pc G) (xs : List Int) (v : Value) (hr : Ints w v xs) (hb : xs.length ≤ 9223372036854775807) (ad : Nat → Addr) (hE : ErrsF w ad) :
    Calls Tryd.prog 11 #[.pointer (some ⟨p, 0, none⟩), v] w fun r w' =>
      (∃ f gl c, OrdOf xs gl ∧ FOk G gl c ∧ GoalsOk G xs ∧ r = .returned (.tuple #[.pointer (some ⟨f, 0, none⟩), .nilIface]) ∧ Star w w' [fldR f G gl c]) ∨
      (∃ k, ¬ GoalsOk G xs ∧ (k = 0 ∧ 1 ≤ xs.length ∧ xs.length ≤ 8 ∨ k = 9 ∧ ¬ (1 ≤ xs.length ∧ xs.length ≤ 8)) ∧ r = .returned (.tuple #[.pointer none, .iface 205 (.pointer (some (ad k)))]) ∧ Same w w') := by
  by_cases hl : 1 ≤ xs.length ∧ xs.length ≤ 8
  · by_cases hin : ∀ x ∈ xs, 0 ≤ x ∧ x < G.fs.length
    · refine (new_ok hG xs v hr hl.1 hl.2 hin).mono ?_
      rintro r w' ⟨f, gl, ho, rfl, hX⟩
      obtain ⟨c, hc⟩ := Least.exists G (goalsOf gl)
      exact .inl ⟨f, gl, c, ho, fokOf ho hG.ok hl.2 hin hc, ⟨hl.1, hl.2, hin⟩, rfl, hX c⟩
    · have hout : ∃ x ∈ xs, x < 0 ∨ (G.fs.length : Int) ≤ x := by
        refine Classical.byContradiction (fun h => hin (fun x hx => ?_))
        refine Classical.byContradiction (fun h2 => h ⟨x, hx, by omega⟩)
      refine (new_range hG xs v hr hl.1 hl.2 hout _ hE.c0).mono ?_
      rintro r w' ⟨rfl, hs⟩
      exact .inr ⟨0, fun h => hin h.2.2, .inl ⟨rfl, hl⟩, rfl, hs⟩
  · refine (new_goal v xs hr hb (by omega) _ hE.c9).mono ?_
    rintro r w' ⟨rfl, hs⟩
    exact .inr ⟨9, fun h => hl ⟨h.1, h.2.1⟩, .inr ⟨rfl, hl⟩, rfl, hs⟩
end
/-- More goals, no dearer way. -/
theorem To.more {G : Gr} {gs gs' : List Nat} (hs : ∀ x ∈ gs, x ∈ gs') {t : Nat} {k : Int} (h : Gr.To G gs t k) : Gr.To G gs' t k := by
  induction h with
  | goal h1 h2 => exact .goal (hs _ h1) h2
  | step hg _ ih => exact .step hg ih
theorem goals_sub {xs ys gl gl' : List Int} (ho : OrdOf xs gl) (ho' : OrdOf ys gl') (hs : ∀ x ∈ xs, x ∈ ys) : ∀ x ∈ goalsOf gl, x ∈ goalsOf gl' := by
  intro x hx
  obtain ⟨y, hy, rfl⟩ := List.mem_map.1 hx
  exact List.mem_map.2 ⟨y, (ho'.mem y).2 (hs y ((ho.mem y).1 hy)), rfl⟩
end Go.Proofs.YtilobedihjkpjaaDoor.Fld
