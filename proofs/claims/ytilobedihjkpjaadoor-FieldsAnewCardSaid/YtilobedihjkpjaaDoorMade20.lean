/-
  made: a set of fields and its model.
-/
import Derived.Test.YtilobedihjkpjaaDoorMadeNew
import Derived.Test.YtilobedihjkpjaaDoorFsNew
namespace Go.Proofs.YtilobedihjkpjaaDoor.Fs
open Go Go.RowKit Go.Proofs.YtilobedihjkpjaaDoor.Err Go.Proofs.YtilobedihjkpjaaDoor.Steps
abbrev modC (mg : Nat) (a b c d : Value) (V : Int) : Array Value := #[.pointer (some ⟨mg, 0, none⟩), a, b, c, d, .int .i64 V]
/-- A set's model. -/
abbrev modB (m mg : Nat) (a b c d : Value) (V : Int) : Res := Blk m (modC mg a b c d V) 96
section
variable {w : World}
theorem infoI : (Tryd.prog.info? 3).map (fun i => (i.zero, i.size, i.bytes)) = some (some (.int .i64 0), 1, 8) := by kernel_rfl

set_option maxRecDepth 100000 in
theorem made_no (g : Grd) (bl : List Int) (v : Value) (hr : Ints w v bl) (hb : bl.length ≤ 9223372036854775807) (hg : ¬ (g.right = true ∧ g.W * g.H ≤ 100 ∧ bl.length ≤ 200)) : Calls Tryd.prog 19 #[g.v, v] w fun r w' =>
    r = .returned (.tuple #[.pointer none, .pointer none, .bool false]) ∧ Same w w' := by
  obtain ⟨a, cb, rfl⟩ := hr.slice
  have HR := hid (Grd.right14 g)
  have HG := hid hg
  obtain ⟨n, hn⟩ : ∃ n, n = bl.length := ⟨_, rfl⟩
  rw [← hn] at hg hb HG ⊢
  have HRN := hid (fun h : g.right = true => right_nat h)
  obtain ⟨b, hb2⟩ : ∃ b, b = g.right := ⟨_, rfl⟩
  rw [← hb2] at HR hg HG HRN
  obtain ⟨W, H, S, X, Y⟩ := g
  unfold Grd.v at *
  simp only at HR HRN HG ⊢
  have Z := hid ((Star.new w).alloc #[.int .i64 W, .int .i64 H, .int .i64 S, .int .i64 X, .int .i64 Y] 23)
  clear hn hr hb2 hg
  go_enter Tryd.func19, Tryd.ntmps19
  go_wp2_with fail
  refine (HR.out _).mono ?_
  rintro r w2 ⟨rfl, hs⟩
  have Z2 := hid (Z.out.go hs)
  clear hs Z
  cases b with
  | false =>
    go_wp2
    go_ret3
    exact ⟨rfl, Z2.out.same⟩
  | true =>
    obtain ⟨W', H', eW, eH, w1, w2, h1, h2⟩ := HRN.out rfl
    subst eW eH
    have hn1 : W' * H' ≤ 32 * 32 := Nat.mul_le_mul w2 h2
    have hmul : (W' : Int) * (H' : Int) = ((W' * H' : Nat) : Int) := by simp
    have hG := HG.out
    rw [hmul] at hG
    generalize W' * H' = m at *
    have hwm : IntKind.i64.wrap (m : Int) = (m : Int) := IntWalk.i64_in _ (by omega)
    have hbk := (Z2.out.blk 0 rfl).1
    have hql := lt_of hbk
    have c0 := cell_of hbk 0
    have c1 := cell_of hbk 1
    simp only [List.getElem?_toArray, List.getElem?_cons_zero, List.getElem?_cons_succ] at c0 c1
    clear hbk
    by_cases hm : (m : Int) ≤ 100
    · have h5 : 200 < n := by simp at hG; omega
      clear hG
      go_wp2
      go_ret3
      exact ⟨rfl, Z2.out.same⟩
    · clear hG
      go_wp2
      go_ret3
      exact ⟨rfl, Z2.out.same⟩

set_option maxRecDepth 100000 in
set_option maxHeartbeats 8000000 in
theorem made_yes (g : Grd) (bl : List Int) (v : Value) (hr : Ints w v bl) (hb : bl.length ≤ 200) (hg : g.right = true) (h256 : g.W * g.H ≤ 100) (ad : Nat → Addr) (hE : Errs2 w ad) : Calls Tryd.prog 19 #[g.v, v] w fun r w' =>
    ∃ (s gp mb m mg : Nat) (G : Gr), G.Ok ∧ G.fs.length ≤ 100 ∧ G.fs.length = (g.W * g.H).toNat ∧ r = .returned (.tuple #[.pointer (some ⟨s, 0, none⟩), .pointer (some ⟨m, 0, none⟩), .bool true]) ∧ Star w w' (setL s gp mb G 0 (fun _ => none) [modB m mg (.slice none 0 0) (.slice none 0 0) (.slice none 0 0) (.slice none 0 0) 0, gndR 76 mg G]) := by
  obtain ⟨i0, hi, hz0, hz1, hz2⟩ := info_parts infoI
  obtain ⟨a, cb, rfl⟩ := hr.slice
  have HE := hid hE
  have HR := hid (Grd.right14 g)
  have HOF := hid (fun (w : World) bl v hr hb hE => of_any (w := w) g hg bl v hr hb ad hE)
  have HNEW := hid (fun (w : World) bl v hr hb => Steps.new_any (w := w) g hg bl v hr hb)
  rw [hg] at HR
  obtain ⟨W, H, eW, eH, w1, w2, h1, h2⟩ := right_nat hg
  obtain ⟨gW, gH, S, X, Y⟩ := g
  dsimp only at eW eH
  subst eW eH
  unfold Grd.v at *
  simp only [Int.toNat_natCast] at HR HOF HNEW ⊢
  have hn1 : W * H ≤ 32 * 32 := Nat.mul_le_mul w2 h2
  have hn2 : 1 * 1 ≤ W * H := Nat.mul_le_mul w1 h1
  have hmul : (W : Int) * (H : Int) = ((W * H : Nat) : Int) := by simp
  have ok : ∀ f, (Gr.ofF W H f).Ok := fun f => ⟨w1, w2, h1, h2, Gr.ofF_len W H f⟩
  have OK := hid ok
  obtain ⟨n, hn⟩ : ∃ n, n = W * H := ⟨_, rfl⟩
  have HN := hid hn
  rw [hmul] at HOF
  rw [hmul] at h256
  rw [← hn] at hmul hn1 hn2 h256 HOF
  have hwm : IntKind.i64.wrap (n : Int) = (n : Int) := IntWalk.i64_in _ (by omega)
  have hwu : IntKind.u64.wrap (n : Int) = (n : Int) := by simp only [IntKind.wrap, IntKind.bits, IntKind.signed]; simp; omega
  obtain ⟨l, hl⟩ : ∃ l, l = bl.length := ⟨_, rfl⟩
  have HB2 : Hid (∀ j (hj : j < bl.length), ∃ b off cap, Value.slice a l cb = .slice (some ⟨b, off, none⟩) l cap ∧ w.cell? ⟨b, off + j, none⟩ = some (.int .i64 bl[j])) := hid (fun j hj => by
    obtain ⟨b, off, cap, e, _, hc⟩ := hr.cells (by omega)
    rw [← hl] at e
    exact ⟨b, off, cap, e, hc j hj⟩)
  have HL := hid hl
  rw [← hl] at hb ⊢
  have Z := hid ((Star.new w).alloc #[.int .i64 W, .int .i64 H, .int .i64 S, .int .i64 X, .int .i64 Y] 23)
  clear hE hg hr ok hn hl
  go_enter Tryd.func19, Tryd.ntmps19
  go_wp2_with fail
  generalize w.alloc _ = w3 at *
  generalize w.heap.size = q at *
  refine (HR.out _).mono ?_
  rintro r w4 ⟨rfl, hs⟩
  have Z2 := hid (Z.out.go hs)
  clear hs Z HR
  have Z3 := hid (Z2.out.add (w' := w4.alloc (.cells #[] 3)) ((Chg.refl _).alloc _) (R := Row 3 1 (.slice (some ⟨w4.heap.size, 0, none⟩) 0 0) 0 (([] : List Int).map (Value.int .i64))) ⟨World.ownsRow_lit w4 #[] 0 (Nat.zero_le _) (by unfold maxLen; omega) rfl, rfl⟩ (fun k h => by have : w4.heap.size = k := Option.some.inj h; omega))
  have hbk0 := (Z2.out.blk 0 rfl).1
  have kql := lt_of hbk0
  have k0 := cell_of hbk0 0
  have k1 := cell_of hbk0 1
  simp only [List.getElem?_toArray, List.getElem?_cons_zero, List.getElem?_cons_succ] at k0 k1
  clear Z2 hbk0
  go_wp2_with fail
  clear k0 k1 kql
  generalize w4.alloc _ = w5 at *
  go_loopw [7, 31] (fun lv iv wr => ∃ (k : Nat) (ms : List Int), k ≤ l ∧ iv = .int .i64 k ∧ ms.length = k ∧ (∀ x ∈ ms, 0 ≤ x ∧ x < (n : Int)) ∧ Star w wr [Row 3 1 lv ms.length (ms.map (Value.int .i64)), Blk q #[.int .i64 W, .int .i64 H, .int .i64 S, .int .i64 X, .int .i64 Y] 23]) (fun _ iv _ => l - (intOf iv).toNat)
  case atStart => exact ⟨0, [], by omega, rfl, rfl, by simp, Z3.out⟩
  case round =>
    obtain ⟨k, ms, hk, rfl, rfl, hin, hX⟩ := hrel
    have X1 := hid hX
    have HIN := hid hin
    have hbk := (hX.blk 1 rfl).1
    have hql := lt_of hbk
    have c0 := cell_of hbk 0
    have c1 := cell_of hbk 1
    have c2 := cell_of hbk 2
    have c3 := cell_of hbk 3
    have c4 := cell_of hbk 4
    simp only [List.getElem?_toArray, List.getElem?_cons_zero, List.getElem?_cons_succ] at c0 c1 c2 c3 c4
    obtain ⟨al, cl, rfl, -⟩ := own_slice (hX.row 0 rfl).1
    clear hX hin hbk Z3
    by_cases hkl : ms.length < l
    · obtain ⟨b, off, cap, e1, hc⟩ := HB2.out ms.length (by have := HL.out; omega)
      cases e1
      have hcj := X1.out.same.keep hc
      have hbl := World.block_lt_of_cell? _ _ hcj
      obtain ⟨m, hm, hmod⟩ := mod_small bl[ms.length] n (by omega) (by omega)
      clear hc
      generalize bl[ms.length] = x at *
      have X2 := hid (X1.out.alloc #[.int .i64 m] 3)
      clear X1
      go_wp2_with (at_builtin; refine wpList_app rfl (.tmp 35) (.tmp 46) 24 rfl 3 i0 (.int .i64 0) 1 8 Tryd.underlying24 hi hz0 hz1 hz2 rfl (by decide) _ ms.length (ms.map (Value.int .i64)) rfl (X2.out.row 1 rfl).1 (some ⟨wr.heap.size, 0, none⟩) 1 1 [.int .i64 m] rfl (reads_blk (X2.out.blk 0 rfl).1 1 1 1 rfl) (by simp [Value.oneCell']) (by omega) (by omega) ?_; intro a3 c3 w3 ho3 hg3 hn3; have X3 := hid (X2.out.grown 1 rfl ho3 hg3 hn3).drop; clear ho3 hg3 hn3)
      go_roundw
      case rel =>
        have hin2 : ∀ x ∈ ms ++ [(m : Int)], 0 ≤ x ∧ x < (n : Int) := by
          intro x hx
          rw [List.mem_append] at hx
          rcases hx with h | h
          · exact HIN.out x h
          · simp at h; omega
        have h3 := X3.out
        have e1 : (ms ++ [(m : Int)]).length = ms.length + 1 := by simp
        have e2 : (ms ++ [(m : Int)]).map (Value.int .i64) = ms.map (Value.int .i64) ++ [.int .i64 m] := by simp
        exact ⟨ms.length + 1, ms ++ [(m : Int)], by omega, by go_num, e1, hin2, by rw [e1, e2]; exact h3⟩
      case measure => simp [intOf]; omega
    · have S1 := hid (X1.out.same)
      have hq0 := hql
      go_wp2_with fail
      refine (HOF.out _ ms _ (Reads.of_own (X1.out.row 0 rfl).1) (by omega) (HE.out.same S1.out)).mono ?_
      rintro r w6 hcase
      rcases hcase with ⟨-, p, rfl, hX6⟩ | ⟨⟨x, hx, hbad⟩, -⟩
      · have d0 := hX6.same.keep c0
        have d1 := hX6.same.keep c1
        have d2 := hX6.same.keep c2
        have d3 := hX6.same.keep c3
        have d4 := hX6.same.keep c4
        have dl := Nat.lt_of_lt_of_le hql hX6.same.size
        have hI : Ints w6 (.slice al ms.length cl) ms := (Reads.of_own (X1.out.row 0 rfl).1).same hX6.same
        have HI := hid hI
        have X6 : Hid (Star w w6 [gndR 92 p (Gr.block W H ms)]) := hid (((Star.new w).go S1.out).lift hX6)
        obtain ⟨pg, pc, hG, -⟩ := gnd_at (X6.out.go ((Chg.refl _).drew)) 0 rfl
        have HG := hid hG
        clear c0 c1 c2 c3 c4 hql hX6 hI X1 hq0 hG
        go_wp2_with fail
        go_region_with (first
          | (go_at_call 23; refine (Fs.new_any HG.out).mono ?_; rintro r w7 ⟨s, gp, mb, rfl, hX7⟩; have k0 := hX7.same.keep (show w6.drew.cell? ⟨q, 0, none⟩ = _ from d0); have k1 := hX7.same.keep (show w6.drew.cell? ⟨q, 1, none⟩ = _ from d1); have k2 := hX7.same.keep (show w6.drew.cell? ⟨q, 2, none⟩ = _ from d2); have k3 := hX7.same.keep (show w6.drew.cell? ⟨q, 3, none⟩ = _ from d3); have k4 := hX7.same.keep (show w6.drew.cell? ⟨q, 4, none⟩ = _ from d4); have kl := Nat.lt_of_lt_of_le (show q < w6.drew.heap.size from dl) hX7.same.size; have X7 := hid (show Star w w7 (setL s gp mb (Gr.block W H ms) 0 (fun _ => none) []) from (((X6.out.go ((Chg.refl _).drew)).lift hX7).pull 7 rfl).drop); have HI7 := hid ((HI.out.same ((Chg.refl _).drew)).same hX7.same); clear hX7)
          | (go_at_call 45; refine (HNEW.out _ ms _ HI7.out (by omega)).mono ?_; rintro r w8 ⟨mg, rfl, hX8⟩; have X8 := hid ((X7.out.lift hX8).alloc (modC mg (.slice none 0 0) (.slice none 0 0) (.slice none 0 0) (.slice none 0 0) 0) 96); clear hX8))
        all_goals
          go_wp2
          go_ret3
          have hlen : (Gr.block W H ms).fs.length = W * H := Gr.ofF_len W H _
          refine ⟨s, gp, mb, w8.heap.size, mg, Gr.block W H ms, OK.out _, by rw [hlen, ← HN.out]; omega, by rw [hlen, ← HN.out]; simp only [hmul]; omega, rfl, ?_⟩
          exact ((((((X8.out.pull 8 rfl).pull 8 rfl).pull 8 rfl).pull 8 rfl).pull 8 rfl).pull 8 rfl).pull 8 rfl
      · exact absurd (HIN.out x hx) hbad
end
end Go.Proofs.YtilobedihjkpjaaDoor.Fs
