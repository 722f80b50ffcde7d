/-
  The methods of column.Column[api.Handle], each by its contract.
-/
import Derived.Test.YtegcnkcjmebheaaDoorProg
import Derived.Test.YtegcnkcjmebheaaDoorEnt
namespace Go.Proofs.YtegcnkcjmebheaaDoor.Tab.CH
open Go Go.RowKit

theorem info : (Tryd.prog.info? 35).map (fun i => (i.zero, i.size, i.bytes)) = some (some (.agg #[.int .i64 0, .int .i64 0]), 2, 16) := by kernel_rfl
theorem zeroE : ∀ w, (zeroValue 35).run Tryd.prog w = .ok (.agg #[.int .i64 0, .int .i64 0]) w := by intro w; kernel_rfl
abbrev R (p : Nat) (xs : List Hd) (m : Int) : Res := colR 94 35 2 hc p xs m
abbrev B (p : Nat) (v : Value) (m : Int) : Res := Blk p #[v, .int .i64 m] 94
abbrev W (v : Value) (n : Nat) (xs : List Hd) : Res := Row 35 2 v n (xs.flatMap hc)
section
variable {w0 w : World} {L : List Res} {p : Nat} {xs : List Hd} {m : Int}
theorem facts {v : Value} (X : Star w0 w (B p v m :: L)) : w.cell? ⟨p, 0, none⟩ = some v ∧ w.cell? ⟨p, 1, none⟩ = some (.int .i64 m) ∧ w.frozen? ⟨p, 0, none⟩ = false ∧ p < w.heap.size := by
  have h := (X.blk 0 rfl).1
  exact ⟨cell_of h 0, cell_of h 1, free_of h 0, lt_of h⟩
theorem max (X : Star w0 w (R p xs m :: L)) : xs.length ≤ 9223372036854775807 := by
  obtain ⟨v, Y⟩ := colR.open X
  exact own_max (Y.row 1 rfl).1

set_option maxRecDepth 100000 in
theorem new_any (X : Star w0 w L) (m : Int) (hm : 0 < m) :
    Calls Tryd.prog 33 #[.int .i64 m] w fun r w' => ∃ p, r = .returned (.pointer (some ⟨p, 0, none⟩)) ∧ Star w0 w' (R p [] m :: L) := by
  have H := hid X
  have hm' : ¬ m < 0 := by omega
  have hm2 : ¬ m ≤ 0 := by omega
  clear X
  go_enter Tryd.func33, Tryd.ntmps33
  go_wp2
  all_goals
    go_ret
    exact ⟨_, rfl, colR.close (v := .slice none 0 0) ((H.out.nilRow 35 2).alloc _ _)⟩
theorem len_any (X : Star w0 w (R p xs m :: L)) : Calls Tryd.prog 10 #[.pointer (some ⟨p, 0, none⟩)] w fun r w' => r = .returned (.int .i64 xs.length) ∧ w = w' := by
  obtain ⟨v, Y⟩ := colR.open X
  obtain ⟨a, c, rfl, -⟩ := own_slice (Y.row 1 rfl).1
  obtain ⟨h0, -, -, hl⟩ := facts Y
  clear X Y
  go_enter Tryd.func10, Tryd.ntmps10
  go_wp2
  go_ret
  exact ⟨rfl, rfl⟩

set_option maxRecDepth 100000 in
theorem push_full (X : Star w0 w (R p xs m :: L)) (ad : Option Addr) (n c : Nat) (hm : 0 ≤ m ∧ m ≤ 1000000) (hx : xs.length ≤ 1000000) (hn : n ≤ 1000000) (hf : m - xs.length < n) (e : Value) (he : w0.cell? ⟨3, 0, none⟩ = some e) :
    Calls Tryd.prog 38 #[.pointer (some ⟨p, 0, none⟩), .slice ad n c] w fun r w' => r = .returned e ∧ Same w w' := by
  have he' := X.keepCell he
  obtain ⟨v, Y⟩ := colR.open X
  obtain ⟨a, cp, rfl, -⟩ := own_slice (Y.row 1 rfl).1
  obtain ⟨h0, h1, -, hl⟩ := facts Y
  clear X Y he
  go_enter Tryd.func38, Tryd.ntmps38
  go_wp2
  go_quiet (fail)
  go_wp2
  go_ret
  exact ⟨rfl, (Chg.refl _).drewN _⟩

set_option maxRecDepth 100000 in
set_option maxHeartbeats 1000000 in
theorem push_ok (X : Star w0 w (R p xs m :: L)) (v : Value) (ys : List Hd) (hr : Reads w v ys.length 2 (ys.flatMap hc)) (hm : 0 ≤ m ∧ m ≤ 1000000) (hf : (ys.length : Int) ≤ m - xs.length) :
    Calls Tryd.prog 38 #[.pointer (some ⟨p, 0, none⟩), v] w fun r w' => r = .returned .nilIface ∧ Star w0 w' (R p (xs ++ ys) m :: L) := by
  obtain ⟨i0, hi, hz0, hz1, hz2⟩ := info_parts info
  obtain ⟨ad, c, rfl⟩ := hr.slice
  obtain ⟨v0, hY⟩ := colR.open X
  obtain ⟨a, cp, rfl, -⟩ := own_slice (hY.row 1 rfl).1
  obtain ⟨n, hn⟩ : ∃ n, n = xs.length := ⟨_, rfl⟩
  obtain ⟨k, hk⟩ : ∃ k, k = ys.length := ⟨_, rfl⟩
  rw [← hn] at hY hf
  rw [← hk] at hr hf ⊢
  obtain ⟨h0, h1, -, hl⟩ := facts hY
  have hnx : n ≤ 1000000 := by omega
  have hkx : k ≤ 1000000 := by omega
  have Y := hid hY
  have HR := hid hr
  have HN := hid hn
  have HK := hid hk
  have UB := hid (rows_one hc hc_one ys)
  clear X hY hr hn hk
  go_enter Tryd.func38, Tryd.ntmps38
  go_wp2
  go_quiet (fail)
  have Y1 := hid (Y.out.go (w' := w.drewN nq) ((Chg.refl _).drewN nq))
  have hrow := hid (Y1.out.row 1 rfl).1
  go_wp2_with (at_builtin; refine wpList_app rfl _ _ 82 rfl 35 i0 (.agg #[.int .i64 0, .int .i64 0]) 2 16 Tryd.underlying82 hi hz0 hz1 hz2 rfl (by decide) _ n (xs.flatMap hc) rfl hrow.out ad k c (ys.flatMap hc) rfl (HR.out.same ((Chg.refl _).drewN nq)) UB.out (by omega) (by omega) ?_)
  intro a' c' w1 hown hg hv
  have Y2 := hid (Y1.out.grown 1 rfl hown hg hv)
  clear hown hg hv hrow Y1 Y h0 h1 hl
  obtain ⟨h0, h1, hf0, hl⟩ := facts Y2.out
  go_wp2
  go_ret
  have h := Y2.out.put 0 rfl 0 (.slice a' (n + k) c')
  have h3 : Star w0 _ (B p (.slice a' (n + k) c') m :: Row 35 2 (.slice a' (n + k) c') (n + k) (xs.flatMap hc ++ ys.flatMap hc) :: L) := h
  have e1 : n + k = (xs ++ ys).length := by rw [List.length_append, ← HN.out, ← HK.out]
  rw [← List.flatMap_append] at h3
  generalize n + k = nk at *
  subst e1
  exact ⟨rfl, colR.close h3⟩

set_option maxRecDepth 100000 in
theorem at_in {g n cp : Nat} (h0 : w.cell? ⟨p, 0, none⟩ = some (.slice (some ⟨g, 0, none⟩) n cp)) (_ : p < w.heap.size) (i : Nat) (hi : i < n) (_ : n ≤ 1000000) :
    Calls Tryd.prog 64 #[.pointer (some ⟨p, 0, none⟩), .int .i64 i] w fun r w' => r = .returned (.pointer (some ⟨g, i * 2, none⟩)) ∧ w = w' := by
  go_enter Tryd.func64, Tryd.ntmps64
  go_wp2
  go_ret
  exact ⟨rfl, rfl⟩
set_option maxRecDepth 100000 in
theorem at_out {a : Option Addr} {n cp : Nat} (h0 : w.cell? ⟨p, 0, none⟩ = some (.slice a n cp)) (_ : p < w.heap.size) (i : Int) (hi : i < 0 ∨ (n : Int) ≤ i) (_ : n ≤ 1000000) :
    Calls Tryd.prog 64 #[.pointer (some ⟨p, 0, none⟩), .int .i64 i] w fun r w' => r = .returned (.pointer none) ∧ w = w' := by
  by_cases h2 : i < 0
  all_goals
    go_enter Tryd.func64, Tryd.ntmps64
    go_wp2
    go_ret
    exact ⟨rfl, rfl⟩
/-- Where a thing lies. -/
theorem spot (X : Star w0 w (R p xs m :: L)) (i : Nat) (x : Hd) (hi : xs[i]? = some x) : ∃ g cp n, n = xs.length ∧ n ≤ cp ∧ Star w0 w (B p (.slice (some ⟨g, 0, none⟩) n cp) m :: W (.slice (some ⟨g, 0, none⟩) n cp) n xs :: L) ∧ (w.cell? ⟨g, i * 2, none⟩ = some (.int .i64 x.1) ∧ w.cell? ⟨g, i * 2 + 1, none⟩ = some (.int .i64 x.2)) ∧ g < w.heap.size ∧ (∀ j, w.frozen? ⟨g, j, none⟩ = false) ∧ ¬ p = g ∧ ¬ g = p := by
  obtain ⟨v, Y⟩ := colR.open X
  have hl := (List.getElem?_eq_some_iff.1 hi).1
  have hrow := (Y.row 1 rfl).1
  obtain ⟨g, cp, rfl⟩ := own_shape hrow (by omega)
  obtain ⟨n1, n2⟩ := Y.neBR 0 1 rfl rfl (by omega)
  exact ⟨g, cp, _, rfl, own_cap hrow, Y, ⟨(hrow.cellAt _ (by omega)).trans ((rows_get hc hc_len xs i 0 x hi (by omega)).trans rfl), (hrow.cellAt _ (by omega)).trans ((rows_get hc hc_len xs i 1 x hi (by omega)).trans rfl)⟩, (hrow.lt g rfl).2, fun j => hrow.frozenAt j, n1, n2⟩

set_option maxRecDepth 100000 in
theorem get_in (X : Star w0 w (R p xs m :: L)) (i : Nat) (x : Hd) (hi : xs[i]? = some x) (hx : xs.length ≤ 1000000) :
    Calls Tryd.prog 54 #[.pointer (some ⟨p, 0, none⟩), .int .i64 i] w fun r w' => r = .returned (.tuple #[hV x, .nilIface]) ∧ Same w w' := by
  obtain ⟨g, cp, n, hn, hcp, Y, hcl, hg, -, -, -⟩ := spot X i x hi
  have hin : i < n := by rw [hn]; exact (List.getElem?_eq_some_iff.1 hi).1
  have hn6 : n ≤ 1000000 := by omega
  obtain ⟨h0, -, -, hl⟩ := facts Y
  have C0 : Hid (∀ {w' : World}, Same w w' → w'.cell? ⟨p, 0, none⟩ = some (.slice (some ⟨g, 0, none⟩) n cp)) := hid (fun s => s.keep h0)
  obtain ⟨x1, x2⟩ := x
  obtain ⟨c0, c1⟩ := hcl
  clear X Y hi hn h0
  go_enter Tryd.func54, Tryd.ntmps54
  go_wp2_with fail
  refine (at_in (C0.out ((Chg.refl _).alloc _)) (by rw [World.size_alloc]; omega) i hin hn6).mono ?_
  rintro r w' ⟨rfl, rfl⟩
  go_wp2
  refine bodyPost_ret (v := .tuple #[.agg #[.int .i64 x1, .int .i64 x2], .nilIface]) (by simp [results, Tryd.results54, go_sem]) rfl ⟨rfl, ?_⟩
  first
    | exact Chg.refl _
    | (repeat (first | exact Chg.refl _ | refine Chg.drew ?_ | refine Chg.drewN _ ?_ | refine Chg.alloc _ ?_))

set_option maxRecDepth 100000 in
theorem get_out (X : Star w0 w (R p xs m :: L)) (i : Int) (hi : i < 0 ∨ (xs.length : Int) ≤ i) (hx : xs.length ≤ 1000000) (e : Value) (he : w0.cell? ⟨2, 0, none⟩ = some e) :
    Calls Tryd.prog 54 #[.pointer (some ⟨p, 0, none⟩), .int .i64 i] w fun r w' => r = .returned (.tuple #[.agg #[.int .i64 0, .int .i64 0], e]) ∧ Same w w' := by
  have hE := X.keepCell he
  have hlt := World.block_lt_of_cell? w _ hE
  obtain ⟨v, Y⟩ := colR.open X
  obtain ⟨a, cp, rfl, -⟩ := own_slice (Y.row 1 rfl).1
  obtain ⟨h0, -, -, hl⟩ := facts Y
  have AT := hid (at_out (w := w.alloc (.cells #[.int .i64 0, .int .i64 0] 35)) (Chg.keep ((Chg.refl _).alloc _) h0) (by rw [World.size_alloc]; omega) i hi hx)
  clear X Y h0 he hi
  go_enter Tryd.func54, Tryd.ntmps54
  go_wp2_with fail
  refine AT.out.mono ?_
  rintro r w' ⟨rfl, rfl⟩
  go_wp2
  go_region
  all_goals
    go_wp2
    refine bodyPost_ret (v := .tuple #[.agg #[.int .i64 0, .int .i64 0], e]) (by simp [results, Tryd.results54, go_sem]) rfl ⟨rfl, ?_⟩
    first
    | exact Chg.refl _
    | (repeat (first | exact Chg.refl _ | refine Chg.drew ?_ | refine Chg.drewN _ ?_ | refine Chg.alloc _ ?_))

theorem all_clone (v : Value) (n : Nat) (ys : List Value) (w : World) (hr : Reads w v n 2 ys) (h1y : ∀ u ∈ ys, u.oneCell' = true) (hn : n ≤ 1000000) :
    Calls Tryd.prog 63 #[v] w fun r w' => ∃ v', r = .returned v' ∧ Fresh w w' 35 2 v' n ys ∧ Same w w' := by
  obtain ⟨i0, hi, hz0, hz1, hz2⟩ := info_parts info
  obtain ⟨ad, c, rfl⟩ := hr.slice
  have hs1 := fun wx => Lib.run_eql_slice_nil (P := Tryd.prog) wx 82 35 ad n c 0 0 Tryd.underlying82
  have HR := hid hr
  clear hr
  cases ad with
  | none =>
    obtain ⟨_, _, he, hl, hnn, _⟩ := HR.out
    cases he
    obtain ⟨rfl, rfl⟩ := hnn rfl
    have hys : ys = [] := List.eq_nil_of_length_eq_zero (by simpa using hl)
    subst hys
    go_enter Tryd.func63, Tryd.ntmps63
    go_wp2
    go_ret
    exact ⟨_, rfl, ⟨World.ownsRow_nil _ _ _ _, by simp [Value.ownBlock]⟩, Chg.refl _⟩
  | some ad =>
    go_enter Tryd.func63, Tryd.ntmps63
    go_wp2_with (at_builtin; refine wpList_app rfl _ _ 82 rfl 35 i0 (.agg #[.int .i64 0, .int .i64 0]) 2 16 Tryd.underlying82 hi hz0 hz1 hz2 rfl (by decide) _ 0 [] rfl (World.ownsRow_lit w #[] 0 (Nat.zero_le _) (by unfold maxLen; omega) rfl) (some ad) n c ys rfl (HR.out.same ((Chg.refl _).alloc _)) h1y (by omega) (by omega) ?_)
    intro a' c' w1 hown hg hv
    have hch : Same w w1 := ((Chg.refl w).alloc (.cells #[] 35)).grown hg (fun k e hk => by simp [Value.ownBlock] at e; omega)
    have hnew : ∀ k, (Value.slice a' n c').ownBlock = some k → w.heap.size ≤ k := by
      intro k hk
      rcases hv with hv | hv
      · rw [hv] at hk; simp [Value.ownBlock] at hk; omega
      · have := hv k hk; simp at this; omega
    have H1 := hid hown
    have H2 := hid hch
    have H3 := hid hnew
    clear hown hch hnew hg hv
    go_wp2
    go_ret
    exact ⟨_, rfl, ⟨H1.out, H3.out⟩, H2.out⟩
set_option maxRecDepth 100000 in
theorem all_any (X : Star w0 w (R p xs m :: L)) (hx : xs.length ≤ 1000000) :
    Calls Tryd.prog 53 #[.pointer (some ⟨p, 0, none⟩)] w fun r w' => ∃ v', r = .returned v' ∧ Fresh w w' 35 2 v' xs.length (xs.flatMap hc) ∧ Same w w' := by
  obtain ⟨v, Y⟩ := colR.open X
  have HR := hid (Reads.of_own (Y.row 1 rfl).1)
  obtain ⟨h0, -, -, hl⟩ := facts Y
  clear X Y
  go_enter Tryd.func53, Tryd.ntmps53
  go_wp2_with fail
  refine (all_clone v xs.length _ _ HR.out (rows_one hc hc_one xs) hx).mono ?_
  rintro r w1 ⟨v', rfl, hf, hs⟩
  have HF := hid hf
  have HS := hid hs
  clear hf hs
  go_wp2
  go_ret
  exact ⟨v', rfl, HF.out, HS.out⟩
set_option maxRecDepth 100000 in
theorem clone_any (X : Star w0 w (R p xs m :: L)) (hx : xs.length ≤ 1000000) :
    Calls Tryd.prog 51 #[.pointer (some ⟨p, 0, none⟩)] w fun r w' => ∃ q, r = .returned (.pointer (some ⟨q, 0, none⟩)) ∧ Star w0 w' (R q xs m :: R p xs m :: L) := by
  have H := hid X
  obtain ⟨v, Y⟩ := colR.open X
  obtain ⟨-, h1, -, hl⟩ := facts Y
  clear X Y
  go_enter Tryd.func51, Tryd.ntmps51
  go_wp2
  go_region_with (go_at_call 53; refine (all_any (H.out.go (w' := w.drew) ((Chg.refl _).drew)) hx).mono ?_; rintro r w1 ⟨v', rfl, hf, hs⟩; have HF := hid hf; have HS := hid hs; have h1d := hs.keep (show w.drew.cell? ⟨p, 1, none⟩ = some (.int .i64 m) from h1); have hld := Nat.lt_of_lt_of_le (show p < w.drew.heap.size from hl) hs.size; clear hf hs; obtain ⟨a', c', rfl, _⟩ := own_slice HF.out.1)
  all_goals
    go_wp2
    go_ret
    exact ⟨_, rfl, colR.close ((((H.out.go (w' := w.drew) ((Chg.refl _).drew)).fresh HF.out HS.out)).alloc _ _)⟩
end
end Go.Proofs.YtegcnkcjmebheaaDoor.Tab.CH
