/-
  route.Costs: the least costs to goals.
-/
import Derived.Test.YtilobedihjkpjaaDoorRouteRun
namespace Go.Proofs.YtilobedihjkpjaaDoor.Route
open Go Go.RowKit Go.Proofs.YtilobedihjkpjaaDoor.Hp Go.Proofs.YtilobedihjkpjaaDoor.Steps

/-- Whole numbers as cells. -/
def gC (l : List Nat) : List Value := l.map (fun (t : Nat) => Value.int .i64 (t : Int))
/-- Costs, of which the first k are none. -/
def noC (n k : Nat) : List Int := (List.range n).map fun i => if i < k then -1 else 0
theorem noC_len (n k : Nat) : (noC n k).length = n := by simp [noC]
theorem noC_set (n k : Nat) : (noC n k).set k (-1) = noC n (k + 1) := by
  unfold noC
  apply List.ext_getElem
  · simp
  · intro j h1 h2
    simp only [List.getElem_set, List.getElem_map, List.getElem_range]
    by_cases e : k = j
    · subst e; simp
    · rw [if_neg e]
      by_cases h : j < k
      · rw [if_pos h, if_pos (by omega)]
      · rw [if_neg h, if_neg (by omega)]
theorem noC_at (n t : Nat) : cAt (noC n n) t = -1 := by
  unfold cAt noC
  rw [List.getD_eq_getElem?_getD, List.getElem?_map]
  by_cases h : t < n
  · simp [h]
  · rw [List.getElem?_eq_none (by simp; omega)]; rfl
theorem noC_zero (n : Nat) : (noC n 0).map (Value.int .i64) = List.replicate n (.int .i64 0) := by
  apply List.ext_getElem
  · simp [noC]
  · intro j h1 h2; simp [noC]
theorem made_zeros (n : Nat) : (madeCells (Value.int .i64 0).cells (n * 1)).toList = List.replicate n (.int .i64 0) := by
  apply List.ext_getElem
  · simp [madeCells]
  · intro j h1 h2; simp [madeCells, Value.cells, Nat.mod_one]
theorem infoInt : (Tryd.prog.info? 3).map (fun i => (i.zero, i.size, i.bytes)) = some (some (.int .i64 0), 1, 8) := by kernel_rfl

/-- What the loop over the goals keeps. -/
def GoalI (G : Gr) (gs : List Nat) (j : Nat) (c : List Int) (es : List (Int × Int)) : Prop :=
  Dij G gs (gs.take j) (fun _ _ => True) c es [] 0 ∧ es.length ≤ j ∧ ∀ e ∈ es, e.1 ≤ 0
section
variable {G : Gr} {gs : List Nat} {j t : Nat} {c : List Int} {es es' : List (Int × Int)}
theorem GoalI.pass (h : GoalI G gs j c es) (ht : gs[j]? = some t) (hf : G.free t = false ∨ (cAt c t ≠ -1 ∧ cAt c t ≤ 0)) : GoalI G gs (j + 1) c es := by
  obtain ⟨a, b, d⟩ := h
  obtain ⟨hj, e⟩ := List.getElem?_eq_some_iff.1 ht
  refine ⟨?_, by omega, d⟩
  rw [List.take_succ_eq_append_getElem hj, e]
  refine a.goalMore (fun h => ?_)
  rcases hf with hf | hf
  · rw [h] at hf; cases hf
  · have := a.low t; omega
theorem GoalI.yes (h : GoalI G gs j c es) (ht : gs[j]? = some t) (hf : G.free t = true) (hl : cAt c t = -1 ∨ 0 < cAt c t) (hp : es'.Perm (es ++ [(0, (t : Int))])) : GoalI G gs (j + 1) (c.set t 0) es' := by
  obtain ⟨a, b, d⟩ := h
  obtain ⟨hj, e⟩ := List.getElem?_eq_some_iff.1 ht
  have hl2 : t < c.length := by rw [a.len]; exact Gr.free_in hf
  have hlen := hp.length_eq
  simp only [List.length_append, List.length_singleton] at hlen
  refine ⟨?_, by omega, fun x hx => ?_⟩
  · rw [List.take_succ_eq_append_getElem hj, e]
    refine ((a.reach (t := t) (k := 0) (.goal (List.mem_of_getElem? ht) hf) (by simp) (Int.le_refl _) (Int.le_refl _) hl2 hl (fun _ _ => rfl)).perm hp).goalMore (fun _ => ?_)
    rw [cAt_set _ _ _ _ hl2, if_pos rfl]
  · have := hp.subset hx
    rw [List.mem_append] at this
    rcases this with hx | hx
    · exact d x hx
    · simp only [List.mem_singleton] at hx; subst hx; exact Int.le_refl _
theorem GoalI.run {w0 w : World} {L : List Res} {f p h g n cc : Nat} (hI : GoalI G gs j c es) (hj : gs.length ≤ j) (hj8 : j ≤ 8) (X : Star w0 w (Blk f (finC p h g n cc) 150 :: heapR h es :: costR g n cc c :: L)) : RunI w0 L G gs f p h g n cc w (8 + 8 * n) := by
  obtain ⟨a, b, d⟩ := hI
  rw [List.take_of_length_le hj] at a
  exact ⟨c, es, [], 0, X, a, by simp; omega, by omega, fun e he => by have := d e he; simp; omega, by simp⟩
end

section
variable {w : World} {p pg pc : Nat} {G : Gr}
set_option maxRecDepth 100000 in
set_option maxHeartbeats 4000000 in
theorem costs_ok (hG : Gnd 92 w p pg pc G) (gs : List Nat) (v : Value) (hr : Reads w v gs.length 1 (gC gs)) (h1 : 1 ≤ gs.length) (h8 : gs.length ≤ 8) (hin : ∀ t ∈ gs, t < G.fs.length) :
    Calls Tryd.prog 74 #[.pointer (some ⟨p, 0, none⟩), v] w fun r w' => ∃ c g cc, r = .returned (.tuple #[.slice (some ⟨g, 0, none⟩) G.fs.length cc, .nilIface]) ∧ Least G gs c ∧ (∀ t, cAt c t ≤ 14 * G.fs.length) ∧ Star w w' [costR g G.fs.length cc c] := by
  obtain ⟨i0, hi0, hz0, hz1, hz2⟩ := info_parts infoInt
  obtain ⟨av, cv, rfl⟩ := hr.slice
  have HG := hid hG
  have HR := hid hr
  have HIN := hid hin
  have hN := hG.ok.max
  obtain ⟨n, hn⟩ : ∃ n, n = G.fs.length := ⟨_, rfl⟩
  obtain ⟨l, hl⟩ : ∃ l, l = gs.length := ⟨_, rfl⟩
  have HN := hid hn
  have HL := hid hl
  rw [← hn] at hN HIN ⊢
  rw [← hl] at h1 h8 HR ⊢
  have X0 := hid (Star.new w)
  clear hG hr hin hn hl
  go_enter Tryd.func74, Tryd.ntmps74
  go_wp2_with fail
  refine (heap_new X0.out).mono ?_
  rintro r w1 ⟨h, rfl, hX1, hh⟩
  have X1 := hid hX1
  clear hX1 X0
  go_wp2_with fail
  refine (len_any (HG.out.same X1.out.same)).mono ?_
  rintro r w' ⟨rfl, rfl⟩
  rw [← HN.out]
  have hby : i0.bytes * n ≤ 281474976710656 := by rw [hz2]; omega
  go_wp2_with (at_make; refine wpList_make_full _ rfl _ _ 24 rfl 0 3 i0 (.int .i64 0) 1 Tryd.underlying24 hi0 hz0 hz1 _ _ _ _ n rfl rfl rfl rfl hby (by unfold maxLen; omega) (Nat.zero_le _) ?_; intro wc hoc hgc; have XC := hid (X1.out.add (w' := wc) ((Chg.refl _).grown hgc (fun k e _ => by cases e)) (R := costR w1.heap.size n n (noC n 0)) ⟨by rw [made_zeros, ← noC_zero] at hoc; exact hoc, rfl⟩ (fun k h => by have h' := Option.some.inj h; rw [← h']; exact Nat.le_refl _)); clear hoc hgc)
  have X2 : Hid (Star w (wc.alloc (.cells (finC p h w1.heap.size n n) 150)) [Blk wc.heap.size (finC p h w1.heap.size n n) 150, heapR h [], costR w1.heap.size n n (noC n 0)]) := hid (((XC.out.alloc (finC p h w1.heap.size n n) 150).pull 2 rfl).swap)
  clear X1 XC hby hh
  generalize wc.alloc _ = w2 at *
  generalize wc.heap.size = f at *
  generalize w1.heap.size = g at *
  obtain ⟨d0, d1, d2, dl⟩ := fin_cells X2.out
  go_wp2_with fail
  go_loopw [7, 35] (fun _ iv wr => ∃ k : Nat, k ≤ n ∧ iv = .int .i64 k ∧ Star w wr [Blk f (finC p h g n n) 150, heapR h [], costR g n n (noC n k)]) (fun _ iv _ => n - (intOf iv).toNat)
  case atStart => exact ⟨0, by omega, rfl, X2.out⟩
  case round =>
    obtain ⟨k, hk, rfl, hX⟩ := hrel
    clear d0 d1 d2 dl X2
    by_cases hkn : k < n
    · obtain ⟨d0, d1, d2, dl⟩ := fin_cells hX
      obtain ⟨e0, ef, gl, n1, n2⟩ := cost_cell hX k hkn
      have hY := hX.store 2 rfl k (.int .i64 (-1))
      simp only [List.set_cons_succ, List.set_cons_zero] at hY
      rw [← List.map_set, noC_set] at hY
      have Y := hid hY
      clear hX hY
      go_wp2
      go_roundw
      case rel => exact ⟨k + 1, by omega, by go_num, Y.out⟩
      case measure => simp [intOf]; omega
    · obtain rfl : k = n := by omega
      have X := hid hX
      clear hX
      have HB : Hid (∀ (j t : Nat), gs[j]? = some t → ∃ b off cap, Value.slice av l cv = .slice (some ⟨b, off, none⟩) l cap ∧ w.cell? ⟨b, off + j, none⟩ = some (.int .i64 t) ∧ t < k) := hid (fun j t ht => by
        have hj := (List.getElem?_eq_some_iff.1 ht).1
        obtain ⟨b, off, cap, e, _, hc⟩ := HR.out.open (by have := HL.out; omega)
        exact ⟨b, off, cap, e, hc j _ (by unfold gC; rw [List.getElem?_map, ht]; rfl), HIN.out t (List.mem_of_getElem? ht)⟩)
      clear HR
      go_wp2_with fail
      go_loopw [9, 47] (fun _ iv wr => ∃ j : Nat, j ≤ l ∧ iv = .int .i64 j ∧ Star w wr [Blk f (finC p h g k k) 150, heapR h [], costR g k k (noC k k)]) (fun _ iv _ => l - (intOf iv).toNat)
      case atStart => exact ⟨0, by omega, rfl, X.out⟩
      case round =>
        obtain ⟨j, hj, rfl, hX⟩ := hrel
        have X2 := hid hX
        clear hX X
        by_cases hjl : j < l
        · obtain ⟨t, ht⟩ : ∃ t, gs[j]? = some t := ⟨_, List.getElem?_eq_getElem (by have := HL.out; omega)⟩
          obtain ⟨b, off, cap, e1, hc, htk⟩ := HB.out j t ht
          cases e1
          have hcj := X2.out.same.keep hc
          have hbl := World.block_lt_of_cell? _ _ hcj
          clear hc ht
          go_wp2_with fail
          refine (len_any (HG.out.same X2.out.same)).mono ?_
          rintro r w' ⟨rfl, rfl⟩
          rw [← HN.out]
          go_wp2
          go_roundw
          case rel => exact ⟨j + 1, by omega, by go_num, X2.out⟩
          case measure => simp [intOf]; omega
        · have hst : GoalI G gs 0 (noC k k) [] := ⟨by rw [List.take_zero]; exact Dij.start _ (by rw [noC_len]; exact HN.out) (noC_at k), by simp, by simp⟩
          have HS := hid hst
          clear hst
          go_wp2_with fail
          go_loopw [11, 12, 63] (fun _ _ iv wr => ∃ (j : Nat) (c : List Int) (es : List (Int × Int)), j ≤ l ∧ iv = .int .i64 j ∧ GoalI G gs j c es ∧ Star w wr [Blk f (finC p h g k k) 150, heapR h es, costR g k k c]) (fun _ _ iv _ => l - (intOf iv).toNat)
          case atStart => exact ⟨0, _, [], by omega, rfl, HS.out, X2.out⟩
          case round =>
            obtain ⟨j, c, es, hj, rfl, hI, hX⟩ := hrel
            have X := hid hX
            have HI := hid hI
            clear hX hI X2 HS
            by_cases hjl : j < l
            · obtain ⟨t, ht⟩ : ∃ t, gs[j]? = some t := ⟨_, List.getElem?_eq_getElem (by have := HL.out; omega)⟩
              obtain ⟨b, off, cap, e1, hc, htk⟩ := HB.out j t ht
              cases e1
              have hcj := X.out.same.keep hc
              have hbl := World.block_lt_of_cell? _ _ hcj
              have HTJ := hid ht
              have hes : es.length ≤ j := HI.out.2.1
              clear hc ht
              go_wp2_with fail
              refine (free_any (HG.out.same X.out.same) _).mono ?_
              rintro r w' ⟨rfl, rfl⟩
              rw [Gr.freeI_nat]
              by_cases hf : G.free t = true
              · by_cases hno : cAt c t ≠ -1 ∧ cAt c t ≤ 0
                · have HI2 := hid (HI.out.pass HTJ.out (.inr hno))
                  rw [hf]
                  go_wp2_with fail
                  refine (reach_no X.out t 0 htk hno.1 hno.2).mono ?_
                  rintro r w' ⟨rfl, rfl⟩
                  go_wp2
                  go_roundw
                  case rel => exact ⟨j + 1, _, _, by omega, by go_num, HI2.out, X.out⟩
                  case measure => simp [intOf]; omega
                · have hyes : cAt c t = -1 ∨ 0 < cAt c t := by omega
                  have HF := hid hf
                  rw [hf]
                  go_wp2_with fail
                  refine (reach_yes X.out t 0 htk hyes (by omega)).mono ?_
                  rintro r w' ⟨rfl, es2, hp2, hX2⟩
                  have HI2 := hid (HI.out.yes HTJ.out HF.out hyes hp2)
                  have X2 := hid hX2
                  clear hX2 hp2
                  go_wp2
                  go_roundw
                  case rel => exact ⟨j + 1, _, _, by omega, by go_num, HI2.out, X2.out⟩
                  case measure => simp [intOf]; omega
              · have hf' : G.free t = false := by simpa using hf
                have HI2 := hid (HI.out.pass HTJ.out (.inl hf'))
                rw [hf']
                go_wp2
                go_roundw
                case rel => exact ⟨j + 1, _, _, by omega, by go_num, HI2.out, X.out⟩
                case measure => simp [intOf]; omega
            · have HRUN := hid (HI.out.run (by have := HL.out; omega) (by omega) X.out)
              go_wp2_with fail
              refine (run_any HG.out HN.out HRUN.out).mono ?_
              rintro r w9 ⟨rfl, c9, es9, hL, hT9, hX9⟩
              have HT9 := hid hT9
              have LE := hid hL
              have X9 := hid hX9
              obtain ⟨d0, d1, d2, dl⟩ := fin_cells hX9
              clear hL hT9 hX9 HRUN HI X
              go_wp2
              go_ret2
              exact ⟨c9, g, k, rfl, LE.out, HT9.out, X9.out.drop.drop⟩
set_option maxRecDepth 100000 in
set_option maxHeartbeats 4000000 in
theorem costs_range (hG : Gnd 92 w p pg pc G) (x : Int) (v : Value) (hr : Reads w v 1 1 [.int .i64 x]) (hx : ¬ (0 ≤ x ∧ x < G.fs.length)) (e : Value) (he : w.cell? ⟨1, 0, none⟩ = some e) :
    Calls Tryd.prog 74 #[.pointer (some ⟨p, 0, none⟩), v] w fun r w' => r = .returned (.tuple #[.slice none 0 0, e]) ∧ Same w w' := by
  obtain ⟨i0, hi0, hz0, hz1, hz2⟩ := info_parts infoInt
  obtain ⟨av, cv, rfl⟩ := hr.slice
  have HG := hid hG
  have HR := hid hr
  have HE := hid he
  have hN := hG.ok.max
  obtain ⟨n, hn⟩ : ∃ n, n = G.fs.length := ⟨_, rfl⟩
  have HN := hid hn
  rw [← hn] at hN hx
  have X0 := hid (Star.new w)
  clear hG hr he hn
  go_enter Tryd.func74, Tryd.ntmps74
  go_wp2_with fail
  refine (heap_new X0.out).mono ?_
  rintro r w1 ⟨h, rfl, hX1, hh⟩
  have X1 := hid hX1
  clear hX1 X0
  go_wp2_with fail
  refine (len_any (HG.out.same X1.out.same)).mono ?_
  rintro r w' ⟨rfl, rfl⟩
  rw [← HN.out]
  have hby : i0.bytes * n ≤ 281474976710656 := by rw [hz2]; omega
  go_wp2_with (at_make; refine wpList_make_full _ rfl _ _ 24 rfl 0 3 i0 (.int .i64 0) 1 Tryd.underlying24 hi0 hz0 hz1 _ _ _ _ n rfl rfl rfl rfl hby (by unfold maxLen; omega) (Nat.zero_le _) ?_; intro wc hoc hgc; have XC := hid (X1.out.add (w' := wc) ((Chg.refl _).grown hgc (fun k e _ => by cases e)) (R := costR w1.heap.size n n (noC n 0)) ⟨by rw [made_zeros, ← noC_zero] at hoc; exact hoc, rfl⟩ (fun k h => by have h' := Option.some.inj h; rw [← h']; exact Nat.le_refl _)); clear hoc hgc)
  have X2 : Hid (Star w (wc.alloc (.cells (finC p h w1.heap.size n n) 150)) [Blk wc.heap.size (finC p h w1.heap.size n n) 150, heapR h [], costR w1.heap.size n n (noC n 0)]) := hid (((XC.out.alloc (finC p h w1.heap.size n n) 150).pull 2 rfl).swap)
  clear X1 XC hby hh
  generalize wc.alloc _ = w2 at *
  generalize wc.heap.size = f at *
  generalize w1.heap.size = g at *
  obtain ⟨d0, d1, d2, dl⟩ := fin_cells X2.out
  go_wp2_with fail
  go_loopw [7, 35] (fun _ iv wr => ∃ k : Nat, k ≤ n ∧ iv = .int .i64 k ∧ Star w wr [Blk f (finC p h g n n) 150, heapR h [], costR g n n (noC n k)]) (fun _ iv _ => n - (intOf iv).toNat)
  case atStart => exact ⟨0, by omega, rfl, X2.out⟩
  case round =>
    obtain ⟨k, hk, rfl, hX⟩ := hrel
    clear d0 d1 d2 dl X2
    by_cases hkn : k < n
    · obtain ⟨d0, d1, d2, dl⟩ := fin_cells hX
      obtain ⟨e0, ef, gl, n1, n2⟩ := cost_cell hX k hkn
      have hY := hX.store 2 rfl k (.int .i64 (-1))
      simp only [List.set_cons_succ, List.set_cons_zero] at hY
      rw [← List.map_set, noC_set] at hY
      have Y := hid hY
      clear hX hY
      go_wp2
      go_roundw
      case rel => exact ⟨k + 1, by omega, by go_num, Y.out⟩
      case measure => simp [intOf]; omega
    · obtain rfl : k = n := by omega
      have X := hid hX
      clear hX
      obtain ⟨b, off, cap, e1, hb, hc⟩ := HR.out.open (by omega)
      cases e1
      have HC := hid (hc 0 _ rfl)
      clear hc HR
      go_wp2_with fail
      go_loopw [9, 47] (fun _ iv wr => iv = .int .i64 0 ∧ Star w wr [Blk f (finC p h g k k) 150, heapR h [], costR g k k (noC k k)]) (fun _ iv _ => 1 - (intOf iv).toNat)
      case atStart => exact ⟨rfl, X.out⟩
      case round =>
        obtain ⟨rfl, hX⟩ := hrel
        have X2 := hid hX
        have hcj := X2.out.same.keep HC.out
        have hbl := World.block_lt_of_cell? _ _ hcj
        have hE := X2.out.same.keep HE.out
        simp only [Nat.add_zero] at hcj hbl
        clear hX X
        by_cases h0 : x < 0
        · go_wp2
          go_quiet (fail)
          go_wp2
          go_ret2
          exact ⟨rfl, X2.out.same.drewN _⟩
        · have hxn : (k : Int) ≤ x := by omega
          go_wp2_with fail
          refine (len_any (HG.out.same X2.out.same)).mono ?_
          rintro r w' ⟨rfl, rfl⟩
          rw [← HN.out]
          go_wp2
          go_quiet (fail)
          go_wp2
          go_ret2
          exact ⟨rfl, X2.out.same.drewN _⟩
end
end Go.Proofs.YtilobedihjkpjaaDoor.Route
