/-
  HandlesLimits: the walk.
-/
import Derived.Test.YtminjgfobcnmhaaDoorPoolPlain
import Derived.Test.YtminjgfobcnmhaaDoorErr
namespace Go.Proofs.YtminjgfobcnmhaaDoor.HandlesLimits
open Go Go.RowKit Go.Proofs.YtminjgfobcnmhaaDoor.Pool

def allL (gs : List Int) : List Slot := gs.map (fun g => (g, true))
def hands (gs : List Int) : List Hand := gs.mapIdx (fun i g => ((i : Int), g))
theorem live_all (gs : List Int) : ∀ k, liveFrom k (allL gs) = gs.mapIdx (fun i g => (((k + i : Nat) : Int), g)) := by
  induction gs with
  | nil => intro k; rfl
  | cons g gs ih =>
    intro k
    simp only [allL, List.map_cons, liveFrom, if_true, List.mapIdx_cons, Nat.add_zero]
    have := ih (k + 1)
    simp only [allL] at this
    rw [this]
    congr 1
    apply List.ext_getElem?
    intro i
    simp only [List.getElem?_mapIdx]
    congr 1
    funext x
    rw [show k + 1 + i = k + (i + 1) by omega]
theorem live_hands (gs : List Int) : live (allL gs) = hands gs := by
  unfold live hands
  rw [live_all]
  simp
theorem hands_len (gs : List Int) : (hands gs).length = gs.length := by simp [hands]
theorem hands_get (gs : List Int) (i : Nat) (g : Int) (h : gs[i]? = some g) : (hands gs)[i]? = some ((i : Int), g) := by simp [hands, h]
theorem hands_set (gs : List Int) (i : Nat) (g : Int) : (hands gs).set i ((i : Int), g) = hands (gs.set i g) := by
  unfold hands
  apply List.ext_getElem?
  intro j
  by_cases e : i = j
  · subst e
    by_cases hi : i < gs.length
    · rw [List.getElem?_set_self (by simpa using hi), List.getElem?_mapIdx, List.getElem?_set_self hi]; rfl
    · rw [List.getElem?_eq_none (by simp; omega), List.getElem?_eq_none (by simp; omega)]
  · rw [List.getElem?_set_ne e, List.getElem?_mapIdx, List.getElem?_mapIdx, List.getElem?_set_ne e]
theorem hands_snoc (gs : List Int) (g : Int) : hands (gs ++ [g]) = hands gs ++ [((gs.length : Int), g)] := by simp [hands, List.mapIdx_append]
theorem all_snoc (gs : List Int) (g : Int) : allL (gs ++ [g]) = allL gs ++ [(g, true)] := by simp [allL]
theorem all_set (gs : List Int) (i : Nat) (g : Int) : (allL gs).set i (g, true) = allL (gs.set i g) := by simp [allL, List.map_set]
theorem ok_all (gs : List Int) (hl : gs.length ≤ 128) (hg : ∀ g ∈ gs, 1 ≤ g ∧ g ≤ 1073741824) : Ok (allL gs) [] gs.length := by
  refine ⟨by simpa [allL] using hl, List.nodup_nil, by simp, ?_, ?_, ?_⟩
  · intro s hs
    simp [allL] at hs
    obtain ⟨g, h, rfl⟩ := hs
    exact hg g h
  · intro i g hi
    simp [allL] at hi
  · have : (allL gs).countP (·.2) = gs.length := by
      rw [List.countP_eq_length.2]
      · simp [allL]
      · intro s hs; simp [allL] at hs; obtain ⟨g, _, rfl⟩ := hs; rfl
    rw [this]

set_option maxRecDepth 100000 in
set_option maxHeartbeats 2000000 in
theorem walk (xs : List Int) (v : Value) (w : World) (hr : Ints w v xs) (hx : xs.length ≤ 17592186043904) (ad : Nat → Addr) (hE : Err.Errs w ad) :
    Calls Tryd.prog 9 #[v] w fun r w' => r = .returned (.bool true) ∧ Same w w' := by
  obtain ⟨i0, hi0, hz0, hz1, hz2⟩ := info_parts infoH
  obtain ⟨a, c, rfl⟩ := hr.slice
  have HR := hid hr
  have HE := hid hE
  obtain ⟨n, hn⟩ : ∃ n, n = xs.length := ⟨_, rfl⟩
  rw [← hn] at hx
  simp only [← hn] at HR ⊢
  have HN := hid hn
  clear hr hE hn
  go_enter Tryd.func9, Tryd.ntmps9
  go_wp2_with fail
  refine (alive _).mono ?_
  rintro r w1 ⟨rfl, hs1⟩
  have X1 := hid ((Star.new w).go hs1)
  clear hs1
  by_cases h1 : 300 < n
  · go_wp2
    go_ret
    exact ⟨rfl, X1.out.same⟩
  go_wp2_with fail
  refine (new_any X1.out).mono ?_
  rintro r w2 ⟨p, rfl, hX⟩
  have X2 := hid ((hX.add (w' := w2.alloc (.cells #[] 42)) ((Chg.refl _).alloc _) (R := Row 42 2 (.slice (some ⟨w2.heap.size, 0, none⟩) 0 0) 0 []) ⟨World.ownsRow_lit (base := 0) w2 #[] 0 (Nat.zero_le _) (by unfold maxLen; omega) rfl, rfl⟩ (fun k h => by simp [Value.ownBlock] at h; omega)).swap)
  clear hX X1
  go_wp2_with fail
  go_loopw [4, 21] (fun v iv wr => ∃ k : Nat, k ≤ 128 ∧ iv = .int .i64 k ∧ Star w wr [PoolR p (allL (List.replicate k 1)) [] k, Row 42 2 v k ((hands (List.replicate k 1)).flatMap hl)]) (fun _ iv _ => 128 - (intOf iv).toNat)
  case atStart => exact ⟨0, by omega, rfl, X2.out⟩
  case round =>
    obtain ⟨k, hk, rfl, hX⟩ := hrel
    have X := hid hX
    clear X2
    obtain ⟨va, vc, e, _⟩ := own_slice (hX.row 1 rfl).1
    subst e
    clear hX
    by_cases hlt : k < 128
    · have ok := ok_all (List.replicate k 1) (by simp; omega) (by intro g hg; have := List.eq_of_mem_replicate hg; omega)
      rw [List.length_replicate] at ok
      have OK := hid ok
      have ht : takeM (allL (List.replicate k 1)) [] = some (((k : Int), 1), allL (List.replicate (k + 1) 1), []) := by
        unfold takeM
        simp only [List.getLast?_nil]
        rw [if_pos (by simp [allL]; omega), List.replicate_succ', all_snoc]
        simp [allL]
      have HT := hid ht
      clear ok ht
      go_wp2_with fail
      refine (take_some X.out OK.out HT.out).mono ?_
      rintro r w3 ⟨rfl, hX⟩
      have X3 := hid hX
      have hrow := hid (hX.row 1 rfl).1
      clear hX X
      go_wp2_with (at_builtin; refine wpList_app rfl _ _ 45 rfl 42 i0 (.agg #[.int .i64 0, .int .i64 0]) 2 16 Tryd.underlying45 hi0 hz0 hz1 hz2 rfl (by decide) _ k ((hands (List.replicate k 1)).flatMap hl) rfl (own_chg (S := fun _ => False) hrow.out (by repeat (first | exact Chg.refl _ | refine Chg.drew ?_ | refine Chg.alloc _ ?_)) (fun _ _ f => f)) (some _) 1 1 (hl ((k : Int), 1)) rfl (reads_blk (cs := #[.int .i64 k, .int .i64 1]) (E := 42) (f := (0, 0)) (by first | exact alloc_new _ _ | exact alloc2_new _ _ _) 1 1 2 rfl) (hl_one _) (by omega) (by omega) ?_)
      intro a7 c7 w7 ho7 hg7 hn7
      have X7 := hid ((X3.out.go (by repeat (first | exact Chg.refl _ | refine Chg.drew ?_ | refine Chg.alloc _ ?_))).grown 1 rfl ho7 hg7 hn7)
      clear ho7 hg7 hn7 hrow X3
      go_wp2
      go_roundw
      case rel =>
        refine ⟨k + 1, by omega, by go_num, ?_⟩
        have e2 : (hands (List.replicate k 1)).flatMap hl ++ hl ((k : Int), 1) = (hands (List.replicate (k + 1) 1)).flatMap hl := by
          rw [List.replicate_succ', hands_snoc]; simp
        have h := X7.out
        rw [e2] at h
        rw [show ((k + 1 : Nat) : Int) = (k : Int) + 1 by omega]
        exact h
      case measure => simp [intOf]; omega
    · have hk8 : k = 128 := by omega
      subst hk8
      have hrep : hands (List.replicate 128 1) = hands (List.replicate 128 1) := rfl
      have X0 : Hid (∃ gs : List Int, gs.length = 128 ∧ (∀ g ∈ gs, 1 ≤ g ∧ g ≤ ((0 : Nat) : Int) + 1) ∧ Star w wr [PoolR p (allL gs) [] 128, Row 42 2 (.slice va 128 vc) 128 ((hands gs).flatMap hl)]) :=
        ⟨List.replicate 128 1, List.length_replicate, by intro g hg; have := List.eq_of_mem_replicate hg; omega, X.out⟩
      obtain ⟨gv, vc', e⟩ := own_shape (X.out.row 1 rfl).1 (by omega)
      cases e
      clear hrep X
      go_wp2_with fail
      go_loopw [37] (fun iv wx => ∃ (j : Nat) (gs : List Int), j ≤ n ∧ iv = .int .i64 j ∧ gs.length = 128 ∧ (∀ g ∈ gs, 1 ≤ g ∧ g ≤ (j : Int) + 1) ∧ Star w wx [PoolR p (allL gs) [] 128, Row 42 2 (.slice (some ⟨gv, 0, none⟩) 128 vc) 128 ((hands gs).flatMap hl)]) (fun iv _ => n - (intOf iv).toNat)
      case atStart => obtain ⟨gs, q1, q2, q3⟩ := X0.out; exact ⟨0, gs, by omega, rfl, q1, q2, q3⟩
      case round =>
        obtain ⟨j, gs, hj, rfl, hgl, hgg, hX⟩ := hrel
        have X := hid hX
        have GG := hid hgg
        have GL := hid hgl
        have ok := ok_all gs (by omega) (fun g hg => by have := hgg g hg; omega)
        rw [hgl] at ok
        have OK : Hid (Ok (allL gs) [] 128) := ok
        clear hX X0 hgg hgl ok
        by_cases hjn : j < n
        · obtain ⟨b, off, cap, e1, hb, hcl⟩ := HR.out.open (by have := HN.out; omega)
          cases e1
          have hjx : j < xs.length := by have := HN.out; omega
          have g0 := X.out.keepCell (hcl j (.int .i64 xs[j]) (by simp [hjx]))
          clear hcl
          generalize xs[j] = x at *
          obtain ⟨i, hi, hmod⟩ := mod_small x 128 (by omega) (by omega)
          have hmod2 : wrap64 ((IntKind.u64.wrap x).tmod 128) = (i : Int) := hmod
          obtain ⟨g, hg⟩ : ∃ g, gs[i]? = some g := ⟨_, List.getElem?_eq_getElem (by have := GL.out; omega)⟩
          have hgb := GG.out g (List.mem_of_getElem? hg)
          have HG := hid hg
          have hn0 : takeM (allL gs) [] = none := by
            unfold takeM
            simp only [List.getLast?_nil]
            rw [if_neg (by simp [allL]; have := GL.out; omega)]
          have HN0 := hid hn0
          clear hmod hg hn0
          go_wp2_with fail
          refine (take_none X.out OK.out HN0.out _ HE.out.c1 ⟨_, _, rfl⟩).mono ?_
          rintro r w3 ⟨rfl, hX⟩
          have X3 := hid (hX.go (w' := w3.alloc (.cells #[.int .i64 0, .int .i64 0] 42)) ((Chg.refl _).alloc _))
          clear hX X
          clear hmod2
          go_wp2_with fail
          refine (Err.num ad 2 (by omega) _ (HE.out.same X3.out.same)).mono ?_
          rintro r w4 ⟨rfl, hs4⟩
          have X4 := hid (X3.out.go hs4)
          clear X3 hs4
          have hrow := X4.out.row 1 rfl
          have e0 : w4.cell? ⟨gv, i * 2, none⟩ = some (.int .i64 i) := (hrow.1.cellAt (i * 2) (by omega)).trans ((rows_get hl hl_len (hands gs) i 0 _ (hands_get gs i g HG.out) (by omega)).trans rfl)
          have e1 : w4.cell? ⟨gv, i * 2 + 1, none⟩ = some (.int .i64 g) := (hrow.1.cellAt (i * 2 + 1) (by omega)).trans ((rows_get hl hl_len (hands gs) i 1 _ (hands_get gs i g HG.out) (by omega)).trans rfl)
          have hvl := (hrow.1.lt gv rfl).2
          have HS := hid (show (allL gs)[i]? = some (g, true) by simp [allL, HG.out])
          clear hrow
          go_wp2_with fail
          refine (free_live X4.out OK.out HS.out).mono ?_
          rintro r w5 ⟨rfl, hX⟩
          have X5 := hid hX
          clear hX X4 e0 e1 hvl
          have ok5 := OK.out.free' HS.out
          have eg : gone g = (g + 1, false) := by unfold gone; rw [if_pos (by omega)]
          have ef : freed [] i g = [i] := by unfold freed; rw [if_pos (by omega)]; rfl
          have hit : i < (allL gs).length := (List.getElem?_eq_some_iff.1 HS.out).1
          have ht : takeM ((allL gs).set i (gone g)) (freed [] i g) = some (((i : Int), g + 1), allL (gs.set i (g + 1)), []) := by
            rw [eg, ef]
            unfold takeM
            simp [hit, all_set]
          have HT := hid ht
          have OK5 := hid ok5
          clear ok5 eg ef hit ht
          go_wp2_with fail
          refine (take_some X5.out OK5.out HT.out).mono ?_
          rintro r w6 ⟨rfl, hX⟩
          have X6 := hid hX
          have hrow := hX.row 1 rfl
          have e0 : w6.cell? ⟨gv, i * 2, none⟩ = some (.int .i64 i) := (hrow.1.cellAt (i * 2) (by omega)).trans ((rows_get hl hl_len (hands gs) i 0 _ (hands_get gs i g HG.out) (by omega)).trans rfl)
          have e1 : w6.cell? ⟨gv, i * 2 + 1, none⟩ = some (.int .i64 g) := (hrow.1.cellAt (i * 2 + 1) (by omega)).trans ((rows_get hl hl_len (hands gs) i 1 _ (hands_get gs i g HG.out) (by omega)).trans rfl)
          have f0 := hrow.1.frozenAt (i * 2)
          have f1 := hrow.1.frozenAt (i * 2 + 1)
          have hvl := (hrow.1.lt gv rfl).2
          clear hrow hX X5
          go_wp2
          go_quiet (fail)
          go_wp2
          go_roundw
          case rel =>
            have hrel : ∃ (j' : Nat) (gs' : List Int), j' ≤ xs.length ∧ Value.int .i64 ((j : Int) + 1) = .int .i64 j' ∧ gs'.length = 128 ∧ (∀ g ∈ gs', 1 ≤ g ∧ g ≤ (j' : Int) + 1) ∧ Star w ((((w6.alloc (.cells #[.int .i64 i, .int .i64 (g + 1)] 42)).drewN nq).setCell ⟨gv, i * 2, none⟩ (.int .i64 i)).setCell ⟨gv, i * 2 + 1, none⟩ (.int .i64 (g + 1))) [PoolR p (allL gs') [] 128, Row 42 2 (.slice (some ⟨gv, 0, none⟩) 128 vc) 128 ((hands gs').flatMap hl)] := by
              refine ⟨j + 1, gs.set i (g + 1), by omega, by go_num, by rw [List.length_set]; exact GL.out, ?_, ?_⟩
              · intro y hy
                rcases List.mem_or_eq_of_mem_set hy with h | rfl
                · have := GG.out y h; omega
                · omega
              · have h := ((X6.out.go (w' := (w6.alloc (.cells #[.int .i64 i, .int .i64 (g + 1)] 42)).drewN nq) (((Chg.refl _).alloc _).drewN _)).store 1 rfl (i * 2) (.int .i64 i)).store 1 rfl (i * 2 + 1) (.int .i64 (g + 1))
                have e2 := rows_set1 hl hl_len (hands gs) i 0 ((i : Int), g) ((i : Int), g) (.int .i64 i) (hands_get gs i g HG.out) (by omega) rfl
                have e3 : (hands gs).set i ((i : Int), g) = hands gs := by rw [hands_set]; congr 1; apply List.ext_getElem?; intro k; by_cases e : i = k; (subst e; rw [List.getElem?_set_self (by have := GL.out; omega)]; exact HG.out.symm); (rw [List.getElem?_set_ne e])
                rw [Nat.add_zero, e3] at e2
                rw [e2, rows_set1 hl hl_len (hands gs) i 1 ((i : Int), g) ((i : Int), g + 1) (.int .i64 (g + 1)) (hands_get gs i g HG.out) (by omega) rfl, hands_set] at h
                exact h
            first | exact hrel | ((repeat apply Exists.intro); exact ⟨hrel, rfl⟩)
          case measure => simp [intOf]; omega
        · go_wp2_with fail
          refine (count_any X.out).mono ?_
          rintro r w3 ⟨rfl, rfl⟩
          go_wp2_with fail
          refine (list_any X.out (by simp [allL]; have := GL.out; omega)).mono ?_
          rintro r w4 ⟨v4, rfl, hX⟩
          have hlen : (live (allL gs)).length = 128 := by rw [live_hands, hands_len]; exact GL.out
          rw [hlen] at hX
          obtain ⟨a4, c4, e4, _⟩ := own_slice (hX.row 0 rfl).1
          subst e4
          have X4 := hid hX
          clear hX hlen
          go_wp2
          go_ret
          exact ⟨rfl, X4.out.same⟩
end Go.Proofs.YtminjgfobcnmhaaDoor.HandlesLimits
