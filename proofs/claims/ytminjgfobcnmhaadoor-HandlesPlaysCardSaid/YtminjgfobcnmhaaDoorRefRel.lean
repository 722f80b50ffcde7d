/-
  The document's pool: Release.
-/
import Derived.Test.YtminjgfobcnmhaaDoorRefPool
namespace Go.Proofs.YtminjgfobcnmhaaDoor.Pool
open Go Go.RowKit

section
variable {w0 w : World} {L : List Res} {p : Nat} {S : List Slot} {f : List Nat}
set_option maxRecDepth 100000 in
set_option maxHeartbeats 4000000 in
theorem rrelease_no (X : Star w0 w (RefR p S f :: L)) (h : Hand) (hl : livesB S h = false) :
    Calls Tryd.prog 51 #[.pointer (some ⟨p, 0, none⟩), hv h] w fun r w' => r = .returned (.int .i64 3) ∧ Same w w' := by
  have H := hid X
  have HL := hid hl
  obtain ⟨x, g⟩ := h
  clear X hl
  go_enter Tryd.func51, Tryd.ntmps51
  go_wp2_with fail
  refine (rlives_any (H.out.go (w' := w.alloc (.cells #[.int .i64 x, .int .i64 g] 42)) ((Chg.refl _).alloc _)) (x, g)).mono ?_
  rintro r w1 ⟨rfl, hs⟩
  rw [HL.out]
  have HS := hid (Chg.trans (S := fun _ => False) ((Chg.refl w).alloc (.cells #[.int .i64 x, .int .i64 g] 42)) hs (fun _ _ f => f))
  clear hs H
  go_wp2
  go_ret
  exact ⟨rfl, HS.out⟩
set_option maxRecDepth 100000 in
set_option maxHeartbeats 4000000 in
theorem rrelease_live (X : Star w0 w (RefR p S f :: L)) (i : Nat) (g : Int) (hi : S[i]? = some (g, true)) (hg : 1 ≤ g ∧ g ≤ 1073741824) (hf : f.length ≤ 1000) :
    Calls Tryd.prog 51 #[.pointer (some ⟨p, 0, none⟩), hv (i, g)] w fun r w' => r = .returned (.int .i64 0) ∧ Star w0 w' (RefR p (S.set i (gone g)) (freed f i g) :: L) := by
  obtain ⟨i0, hi0, hz0, hz1, hz2⟩ := info_parts infoI
  have X0 := hid ((X.alloc #[.int .i64 i, .int .i64 g] 42).swap)
  have HI := hid hi
  have hlt := (List.getElem?_eq_some_iff.1 hi).1
  have HL := hid (lives_at hi)
  clear X hi
  go_enter Tryd.func51, Tryd.ntmps51
  go_wp2_with fail
  refine (rlives_any X0.out (i, g)).mono ?_
  rintro r w1 ⟨rfl, hs⟩
  rw [HL.out]
  obtain ⟨vs, vf, hY⟩ := RefR.open (X0.out.go hs)
  obtain ⟨gs, cs, m, rfl, ⟨hm, hmc, hmx⟩, -, -, -, -, hgp⟩ := rslot_facts hY i (g, true) HI.out
  obtain ⟨bf, cf, n, rfl, hn, hnc, hnx⟩ := rfree_shape hY
  have HM := hid hm
  have HN := hid hn
  have him : i < m := by omega
  have hn1 : n ≤ 1000 := by omega
  have Y := hid hY
  have hrow := hY.row 1 rfl
  rw [← HM.out] at hrow
  have e1f : w1.frozen? ⟨gs, i * 2 + 1, none⟩ = false := hrow.1.frozenAt (i * 2 + 1)
  have e1 : w1.cell? ⟨gs, i * 2 + 1, none⟩ = some (.bool true) := (hrow.1.cellAt (i * 2 + 1) (by omega)).trans ((rows_get sl sl_len S i 1 (g, true) HI.out (by omega)).trans rfl)
  have hgl := (hrow.1.lt gs rfl).2
  have hb0 := (hY.blk 0 rfl).1
  have hb3 := (hY.blk 3 rfl).1
  have h0 : w1.cell? ⟨p, 0, none⟩ = some (.slice (some ⟨gs, 0, none⟩) m cs) := cell_of hb0 0
  have hl : p < w1.heap.size := lt_of hb0
  have b0 : w1.cell? ⟨w.heap.size, 0, none⟩ = some (.int .i64 i) := cell_of hb3 0
  have bl : w.heap.size < w1.heap.size := lt_of hb3
  have hpg : ¬ p = gs := fun e => hgp e.symm
  clear hY hm hn hs X0 hrow hb0 hb3
  generalize w.heap.size = q at *
  go_wp2_with fail
  go_region
  have Y2 := hid ((Y.out.store 1 rfl (i * 2 + 1) (.bool false)).go (w' := (w1.setCell ⟨gs, i * 2 + 1, none⟩ (.bool false)).drew) ((Chg.refl _).drew))
  have hqg : ¬ q = gs := (Y.out.neRB 1 3 rfl rfl (by omega)).1
  clear Y h0 hl b0 bl e1 e1f hgl hpg hgp hqg
  generalize (w1.setCell _ _).drew = w2 at *
  have facts : ∀ (w' : World) (r : List Value), Star w0 w' (rblkR p (.slice (some ⟨gs, 0, none⟩) m cs) (.slice bf n cf) :: Row 58 2 (.slice (some ⟨gs, 0, none⟩) m cs) S.length r :: freeR (.slice bf n cf) f :: Blk q #[.int .i64 i, .int .i64 g] 42 :: L) →
      (w'.cell? ⟨p, 0, none⟩ = some (.slice (some ⟨gs, 0, none⟩) m cs) ∧ w'.cell? ⟨p, 1, none⟩ = some (.slice bf n cf) ∧ (w'.frozen? ⟨p, 1, none⟩ = false ∧ p < w'.heap.size)) ∧ (w'.cell? ⟨q, 0, none⟩ = some (.int .i64 i) ∧ w'.cell? ⟨q, 1, none⟩ = some (.int .i64 g) ∧ q < w'.heap.size) ∧
      (w'.frozen? ⟨gs, i * 2, none⟩ = false ∧ gs < w'.heap.size) ∧ (¬ p = gs ∧ ¬ q = gs ∧ ¬ p = q)   := fun _ _ Z => by
    have z0 := (Z.blk 0 rfl).1
    have z3 := (Z.blk 3 rfl).1
    have zr := (Z.row 1 rfl).1
    rw [← HM.out] at zr
    exact ⟨⟨cell_of z0 0, cell_of z0 1, free_of z0 1, lt_of z0⟩, ⟨cell_of z3 0, cell_of z3 1, lt_of z3⟩, ⟨zr.frozenAt (i * 2), (zr.lt gs rfl).2⟩, (Z.neBR 0 1 rfl rfl (by omega)).1, (Z.neRB 1 3 rfl rfl (by omega)).1, (Z.neBB 0 3 rfl rfl (by omega)).1⟩
  obtain ⟨⟨h0, h1, h1f, hl⟩, ⟨b0, b1, bl⟩, ⟨e0f, hgl⟩, npg, nqg, npq⟩ := facts _ _ Y2.out
  have e0 : w2.cell? ⟨gs, i * 2, none⟩ = some (.int .i64 g) := by
    have hr := (Y2.out.row 1 rfl).1
    rw [← HM.out] at hr
    refine (hr.cellAt (i * 2) (by omega)).trans ?_
    rw [rows_set1 sl sl_len S i 1 (g, true) (g, false) (.bool false) HI.out (by omega) rfl]
    exact (rows_get sl sl_len (S.set i (g, false)) i 0 (g, false) (by simp [hlt]) (by omega)).trans rfl
  have FA := hid facts
  clear facts
  by_cases hg2 : g < 1073741824
  · have hwg : IntKind.i64.wrap (g + 1) = g + 1 := IntWalk.i64_in _ (by omega)
    go_wp2_with fail
    have Y3 := hid ((Y2.out.store 1 rfl (i * 2) (.int .i64 (g + 1))).go (w' := (w2.setCell ⟨gs, i * 2, none⟩ (.int .i64 (g + 1))).drew) ((Chg.refl _).drew))
    go_region
    clear h0 h1 h1f hl b0 b1 bl e0f hgl e0 Y2 hwg
    generalize (w2.setCell _ _).drew = w3 at *
    obtain ⟨⟨h0, h1, h1f, hl⟩, ⟨b0, b1, bl⟩, ⟨e0f, hgl⟩, -, -, -⟩ := FA.out _ _ Y3.out
    have hrow := hid (Y3.out.row 2 rfl)
    rw [← HN.out] at hrow
    go_wp2_with fail
    go_region_law ((refine step_app rfl (.tmp 35) (.tmp 38) 53 rfl 3 i0 (.int .i64 0) 1 8 Tryd.underlying53 hi0 hz0 hz1 hz2 rfl (by decide) (.slice bf n cf) n (f.map nv) (by simp [Act.eval, Act.put]) (by exact own_chg (S := fun _ => False) hrow.out.1 (by repeat (first | exact Chg.refl _ | refine Chg.drew ?_ | refine Chg.alloc _ ?_)) (fun _ _ f => f)) (some ⟨w3.heap.size, 0, none⟩) 1 1 [.int .i64 i] (by simp [Act.eval, Act.put]) (by exact reads_blk (cs := #[.int .i64 i]) (E := 3) (f := (0, 0)) (alloc_new w3 _) 1 1 1 rfl) (by intro u hu; simp at hu; subst hu; rfl) (by omega) (by omega) ?_); intro a8 c8 w8 ho8 hg8 hn8; have Y8 := hid ((Y3.out.go (show Same w3 _ by repeat (first | exact Chg.refl _ | refine Chg.drew ?_ | refine Chg.alloc _ ?_))).grown 2 rfl ho8 hg8 hn8); have p1 := cell_of (Y8.out.blk 0 rfl).1 1; have p1f := free_of (Y8.out.blk 0 rfl).1 1; clear ho8 hg8 hn8)
    all_goals
      go_wp2
      go_ret
      refine ⟨rfl, ?_⟩
      have h3 : Star w0 _ (rblkR p (.slice (some ⟨gs, 0, none⟩) m cs) (.slice a8 (n + 1) c8) :: Row 58 2 (.slice (some ⟨gs, 0, none⟩) m cs) S.length (((S.flatMap sl).set (i * 2 + 1) (.bool false)).set (i * 2) (.int .i64 (g + 1))) :: Row 3 1 (.slice a8 (n + 1) c8) (n + 1) (f.map nv ++ [.int .i64 i]) :: L) := ((Y8.out.put 0 rfl 1 (.slice a8 (n + 1) c8)).pull 3 rfl).drop
      have e2 := rows_set1 sl sl_len (S.set i (g, false)) i 0 (g, false) (g + 1, false) (.int .i64 (g + 1)) (by simp [hlt]) (by omega) rfl
      rw [Nat.add_zero, List.set_set] at e2
      have eg : gone g = (g + 1, false) := by unfold gone; rw [if_pos hg2]
      have ef : freed f i g = f ++ [i] := by unfold freed; rw [if_pos hg2]
      rw [rows_set1 sl sl_len S i 1 (g, true) (g, false) (.bool false) HI.out (by omega) rfl, e2, ← eg] at h3
      rw [ef]
      have hl1 : (S.set i (gone g)).length = S.length := List.length_set
      have hl2 : n + 1 = (f ++ [i]).length := by rw [HN.out]; simp
      have em : f.map nv ++ [.int .i64 i] = (f ++ [i]).map nv := by simp [nv]
      rw [← hl1, em] at h3
      generalize n + 1 = n1 at *
      subst hl2
      exact RefR.close h3
  · go_wp2
    go_ret
    refine ⟨rfl, ?_⟩
    have h3 : Star w0 _ (rblkR p (.slice (some ⟨gs, 0, none⟩) m cs) (.slice bf n cf) :: Row 58 2 (.slice (some ⟨gs, 0, none⟩) m cs) S.length ((S.flatMap sl).set (i * 2 + 1) (.bool false)) :: freeR (.slice bf n cf) f :: L) := (Y2.out.pull 3 rfl).drop
    have eg : gone g = (g, false) := by unfold gone; rw [if_neg (by omega)]
    have ef : freed f i g = f := by unfold freed; rw [if_neg (by omega)]
    rw [rows_set1 sl sl_len S i 1 (g, true) (g, false) (.bool false) HI.out (by omega) rfl, ← eg] at h3
    rw [ef]
    have hl1 : (S.set i (gone g)).length = S.length := List.length_set
    rw [← hl1] at h3
    exact RefR.close h3
end
end Go.Proofs.YtminjgfobcnmhaaDoor.Pool
