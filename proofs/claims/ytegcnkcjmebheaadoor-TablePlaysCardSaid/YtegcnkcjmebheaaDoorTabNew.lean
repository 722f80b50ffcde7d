/-
  Package table: New.
-/
import Derived.Test.YtegcnkcjmebheaaDoorTab
import Derived.Deep.CutBlock
import Derived.Deep.DeepCutAuto
namespace Go.Proofs.YtegcnkcjmebheaaDoor.Tab
open Go Go.RowKit Go.Maps Go.Proofs.YtegcnkcjmebheaaDoor.Mask
theorem bits10 {m : Nat} (hm : m < 1024) : ∀ k ∈ bitsOf m, k < 10 := by
  intro k hk
  obtain ⟨_, h⟩ := (mem_bitsOf m k).1 hk
  refine Classical.byContradiction fun hc => ?_
  have h2 : m < 2 ^ k := Nat.lt_of_lt_of_le hm (by
    have : 2 ^ 10 ≤ 2 ^ k := Nat.pow_le_pow_right (by omega) (by omega)
    omega)
  rw [Nat.testBit_lt_two_pow h2] at h
  cases h
theorem bits_rise (m : Nat) : (bitsOf m).Pairwise (· < ·) := List.Pairwise.filter _ List.pairwise_lt_range
section
variable {w0 w : World} {L : List Res}
set_option maxRecDepth 100000 in
set_option maxHeartbeats 4000000 in
theorem new_bad (m : Nat) (hm : 1024 ≤ m) (e : Value) (he : w.cell? ⟨0, 0, none⟩ = some e) :
    Calls Tryd.prog 8 #[mk m] w fun r w' => r = .returned (.tuple #[.pointer none, e]) ∧ Same w w' := by
  have hEl := World.block_lt_of_cell? _ _ he
  go_enter Tryd.func8, Tryd.ntmps8
  go_wp2_with fail
  refine (right_any m w).mono ?_
  rintro r w' ⟨rfl, rfl⟩
  rw [decide_eq_false (by omega)]
  go_wp2_with fail
  go_quiet (fail)
  go_wp2
  go_ret2
  exact ⟨rfl, (Chg.refl _).drewN _⟩
set_option maxRecDepth 100000 in
set_option maxHeartbeats 8000000 in
theorem new_any (X : Star w0 w L) (m : Nat) (hm : m < 1024) (hT : Mask.Tab w0) :
    Calls Tryd.prog 8 #[mk m] w fun r w' => ∃ (t : Pl) (kv : Value), TOk t (bitsOf m) ∧ r = .returned (.tuple #[.pointer (some ⟨t.p, 0, none⟩), .nilIface]) ∧ Star w0 w' (tabL t m kv [] (fun _ => []) (natRow kv (bitsOf m) :: L)) := by
  have HX := hid X
  have HT := hid hT
  have hmm := @run_makeMap Tryd.prog
  have HB := hid (bits10 hm)
  have HR := hid (bits_rise m)
  obtain ⟨ks, hks⟩ : ∃ ks, ks = bitsOf m := ⟨_, rfl⟩
  have HKS := hid hks
  rw [← hks] at HB HR ⊢
  clear X hT hks
  go_enter Tryd.func8, Tryd.ntmps8
  go_wp2_with fail
  refine (right_any m w).mono ?_
  rintro r w' ⟨rfl, rfl⟩
  rw [decide_eq_true hm]
  go_wp2_with fail
  refine (CH.new_any HX.out 128 (by omega)).mono ?_
  rintro r w1 ⟨hp, rfl, hX1⟩
  have X1 := hid hX1
  clear hX1 HX
  go_wp2_with fail
  refine (kinds_any X1.out m (show m ≤ 18446744073709551615 by omega) HT.out).mono ?_
  rintro r w2 ⟨kv, rfl, hX2⟩
  rw [← HKS.out] at hX2
  obtain ⟨ak, ck, rfl, -⟩ := own_slice (hX2.row 0 rfl).1
  have X3 := hid ((hX2.mapNew Tryd.prog 3 ptrE).alloc #[.pointer (some ⟨hp, 0, none⟩), mk m, .slice ak ks.length ck, .map (some w2.heap.size)] 44)
  clear hX2 X1
  have hkl := bitsOf_len m
  rw [← HKS.out] at hkl
  go_upto_region 4 with (fail)
  have hsz : (w2.alloc (.map #[] 0)).heap.size = w2.heap.size + 1 := by simp
  rw [hsz] at X3
  generalize (w2.alloc (.map #[] 0)).alloc _ = w3 at *
  generalize w2.heap.size = mb at *
  clear hsz
  obtain ⟨p, hp1⟩ : ∃ p, p = mb + 1 := ⟨_, rfl⟩
  have X4 : Hid (Star w0 w3 (tabB p hp m (.slice ak ks.length ck) mb :: CH.R hp [] 128 :: mapB mb 0 (fun _ => none) :: (colS (fun _ => none) (fun _ => []) ++ (natRow (.slice ak ks.length ck) ks :: L)))) := hid (by
    have h3 : Star w0 w3 (tabB (mb + 1) hp m (.slice ak ks.length ck) mb :: mapB mb 0 (fun _ => none) :: natRow (.slice ak ks.length ck) ks :: CH.R hp [] 128 :: L) := X3.out.set 1 rfl (fun F h => ⟨h.1.congr (fun kl => by
      unfold mapC
      split
      · split <;> rfl
      · rfl), h.2⟩)
    have hz : ∀ n : Nat, ∀ {M : List Res}, Star w0 w3 M → Star w0 w3 (List.replicate n (factR True) ++ M) := by
      intro n
      induction n with
      | zero => exact fun h => h
      | succ n ih => exact fun h => Star.close_fact trivial (ih h)
    have h4 := (h3.pull 3 rfl).pull 1 rfl
    subst hp1
    exact (((hz 10 h4).pull 12 rfl).pull 12 rfl).pull 12 rfl)
  rw [← hp1]
  clear X3 hp1
  have hbk := (X4.out.blk 0 rfl).1
  have b2 := cell_of hbk 2
  have bl := lt_of hbk
  simp only [List.getElem?_toArray, List.getElem?_cons_zero, List.getElem?_cons_succ] at b2
  clear hbk
  go_wp2_with fail
  go_loopw [23] (fun iv wr => ∃ (j n : Nat) (cols : Nat → Option Nat), j ≤ ks.length ∧ n ≤ j ∧ iv = .int .i64 j ∧ (∀ k, (cols k).isSome = true ↔ k ∈ ks.take j) ∧ Star w0 wr (tabB p hp m (.slice ak ks.length ck) mb :: CH.R hp [] 128 :: mapB mb n cols :: (colS cols (fun _ => []) ++ (natRow (.slice ak ks.length ck) ks :: L)))) (fun iv _ => ks.length - (intOf iv).toNat)
  case atStart => exact ⟨0, 0, fun _ => none, by omega, by omega, rfl, by simp, by
    have h := X4.out
    exact h.set 2 rfl (fun F h => ⟨h.1.congr (fun kl => by
      unfold mapC
      split
      · split <;> rfl
      · rfl), h.2⟩)⟩
  case round =>
    obtain ⟨j, n, cols, hj, hnj, rfl, hdom, hX⟩ := hrel
    rename World => wz
    have X := hid hX
    have HD := hid hdom
    have hbk := (hX.blk 0 rfl).1
    have c0 := cell_of hbk 0
    have c3 := cell_of hbk 3
    have cl := lt_of hbk
    simp only [List.getElem?_toArray, List.getElem?_cons_zero, List.getElem?_cons_succ] at c0 c3
    clear hX hdom hbk b2 bl X4
    by_cases hjn : j < ks.length
    · have hrow := (X.out.row 13 rfl).1
      obtain ⟨g, gk, hg⟩ := own_shape hrow (by omega)
      cases hg
      obtain ⟨k, hk⟩ : ∃ k, ks[j]? = some k := ⟨_, List.getElem?_eq_getElem hjn⟩
      have hc := hrow.cellAt j (by omega)
      rw [show (nI ks)[j]? = some (.int .i64 (k : Int)) by simp [nI, hk]] at hc
      have gl := (hrow.lt g rfl).2
      have hk10 := HB.out k (List.mem_of_getElem? hk)
      have KY := hid (keyI k (by omega) (by omega))
      have HK := hid hk
      clear hrow hk
      go_wp2_with fail
      go_region_with (go_at_call 35; refine (CV.new_any (X.out.go ((Chg.refl _).drew)) 128 (by omega)).mono ?_; rintro r w5 ⟨q, rfl, hX5⟩; have hbk := (hX5.blk 1 rfl).1; have d3 := cell_of hbk 3; have dl := lt_of hbk; simp only [List.getElem?_toArray, List.getElem?_cons_zero, List.getElem?_cons_succ] at d3; have h5 := (hX5.map 3 rfl).1; obtain ⟨w9, hrun0, hM, hC⟩ := h5.store keyed Tryd.underlying42 (by omega) KY.out q; have hrun := (show (Instr.mapUpdate 42 (.map (some mb)) (.int .i64 (k : Int)) (.pointer (some ⟨q, 0, none⟩))).run Tryd.prog w5 = .ok () w9 from hrun0); have X9 := hid (hX5.mapSet 3 rfl hM hC); clear hbk hX5 h5 hM hC hrun0)
      all_goals
        have hks : ks.take (j + 1) = ks.take j ++ [k] := by
          obtain ⟨h1, h2⟩ := List.getElem?_eq_some_iff.1 HK.out
          rw [List.take_succ_eq_append_getElem h1, h2]
        have hD2 : ∀ i, (updX cols k (some q) i).isSome = true ↔ i ∈ ks.take (j + 1) := by
          intro i
          rw [hks, List.mem_append, List.mem_singleton]
          by_cases e : i = k
          · subst e; rw [updX_same]; simp
          · rw [updX_other _ _ e, HD.out i]; simp [e]
        have h1 : Star w0 w9 (CV.R q [] 128 :: tabB p hp m (.slice (some ⟨g, 0, none⟩) ks.length ck) mb :: CH.R hp [] 128 :: mapB mb (if (mapC cols (.int .i64 (k : Int))).isSome then n else n + 1) (updX cols k (some q)) :: (colS cols (fun _ => []) ++ (natRow (.slice (some ⟨g, 0, none⟩) ks.length ck) ks :: L))) := X9.out.set 3 rfl (fun F h => ⟨h.1.congr (mapC_upd cols k (some q)), h.2⟩)
        have h2 := colPut hk10 h1
        rw [show updX (fun _ : Nat => ([] : List Vl)) k [] = fun _ => [] by funext i; unfold updX; split <;> rfl] at h2
        have XA := hid h2
        have HD2 := hid hD2
        clear h1 h2 hks hD2 X9 hrun d3 dl c0 c3 cl hc gl X
        go_wp2
        go_roundw
        case rel => exact ⟨j + 1, _, _, by omega, by split <;> omega, by go_num, HD2.out, XA.out⟩
        case measure => simp [intOf]; omega
    · have HDD := hid (show ∀ k, (cols k).isSome = true ↔ k ∈ ks from by
        intro k
        rw [HD.out k, List.take_of_length_le (by omega)])
      go_wp2
      go_ret2
      exact ⟨⟨p, hp, mb, n, cols⟩, .slice ak ks.length ck, HDD.out, rfl, X.out⟩
end
end Go.Proofs.YtegcnkcjmebheaaDoor.Tab
