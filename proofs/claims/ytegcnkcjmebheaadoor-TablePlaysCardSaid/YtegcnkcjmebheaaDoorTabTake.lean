/-
  Package table: Take.
-/
import Derived.Test.YtegcnkcjmebheaaDoorTabEnt
namespace Go.Proofs.YtegcnkcjmebheaaDoor.Tab
open Go Go.RowKit Go.Maps Go.Proofs.YtegcnkcjmebheaaDoor.Mask
section
variable {w0 w : World} {L : List Res} {t : Pl} {m : Nat} {kv : Value} {ks : List Nat} {H : List Hd} {X : Nat → List Vl}
theorem colS_congr {cols : Nat → Option Nat} {X X' : Nat → List Vl} (h : ∀ k c, k < 10 → cols k = some c → X k = X' k) : colS cols X = colS cols X' := by
  unfold colS
  apply List.map_congr_left
  intro k hk
  have hk10 := List.mem_range.1 hk
  cases hc : cols k with
  | none => rfl
  | some c => rw [h k c hk10 hc]
theorem tabSwap {R S : Res} (Y : Star w0 w (tabL t m kv H X (R :: S :: L))) : Star w0 w (tabL t m kv H X (S :: R :: L)) :=
  Y.perm (show ((tabB t.p t.hp m kv t.mb :: CH.R t.hp H 128 :: mapB t.mb t.n t.cols :: colS t.cols X) ++ (R :: S :: L)).Perm ((tabB t.p t.hp m kv t.mb :: CH.R t.hp H 128 :: mapB t.mb t.n t.cols :: colS t.cols X) ++ (S :: R :: L)) from (List.Perm.swap _ _ _).append_left _)
set_option maxRecDepth 100000 in
set_option maxHeartbeats 16000000 in
theorem take_in (Y : Star w0 w (tabL t m kv H X (natRow kv ks :: L))) (hT : TOk t ks) (h10 : ∀ k ∈ ks, k < 10) (hkl : ks.length ≤ 64) (i : Nat) (h : Hd) (hi : H[i]? = some h) (hH : H.length ≤ 128) (val : Nat → Vl) (hv : ∀ k ∈ ks, (X k)[i]? = some (val k)) (hX : ∀ k, (X k).length ≤ 1000000) :
    Calls Tryd.prog 11 #[.pointer (some ⟨t.p, 0, none⟩), .int .i64 i] w fun r w' => ∃ v, r = .returned (.tuple #[.agg (enC h.1 h.2 v), .nilIface]) ∧ Star w0 w' (Row 37 3 v (ks.map val).length ((ks.map val).flatMap vc) :: tabL t m kv (takeOut H i) (fun k => takeOut (X k) i) (natRow kv ks :: L)) := by
  obtain ⟨h1, h2⟩ := h
  have Y0 := hid (tabSwap (tabIn (Y.alloc #[.int .i64 0, .int .i64 0, .slice none 0 0] 46)))
  have HI := hid hi
  have HT := hid hT
  have HV := hid hv
  have HXL := hid hX
  have H10 := hid h10
  have HH := hid hH
  have HKL := hid hkl
  have HH2 := hid (show H.length ≤ 1000000 by omega)
  clear Y hT h10 hi hH hv hX hkl
  go_enter Tryd.func11, Tryd.ntmps11
  go_wp2_with fail
  refine (entity_in Y0.out HT.out H10.out HKL.out i (h1, h2) HI.out HH.out val HV.out HXL.out).mono ?_
  rintro r w1 ⟨v, rfl, hY1⟩
  generalize w.heap.size = e4 at *
  obtain ⟨ln, hln⟩ : ∃ ln, ln = (ks.map val).length := ⟨_, rfl⟩
  rw [← hln] at hY1
  have HLN := hid hln
  obtain ⟨va, vcp, rfl, -⟩ := own_slice (hY1.row 0 rfl).1
  have Y1 := hid (tabIn (tabIn hY1 |>.alloc #[.int .i64 h1, .int .i64 h2, .slice va ln vcp] 46))
  clear hY1 Y0 hln
  go_upto_region 4 with (fail)
  generalize w1.alloc _ = w2 at *
  generalize w1.heap.size = e6 at *
  have hbk := (Y1.out.blk 0 rfl).1
  have b0 := cell_of hbk 0
  have bl := lt_of hbk
  simp only [List.getElem?_toArray, List.getElem?_cons_zero] at b0
  have CHX := hid (Y1.out.swap)
  clear hbk
  go_wp2_with fail
  refine (CH.take_in CHX.out i (h1, h2) HI.out HH2.out).mono ?_
  rintro r w3 ⟨rfl, hX3⟩
  have Y3 := hid (hX3.swap)
  have hbk := (Y3.out.blk 0 rfl).1
  have d3 := cell_of hbk 3
  have dl := lt_of hbk
  simp only [List.getElem?_toArray, List.getElem?_cons_zero, List.getElem?_cons_succ] at d3
  clear hX3 hbk CHX Y1 b0 bl
  go_wp2_with (at_range; refine wpList_rangeO rfl _ rfl keyed Tryd.underlying42 rfl (Y3.out.map 2 rfl).1 ?_)
  intro w4 left cnt hR hleft hs4
  have hY4 := Y3.out.rangeNew 2 rfl hR (Nat.le_refl _) hs4
  have hcols : colS t.cols X = colS t.cols (fun k => if left (.int .i64 (k : Int)) then X k else takeOut (X k) i) := colS_congr (fun k c hk hc => by
    have h1 := hleft (.int .i64 (k : Int)) (keyed.key (keyI k (by omega) (by omega)))
    rw [mapC_nat, hc] at h1
    rw [h1]
    rfl)
  obtain ⟨rr, hrr⟩ : ∃ rr, rr = w3.heap.size := ⟨_, rfl⟩
  have Y4 : Hid (Star w0 w4 (tabB t.p t.hp m kv t.mb :: CH.R t.hp (takeOut H i) 128 :: RangeR Tryd.prog 3 ptrE t.mb rr t.n (mapC t.cols) left cnt :: (colS t.cols (fun k => if left (.int .i64 (k : Int)) then X k else takeOut (X k) i) ++ (Blk e6 (enC h1 h2 (.slice va ln vcp)) 46 :: Row 37 3 (.slice va ln vcp) ln ((ks.map val).flatMap vc) :: natRow kv ks :: Blk e4 (enC 0 0 (.slice none 0 0)) 46 :: L)))) := hid (by rw [← hcols, hrr]; exact hY4)
  rw [← hrr]
  clear hR hs4 hY4 hcols hleft hrr Y3 d3 dl
  go_wp2_with fail
  go_loopw [7] (fun ev wy => ∃ left cnt, ev = .nilIface ∧ Star w0 wy (tabB t.p t.hp m kv t.mb :: CH.R t.hp (takeOut H i) 128 :: RangeR Tryd.prog 3 ptrE t.mb rr t.n (mapC t.cols) left cnt :: (colS t.cols (fun k => if left (.int .i64 (k : Int)) then X k else takeOut (X k) i) ++ (Blk e6 (enC h1 h2 (.slice va ln vcp)) 46 :: Row 37 3 (.slice va ln vcp) ln ((ks.map val).flatMap vc) :: natRow kv ks :: Blk e4 (enC 0 0 (.slice none 0 0)) 46 :: L)))) (fun _ wy => wy.rangeLeft t.mb rr)
  case atStart => exact ⟨left, cnt, rfl, Y4.out⟩
  case round =>
    obtain ⟨left, cnt, rfl, hY⟩ := hrel
    rename World => wz
    have YA := hid hY
    have hR := hY.range 2 rfl
    clear hY Y4
    go_wp2_with (at_next; refine wpList_nextO rfl _ rfl keyed rfl hR ?_ ?_)
    · intro hdone
      have hY6 := YA.out.rangeEnd 2 rfl
      have Y6 : Hid (Star w0 wz (tabL t m kv (takeOut H i) (fun k => takeOut (X k) i) (Blk e6 (enC h1 h2 (.slice va ln vcp)) 46 :: Row 37 3 (.slice va ln vcp) ln ((ks.map val).flatMap vc) :: natRow kv ks :: Blk e4 (enC 0 0 (.slice none 0 0)) 46 :: L))) := hid (by
        have e : (fun k : Nat => if left (.int .i64 (k : Int)) then X k else takeOut (X k) i) = fun k => takeOut (X k) i := by
          funext k
          rw [hdone]
          rfl
        rw [e] at hY6
        exact hY6)
      clear hR hY6 YA hdone
      have hb8 := (Y6.out.blk 13 rfl).1
      have d0 := cell_of hb8 0
      have d1 := cell_of hb8 1
      have d2 := cell_of hb8 2
      have dl := lt_of hb8
      have hb4 := (Y6.out.blk 16 rfl).1
      have f0 := cell_of hb4 0
      have f1 := cell_of hb4 1
      have f2 := cell_of hb4 2
      have ff0 := free_of hb4 0
      have ff1 := free_of hb4 1
      have ff2 := free_of hb4 2
      have fl := lt_of hb4
      simp only [List.getElem?_toArray, List.getElem?_cons_zero, List.getElem?_cons_succ] at d0 d1 d2 f0 f1 f2
      have Y8 := hid (((Y6.out.put 16 rfl 0 (.int .i64 h1)).put 16 rfl 1 (.int .i64 h2)).put 16 rfl 2 (.slice va ln vcp))
      have Y9 := hid (Y8.out.pull 16 rfl)
      clear hb8 hb4 Y6
      go_wp2
      refine bodyPost_ret (v := .tuple #[.agg #[.int .i64 h1, .int .i64 h2, .slice va ln vcp], .nilIface]) (results_cell_tmp Tryd.results11 _ _ e4 _ _ _ _ rfl (Y9.out.blk 0 rfl).1 Tryd.underlying46 rfl (enSize _ _ _) _ rfl) rfl ⟨.slice va ln vcp, rfl, ?_⟩
      have h := Y9.out.drop
      have h2 := ((h.pull 13 rfl).drop).pull 13 rfl
      rw [← HLN.out]
      exact h2
    · intro x v kl w6 cnt' hk hlk hy' hR' hlt hc hen
      obtain ⟨c, hkc, rfl⟩ := hy'
      obtain ⟨k, rfl, hcc⟩ := mapC_some hkc
      have hkm : k ∈ ks := (HT.out k).1 (by rw [hcc]; rfl)
      have hk10 := H10.out k hkm
      have hf := colFirst hk10 hcc (YA.out.rangeSet 2 rfl hR' hc)
      rw [if_pos hlk] at hf
      have CX := hid hf
      have HST := hid (show (fun j : Nat => if strike left (.int .i64 (k : Int)) (.int .i64 (j : Int)) then X j else takeOut (X j) i) = updX (fun k : Nat => if left (.int .i64 (k : Int)) then X k else takeOut (X k) i) k (takeOut (X k) i) from by
        funext j
        by_cases e : j = k
        · subst e
          rw [updX_same, strike_same left (keyed.key hk)]
          rfl
        · rw [updX_other _ _ e, strike_other left (by simp only [ne_eq, Lit.int.injEq, true_and]; omega)])
      have LT := hid hlt
      have RC := hid hR.cnt
      have HVK := hid (HV.out k hkm)
      obtain ⟨vx, hvx⟩ : ∃ vx, vx = val k := ⟨_, rfl⟩
      rw [← hvx] at HVK
      obtain ⟨vk, va', vb⟩ := vx
      clear hR hR' hlt hc hk hkc hkm hlk hf YA hvx
      have hen' : Sem.run Tryd.prog (Instr.entry (.pointer (some ⟨rr, 0, none⟩))) w6 = .ok (.tuple #[x, .pointer (some ⟨c, 0, none⟩)]) w6 := hen
      clear hen
      go_wp2_with fail
      refine (CV.take_in CX.out i ⟨vk, va', vb⟩ HVK.out (HXL.out k)).mono ?_
      rintro r w7 ⟨rfl, hX7⟩
      have Y7 := hid ((colBack hk10 hcc hX7).alloc #[.int .i64 vk, .int .i64 va', .int .i64 vb] 37).drop
      rw [← HST.out] at Y7
      have RC7 := hid (Y7.out.range 2 rfl).cnt
      clear hX7 CX hen'
      go_wp2
      go_roundw
      case rel => exact ⟨_, cnt', rfl, Y7.out⟩
      case measure => rw [RC.out, RC7.out]; exact LT.out
end
end Go.Proofs.YtegcnkcjmebheaaDoor.Tab
