/-
  Package table: Entity and Take where there is no such place.
-/
import Derived.Test.YtegcnkcjmebheaaDoorTabTake
namespace Go.Proofs.YtegcnkcjmebheaaDoor.Tab
open Go Go.RowKit Go.Maps Go.Proofs.YtegcnkcjmebheaaDoor.Mask
section
variable {w0 w : World} {L : List Res} {t : Pl} {m : Nat} {kv : Value} {ks : List Nat} {H : List Hd} {X : Nat → List Vl}
set_option maxRecDepth 100000 in
set_option maxHeartbeats 16000000 in
theorem entity_out (Y : Star w0 w (tabL t m kv H X (natRow kv ks :: L))) (hT : TOk t ks) (h10 : ∀ k ∈ ks, k < 10) (hkl : ks.length ≤ 64) (i : Int) (hi : i < 0 ∨ (H.length : Int) ≤ i) (hH : H.length ≤ 128) (hX : ∀ k, (X k).length = H.length) (u : Addr) (he : w0.cell? ⟨2, 0, none⟩ = some (.iface 143 (.pointer (some u)))) :
    Calls Tryd.prog 12 #[.pointer (some ⟨t.p, 0, none⟩), .int .i64 i] w fun r w' => r = .returned (.tuple #[.agg (enC 0 0 (.slice none 0 0)), .iface 143 (.pointer (some u))]) ∧ Star w0 w' (tabL t m kv H X (natRow kv ks :: L)) := by
  obtain ⟨ka, kc, rfl, -⟩ := own_slice (Y.row 13 rfl).1
  have Y0 := hid (tabIn (Y.alloc #[.int .i64 0, .int .i64 0, .slice none 0 0] 46))
  have HI := hid hi
  have HT := hid hT
  have HXL := hid hX
  have H10 := hid h10
  have HH := hid (show H.length ≤ 1000000 by omega)
  have HE := hid he
  clear Y hT h10 hi hH hX he
  go_enter Tryd.func12, Tryd.ntmps12
  go_wp2_with fail
  refine (handle_out Y0.out i HI.out HH.out _ HE.out).mono ?_
  rintro r w1 ⟨rfl, hY1⟩
  generalize w.heap.size = e4 at *
  have Y1 := hid (((hY1.alloc #[.int .i64 0, .int .i64 0] 35).drop).alloc #[.int .i64 0, .int .i64 0, .slice none 0 0] 46)
  clear hY1 Y0
  go_upto_region 3 with (fail)
  have hsz : (w1.alloc (.cells #[.int .i64 0, .int .i64 0] 35)).heap.size = w1.heap.size + 1 := by simp
  have Y2 := hid (tabIn Y1.out)
  rw [hsz] at Y2
  generalize (w1.alloc (.cells #[.int .i64 0, .int .i64 0] 35)).alloc _ = w3 at *
  obtain ⟨e8, he8⟩ : ∃ e8, e8 = w1.heap.size + 1 := ⟨_, rfl⟩
  rw [← he8] at Y2 ⊢
  clear he8 hsz Y1
  have hbk := (Y2.out.blk 0 rfl).1
  have b2 := cell_of hbk 2
  have bl := lt_of hbk
  simp only [List.getElem?_toArray, List.getElem?_cons_zero, List.getElem?_cons_succ] at b2
  clear hbk
  go_wp2_with fail
  go_loopw [26] (fun iv wr => iv = .int .i64 ((0 : Nat) : Int) ∧ Star w0 wr (tabL t m (.slice ka ks.length kc) H X (Blk e8 (enC 0 0 (.slice none 0 0)) 46 :: Blk e4 (enC 0 0 (.slice none 0 0)) 46 :: natRow (.slice ka ks.length kc) ks :: L))) (fun iv _ => ks.length - (intOf iv).toNat)
  case atStart => exact ⟨rfl, Y2.out⟩
  case round =>
    obtain ⟨rfl, hY⟩ := hrel
    rename World => wz
    have YA := hid hY
    have hbk := (hY.blk 0 rfl).1
    have c3 := cell_of hbk 3
    have cl := lt_of hbk
    simp only [List.getElem?_toArray, List.getElem?_cons_zero, List.getElem?_cons_succ] at c3
    clear hY hbk Y2 b2 bl
    by_cases hjn : 0 < ks.length
    · have hrow := (YA.out.row 15 rfl).1
      obtain ⟨g, gk, hg⟩ := own_shape hrow (by omega)
      cases hg
      obtain ⟨k, hk⟩ : ∃ k, ks[0]? = some k := ⟨_, List.getElem?_eq_getElem hjn⟩
      have hc := hrow.cellAt 0 (by omega)
      rw [show (nI ks)[0]? = some (.int .i64 (k : Int)) by simp [nI, hk]] at hc
      have gl := (hrow.lt g rfl).2
      have hkm := List.mem_of_getElem? hk
      have hk10 := H10.out k hkm
      obtain ⟨c, hcc⟩ := Option.isSome_iff_exists.1 ((HT.out k).2 hkm)
      have KY := hid (keyI k (by omega) (by omega))
      have HM := hid (show mapC t.cols (.int .i64 (k : Int)) = some c by rw [mapC_nat, hcc])
      have M := hid (YA.out.map 2 rfl).1
      have CX := hid (colFirst hk10 hcc YA.out)
      have HI2 := hid (show i < 0 ∨ ((X k).length : Int) ≤ i by rw [HXL.out k]; exact HI.out)
      have HX2 := hid (show (X k).length ≤ 1000000 by rw [HXL.out k]; exact HH.out)
      have HL1 := hid (show ((0 : Nat) : Int) < (ks.length : Int) by omega)
      clear hrow hk hkm
      go_wp2_with (first
        | (at_lookup; refine wpList_lookO rfl _ _ rfl keyed Tryd.underlying42 (.pointer none) zeroC rfl M.out (.int .i64 k) (.int .i64 k) rfl KY.out (.pointer (some ⟨c, 0, none⟩)) (by rw [HM.out]; rfl) ?_)
        | (go_at_call 42; refine (CV.get_out CX.out i HI2.out HX2.out _ HE.out).mono ?_; rintro r w5 ⟨rfl, hs5⟩; have Y5 := hid (YA.out.go hs5); clear hs5 c3 cl hc gl; have Y6 := hid (Y5.out.alloc #[.int .i64 0, .int .i64 0, .int .i64 0] 37).drop; have hb4 := (Y6.out.blk 14 rfl).1; have f0 := cell_of hb4 0; have f1 := cell_of hb4 1; have f2 := cell_of hb4 2; have ff0 := free_of hb4 0; have ff1 := free_of hb4 1; have ff2 := free_of hb4 2; have fl := lt_of hb4; simp only [List.getElem?_toArray, List.getElem?_cons_zero, List.getElem?_cons_succ] at f0 f1 f2; have Y8 := hid (((Y6.out.put 14 rfl 0 (.int .i64 0)).put 14 rfl 1 (.int .i64 0)).put 14 rfl 2 (.slice none 0 0)); have Y9 := hid (Y8.out.pull 14 rfl); clear hb4 Y5 Y6))
      refine bodyPost_ret (v := .tuple #[.agg #[.int .i64 0, .int .i64 0, .slice none 0 0], .iface 143 (.pointer (some u))]) (results_cell_tmp Tryd.results12 _ _ e4 _ _ _ _ rfl (Y9.out.blk 0 rfl).1 Tryd.underlying46 rfl (enSize _ _ _) _ rfl) rfl ⟨rfl, ?_⟩
      have h := Y9.out.drop
      exact (h.pull 13 rfl).drop
    · have hb8 := (YA.out.blk 13 rfl).1
      have d0 := cell_of hb8 0
      have d1 := cell_of hb8 1
      have d2 := cell_of hb8 2
      have dl := lt_of hb8
      have hb4 := (YA.out.blk 14 rfl).1
      have f0 := cell_of hb4 0
      have f1 := cell_of hb4 1
      have f2 := cell_of hb4 2
      have ff0 := free_of hb4 0
      have ff1 := free_of hb4 1
      have ff2 := free_of hb4 2
      have fl := lt_of hb4
      simp only [List.getElem?_toArray, List.getElem?_cons_zero, List.getElem?_cons_succ] at d0 d1 d2 f0 f1 f2
      have Y8 := hid (((YA.out.put 14 rfl 0 (.int .i64 0)).put 14 rfl 1 (.int .i64 0)).put 14 rfl 2 (.slice none 0 0))
      have Y9 := hid (Y8.out.pull 14 rfl)
      have HL0 := hid (show ks.length = 0 by omega)
      obtain ⟨kl, hkl2⟩ : ∃ kl, kl = ks.length := ⟨_, rfl⟩
      have hk0 : kl = 0 := by omega
      subst hk0
      rw [← hkl2]
      clear hb8 hb4 c3 cl YA hkl2 hjn hkl
      go_wp2
      refine bodyPost_ret (v := .tuple #[.agg #[.int .i64 0, .int .i64 0, .slice none 0 0], .iface 143 (.pointer (some u))]) (results_cell_tmp Tryd.results12 _ _ e4 _ _ _ _ rfl (Y9.out.blk 0 rfl).1 Tryd.underlying46 rfl (enSize _ _ _) _ rfl) rfl ⟨rfl, ?_⟩
      have h := Y9.out.drop
      exact (h.pull 13 rfl).drop
set_option maxRecDepth 100000 in
set_option maxHeartbeats 16000000 in
theorem take_out (Y : Star w0 w (tabL t m kv H X (natRow kv ks :: L))) (hT : TOk t ks) (h10 : ∀ k ∈ ks, k < 10) (hkl : ks.length ≤ 64) (i : Int) (hi : i < 0 ∨ (H.length : Int) ≤ i) (hH : H.length ≤ 128) (hX : ∀ k, (X k).length = H.length) (u : Addr) (he : w0.cell? ⟨2, 0, none⟩ = some (.iface 143 (.pointer (some u)))) :
    Calls Tryd.prog 11 #[.pointer (some ⟨t.p, 0, none⟩), .int .i64 i] w fun r w' => r = .returned (.tuple #[.agg (enC 0 0 (.slice none 0 0)), .iface 143 (.pointer (some u))]) ∧ Star w0 w' (tabL t m kv H X (natRow kv ks :: L)) := by
  have Y0 := hid (tabSwap (tabIn (Y.alloc #[.int .i64 0, .int .i64 0, .slice none 0 0] 46)))
  have HI := hid hi
  have HT := hid hT
  have HXL := hid hX
  have H10 := hid h10
  have HH := hid hH
  have HKL := hid hkl
  have HE := hid he
  clear Y hT h10 hi hH hX he hkl
  go_enter Tryd.func11, Tryd.ntmps11
  go_wp2_with fail
  refine (entity_out Y0.out HT.out H10.out HKL.out i HI.out HH.out HXL.out u HE.out).mono ?_
  rintro r w1 ⟨rfl, hY1⟩
  generalize w.heap.size = e4 at *
  have Y1 := hid ((tabSwap hY1).pull 13 rfl |>.alloc #[.int .i64 0, .int .i64 0, .slice none 0 0] 46).drop
  have hb4 := (Y1.out.blk 0 rfl).1
  have f0 := cell_of hb4 0
  have f1 := cell_of hb4 1
  have f2 := cell_of hb4 2
  have ff0 := free_of hb4 0
  have ff1 := free_of hb4 1
  have ff2 := free_of hb4 2
  have fl := lt_of hb4
  simp only [List.getElem?_toArray, List.getElem?_cons_zero, List.getElem?_cons_succ] at f0 f1 f2
  have Y9 := hid (((Y1.out.put 0 rfl 0 (.int .i64 0)).put 0 rfl 1 (.int .i64 0)).put 0 rfl 2 (.slice none 0 0))
  dsimp only [enC] at *
  clear hb4 Y0 hY1
  go_wp2
  refine bodyPost_ret (v := .tuple #[.agg #[.int .i64 0, .int .i64 0, .slice none 0 0], .iface 143 (.pointer (some u))]) (results_cell_tmp Tryd.results11 _ _ e4 _ _ _ _ rfl (Y9.out.blk 0 rfl).1 Tryd.underlying46 rfl (enSize _ _ _) _ rfl) rfl ⟨rfl, ?_⟩
  exact Y9.out.drop
end
end Go.Proofs.YtegcnkcjmebheaaDoor.Tab
