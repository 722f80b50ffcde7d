/-
  Package table: Entity.
-/
import Derived.Test.YtegcnkcjmebheaaDoorTabRow
namespace Go.Proofs.YtegcnkcjmebheaaDoor.Tab
open Go Go.RowKit Go.Maps Go.Proofs.YtegcnkcjmebheaaDoor.Mask
section
variable {w0 w : World} {L : List Res} {t : Pl} {m : Nat} {kv : Value} {ks : List Nat} {H : List Hd} {X : Nat → List Vl}
abbrev enC (a b : Int) (v : Value) : Array Value := #[.int .i64 a, .int .i64 b, v]
set_option maxRecDepth 100000 in
set_option maxHeartbeats 16000000 in
theorem entity_in (Y : Star w0 w (tabL t m kv H X (natRow kv ks :: L))) (hT : TOk t ks) (h10 : ∀ k ∈ ks, k < 10) (hkl : ks.length ≤ 64) (i : Nat) (h : Hd) (hi : H[i]? = some h) (hH : H.length ≤ 128) (val : Nat → Vl) (hv : ∀ k ∈ ks, (X k)[i]? = some (val k)) (hX : ∀ k, (X k).length ≤ 1000000) :
    Calls Tryd.prog 12 #[.pointer (some ⟨t.p, 0, none⟩), .int .i64 i] w fun r w' => ∃ v, r = .returned (.tuple #[.agg (enC h.1 h.2 v), .nilIface]) ∧ Star w0 w' (Row 37 3 v (ks.map val).length ((ks.map val).flatMap vc) :: tabL t m kv H X (natRow kv ks :: L)) := by
  obtain ⟨h1, h2⟩ := h
  obtain ⟨ka, kc, rfl, -⟩ := own_slice (Y.row 13 rfl).1
  obtain ⟨i0, hi0, hz0, hz1, hz2⟩ := info_parts CV.info
  have Y0 := hid (tabIn (Y.alloc #[.int .i64 0, .int .i64 0, .slice none 0 0] 46))
  have HI := hid hi
  have HT := hid hT
  have HV := hid hv
  have HXL := hid hX
  have H10 := hid h10
  have HH := hid (show H.length ≤ 1000000 by omega)
  clear Y hT h10 hi hH hv hX
  go_enter Tryd.func12, Tryd.ntmps12
  go_wp2_with fail
  refine (handle_in Y0.out i (h1, h2) HI.out HH.out).mono ?_
  rintro r w1 ⟨rfl, hY1⟩
  generalize w.heap.size = e4 at *
  have Y1 := hid (((hY1.alloc #[.int .i64 h1, .int .i64 h2] 35).drop).alloc #[.int .i64 h1, .int .i64 h2, .slice none 0 0] 46)
  clear hY1 Y0
  go_upto_region 3 with (fail)
  have hsz : (w1.alloc (.cells #[.int .i64 h1, .int .i64 h2] 35)).heap.size = w1.heap.size + 1 := by simp
  have Y2 := hid (tabIn ((tabIn Y1.out).nilRow 37 3))
  rw [hsz] at Y2
  generalize (w1.alloc (.cells #[.int .i64 h1, .int .i64 h2] 35)).alloc _ = w3 at *
  obtain ⟨e8, he8⟩ : ∃ e8, e8 = w1.heap.size + 1 := ⟨_, rfl⟩
  rw [← he8] at Y2 ⊢
  clear he8 hsz Y1
  have hbk := (Y2.out.blk 0 rfl).1
  have b2 := cell_of hbk 2
  have bl := lt_of hbk
  simp only [List.getElem?_toArray, List.getElem?_cons_zero, List.getElem?_cons_succ] at b2
  clear hbk
  go_wp2_with fail
  go_loopw [26] (fun iv wr => ∃ (j : Nat) (sl : Value), j ≤ ks.length ∧ iv = .int .i64 j ∧ Star w0 wr (tabL t m (.slice ka ks.length kc) H X (Row 37 3 sl j (((ks.take j).map val).flatMap vc) :: Blk e8 (enC h1 h2 sl) 46 :: Blk e4 (enC 0 0 (.slice none 0 0)) 46 :: natRow (.slice ka ks.length kc) ks :: L))) (fun iv _ => ks.length - (intOf iv).toNat)
  case atStart => exact ⟨0, .slice none 0 0, by omega, rfl, Y2.out⟩
  case round =>
    obtain ⟨j, sl, hj, rfl, hY⟩ := hrel
    rename World => wz
    obtain ⟨sa, sc, rfl, -⟩ := own_slice (hY.row 13 rfl).1
    have YA := hid hY
    have hbk := (hY.blk 0 rfl).1
    have c3 := cell_of hbk 3
    have cl := lt_of hbk
    simp only [List.getElem?_toArray, List.getElem?_cons_zero, List.getElem?_cons_succ] at c3
    clear hY hbk Y2 b2 bl
    by_cases hjn : j < ks.length
    · have hrow := (YA.out.row 16 rfl).1
      obtain ⟨g, gk, hg⟩ := own_shape hrow (by omega)
      cases hg
      obtain ⟨k, hk⟩ : ∃ k, ks[j]? = some k := ⟨_, List.getElem?_eq_getElem hjn⟩
      have hc := hrow.cellAt j (by omega)
      rw [show (nI ks)[j]? = some (.int .i64 (k : Int)) by simp [nI, hk]] at hc
      have gl := (hrow.lt g rfl).2
      have hkm := List.mem_of_getElem? hk
      have hk10 := H10.out k hkm
      obtain ⟨c, hcc⟩ := Option.isSome_iff_exists.1 ((HT.out k).2 hkm)
      have KY := hid (keyI k (by omega) (by omega))
      have HM := hid (show mapC t.cols (.int .i64 (k : Int)) = some c by rw [mapC_nat, hcc])
      have M := hid (YA.out.map 2 rfl).1
      have CX := hid (colFirst hk10 hcc YA.out)
      obtain ⟨x, hx⟩ : ∃ x, x = val k := ⟨_, rfl⟩
      have HVX := hid (hx ▸ HV.out k hkm)
      have HTK := hid (show (ks.take (j + 1)).map val = (ks.take j).map val ++ [x] from by
        obtain ⟨h1, h2⟩ := List.getElem?_eq_some_iff.1 hk
        rw [List.take_succ_eq_append_getElem h1, h2, hx, List.map_append]
        rfl)
      obtain ⟨vk, va, vb⟩ := x
      clear hrow hk hkm hx
      go_wp2_with (first
        | (at_lookup; refine wpList_lookO rfl _ _ rfl keyed Tryd.underlying42 (.pointer none) zeroC rfl M.out (.int .i64 k) (.int .i64 k) rfl KY.out (.pointer (some ⟨c, 0, none⟩)) (by rw [HM.out]; rfl) ?_)
        | (go_at_call 42; refine (CV.get_in CX.out i ⟨vk, va, vb⟩ HVX.out (HXL.out k)).mono ?_; rintro r w5 ⟨rfl, hs5⟩; have Y5 := hid (YA.out.go hs5); clear hs5 c3 cl hc gl; have hb8 := (Y5.out.blk 14 rfl).1; have d2 := cell_of hb8 2; have df := free_of hb8 2; have dl := lt_of hb8; simp only [List.getElem?_toArray, List.getElem?_cons_zero, List.getElem?_cons_succ] at d2; have h6 := (Y5.out.alloc #[.int .i64 vk, .int .i64 va, .int .i64 vb] 37).alloc #[.int .i64 vk, .int .i64 va, .int .i64 vb] 37; rw [show (w5.alloc (.cells #[.int .i64 vk, .int .i64 va, .int .i64 vb] 37)).heap.size = w5.heap.size + 1 from by simp] at h6; have R6 := hid (reads_blk (h6.blk 0 rfl).1 1 1 3 rfl); have Y6 := hid h6; clear hb8 h6)
        | (at_builtin; refine wpList_app rfl (.tmp 46) (.tmp 48) 38 rfl 37 i0 (.agg #[.int .i64 0, .int .i64 0, .int .i64 0]) 3 24 Tryd.underlying38 hi0 hz0 hz1 hz2 rfl (by decide) _ j (((ks.take j).map val).flatMap vc) rfl (Y6.out.row 15 rfl).1 (some ⟨w5.heap.size + 1, 0, none⟩) 1 1 [.int .i64 vk, .int .i64 va, .int .i64 vb] rfl R6.out (vc_one ⟨vk, va, vb⟩) (by omega) (by omega) ?_; intro a' c' w' ho hg hn; have Y7 := hid ((Y6.out.grown 15 rfl ho hg hn).drop.drop); clear ho hg hn Y6 R6 d2 df dl; have hb8 := (Y7.out.blk 14 rfl).1; have d2 := cell_of hb8 2; have df := free_of hb8 2; have dl := lt_of hb8; simp only [List.getElem?_toArray, List.getElem?_cons_zero, List.getElem?_cons_succ] at d2; have Y8 := hid (Y7.out.put 14 rfl 2 (.slice a' (j + 1) c')); clear hb8))
      go_roundw
      case rel =>
        refine ⟨j + 1, .slice a' (j + 1) c', by omega, by go_num, ?_⟩
        rw [HTK.out, List.flatMap_append]
        exact Y8.out
      case measure => simp [intOf]; omega
    · obtain rfl : j = ks.length := by omega
      have hb8 := (YA.out.blk 14 rfl).1
      have d0 := cell_of hb8 0
      have d1 := cell_of hb8 1
      have d2 := cell_of hb8 2
      have dl := lt_of hb8
      have hb4 := (YA.out.blk 15 rfl).1
      have f0 := cell_of hb4 0
      have f1 := cell_of hb4 1
      have f2 := cell_of hb4 2
      have ff0 := free_of hb4 0
      have ff1 := free_of hb4 1
      have ff2 := free_of hb4 2
      have fl := lt_of hb4
      simp only [List.getElem?_toArray, List.getElem?_cons_zero, List.getElem?_cons_succ] at d0 d1 d2 f0 f1 f2
      have Y8 := hid (((YA.out.put 15 rfl 0 (.int .i64 h1)).put 15 rfl 1 (.int .i64 h2)).put 15 rfl 2 (.slice sa ks.length sc))
      have Y9 := hid (Y8.out.pull 15 rfl)
      clear hb8 hb4 c3 cl YA
      go_wp2
      refine bodyPost_ret (v := .tuple #[.agg #[.int .i64 h1, .int .i64 h2, .slice sa ks.length sc], .nilIface]) (results_cell_tmp Tryd.results12 _ _ e4 _ _ _ _ rfl (Y9.out.blk 0 rfl).1 Tryd.underlying46 rfl (enSize _ _ _) _ rfl) rfl ⟨.slice sa ks.length sc, rfl, ?_⟩
      have h := Y9.out.drop
      have h2 := ((h.pull 14 rfl).drop).pull 13 rfl
      rw [List.take_length] at h2
      rw [List.length_map]
      exact h2
end
end Go.Proofs.YtegcnkcjmebheaaDoor.Tab
