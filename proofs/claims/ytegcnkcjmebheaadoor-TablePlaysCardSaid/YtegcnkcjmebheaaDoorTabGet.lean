/-
  Package table: in, Get, Set.
-/
import Derived.Test.YtegcnkcjmebheaaDoorTabRow
namespace Go.Proofs.YtegcnkcjmebheaaDoor.Tab
open Go Go.RowKit Go.Maps Go.Proofs.YtegcnkcjmebheaaDoor.Mask
theorem vlSize (a b c : Int) : (Tryd.prog.info? 37).map (·.size) = some (#[Value.int .i64 a, Value.int .i64 b, Value.int .i64 c] : Array Value).size := by kernel_rfl
section
variable {w0 w : World} {L : List Res} {p : Nat} {m : Int} {xs : List Vl}
set_option maxRecDepth 100000 in
set_option maxHeartbeats 4000000 in
theorem CV.set_in (X : Star w0 w (CV.R p xs m :: L)) (i : Nat) (x y : Vl) (hi : xs[i]? = some x) (hx : xs.length ≤ 1000000) :
    Calls Tryd.prog 48 #[.pointer (some ⟨p, 0, none⟩), .int .i64 i, vV y] w fun r w' => r = .returned .nilIface ∧ Star w0 w' (CV.R p (xs.set i y) m :: L) := by
  obtain ⟨y1, y2, y3⟩ := y
  obtain ⟨g, cp, n, hn, hcp, Y, hcl, hg, hf, -, -⟩ := CV.spot X i x hi
  have hin : i < n := by rw [hn]; exact (List.getElem?_eq_some_iff.1 hi).1
  have hn6 : n ≤ 1000000 := by omega
  have YA := hid ((Y.alloc #[.int .i64 y1, .int .i64 y2, .int .i64 y3] 37).pull 2 rfl |>.pull 2 rfl)
  obtain ⟨h0, -, -, hl⟩ := CV.facts YA.out
  obtain ⟨x1, x2, x3⟩ := x
  have c0 := YA.out.blk 2 rfl
  have hrow := (YA.out.row 1 rfl).1
  have d0 : (w.alloc (.cells #[.int .i64 y1, .int .i64 y2, .int .i64 y3] 37)).cell? ⟨g, i * 3, none⟩ = some (.int .i64 x1) := ((Chg.refl w).alloc _ : Same _ _).keep hcl.1
  have d1 : (w.alloc (.cells #[.int .i64 y1, .int .i64 y2, .int .i64 y3] 37)).cell? ⟨g, i * 3 + 1, none⟩ = some (.int .i64 x2) := ((Chg.refl w).alloc _ : Same _ _).keep hcl.2.1
  have d2 : (w.alloc (.cells #[.int .i64 y1, .int .i64 y2, .int .i64 y3] 37)).cell? ⟨g, i * 3 + 2, none⟩ = some (.int .i64 x3) := ((Chg.refl w).alloc _ : Same _ _).keep hcl.2.2
  have ff := hid (fun j => hrow.frozenAt j)
  have f0 := ff.out (i * 3)
  have f1 := ff.out (i * 3 + 1)
  have f2 := ff.out (i * 3 + 2)
  have gl := (hrow.lt g rfl).2
  have H0 := hid h0
  have HL := hid hl
  have HS := hid (vset xs i ⟨x1, x2, x3⟩ ⟨y1, y2, y3⟩ hi)
  have HN := hid hn
  clear X Y hi hcl hg hf c0 hrow hn h0 hl ff hx
  go_enter Tryd.func48, Tryd.ntmps48
  go_wp2_with fail
  refine (CV.at_in H0.out HL.out i hin hn6).mono ?_
  rintro r w' ⟨rfl, rfl⟩
  have hbe := (YA.out.blk 2 rfl).1
  have e0 := cell_of hbe 0
  have e1 := cell_of hbe 1
  have e2 := cell_of hbe 2
  have el := lt_of hbe
  simp only [List.getElem?_toArray, List.getElem?_cons_zero, List.getElem?_cons_succ] at e0 e1 e2
  have Y8 := hid (((YA.out.store 1 rfl (i * 3) (.int .i64 y1)).store 1 rfl (i * 3 + 1) (.int .i64 y2)).store 1 rfl (i * 3 + 2) (.int .i64 y3))
  generalize w.alloc _ = w1 at *
  generalize w.heap.size = q at *
  clear hbe YA
  go_wp2
  go_ret
  refine ⟨rfl, ?_⟩
  have h : Star w0 _ (CV.B p (.slice (some ⟨g, 0, none⟩) n cp) m :: Row 37 3 (.slice (some ⟨g, 0, none⟩) n cp) n ((((xs.flatMap vc).set (i * 3) (.int .i64 y1)).set (i * 3 + 1) (.int .i64 y2)).set (i * 3 + 2) (.int .i64 y3)) :: Blk q #[.int .i64 y1, .int .i64 y2, .int .i64 y3] 37 :: L) := Y8.out
  have h2 := (h.pull 2 rfl).drop
  rw [HS.out] at h2
  have hn2 : n = (xs.set i ⟨y1, y2, y3⟩).length := by rw [List.length_set]; exact HN.out
  have h3 := h2.set 1 rfl (R' := Row 37 3 (.slice (some ⟨g, 0, none⟩) n cp) (xs.set i ⟨y1, y2, y3⟩).length ((xs.set i ⟨y1, y2, y3⟩).flatMap vc)) (fun F h => by rw [← hn2]; exact h)
  exact colR.close h3
end
section
variable {w0 w : World} {L : List Res} {t : Pl} {m : Nat} {kv : Value} {ks : List Nat} {H : List Hd} {X : Nat → List Vl}
set_option maxRecDepth 100000 in
set_option maxHeartbeats 4000000 in
theorem in_out (Y : Star w0 w (tabL t m kv H X L)) (i k : Int) (hi : i < 0 ∨ (H.length : Int) ≤ i) (e : Value) (he : w0.cell? ⟨2, 0, none⟩ = some e) :
    Calls Tryd.prog 46 #[.pointer (some ⟨t.p, 0, none⟩), .int .i64 i, .int .i64 k] w fun r w' => r = .returned (.tuple #[.pointer none, e]) ∧ Star w0 w' (tabL t m kv H X L) := by
  have hbk := (Y.blk 0 rfl).1
  have b0 := cell_of hbk 0
  have bl := lt_of hbk
  simp only [List.getElem?_toArray, List.getElem?_cons_zero] at b0
  have hE := Y.same.keep he
  have hEl := World.block_lt_of_cell? _ _ hE
  have HY := hid Y
  have CX := hid (Y.pull 1 rfl)
  obtain ⟨hl, hhl⟩ : ∃ hl, hl = H.length := ⟨_, rfl⟩
  rw [← hhl] at hi
  have HL := hid hhl
  clear Y hbk he hhl
  by_cases h0 : i < 0
  · go_enter Tryd.func46, Tryd.ntmps46
    go_wp2_with fail
    go_quiet (fail)
    go_wp2
    go_ret2
    exact ⟨rfl, HY.out.go ((Chg.refl _).drewN _)⟩
  · have h1 : (hl : Int) ≤ i := by omega
    go_enter Tryd.func46, Tryd.ntmps46
    go_wp2_with fail
    refine (CH.len_any CX.out).mono ?_
    rintro r w' ⟨rfl, rfl⟩
    rw [← HL.out]
    go_wp2_with fail
    go_quiet (fail)
    go_wp2
    go_ret2
    exact ⟨rfl, HY.out.go ((Chg.refl _).drewN _)⟩
set_option maxRecDepth 100000 in
set_option maxHeartbeats 4000000 in
theorem in_kind (Y : Star w0 w (tabL t m kv H X L)) (i : Nat) (k : Int) (hi : i < H.length) (h1 : -9223372036854775808 ≤ k) (h2 : k ≤ 9223372036854775807) (hk : mapC t.cols (.int .i64 k) = none) (e : Value) (he : w0.cell? ⟨0, 0, none⟩ = some e) :
    Calls Tryd.prog 46 #[.pointer (some ⟨t.p, 0, none⟩), .int .i64 i, .int .i64 k] w fun r w' => r = .returned (.tuple #[.pointer none, e]) ∧ Star w0 w' (tabL t m kv H X L) := by
  have hbk := (Y.blk 0 rfl).1
  have b0 := cell_of hbk 0
  have b3 := cell_of hbk 3
  have bl := lt_of hbk
  simp only [List.getElem?_toArray, List.getElem?_cons_zero, List.getElem?_cons_succ] at b0 b3
  have hE := Y.same.keep he
  have hEl := World.block_lt_of_cell? _ _ hE
  have HY := hid Y
  have CX := hid (Y.pull 1 rfl)
  have M := hid (Y.map 2 rfl).1
  have KY := hid (keyI k h1 h2)
  have HM := hid hk
  obtain ⟨hl, hhl⟩ : ∃ hl, hl = H.length := ⟨_, rfl⟩
  rw [← hhl] at hi
  have HL := hid hhl
  clear Y hbk he hhl hk
  go_enter Tryd.func46, Tryd.ntmps46
  go_wp2_with fail
  refine (CH.len_any CX.out).mono ?_
  rintro r w' ⟨rfl, rfl⟩
  rw [← HL.out]
  go_wp2_with (at_lookup; refine wpList_lookOk rfl _ _ rfl keyed Tryd.underlying42 (.pointer none) zeroC rfl M.out (.int .i64 k) (.int .i64 k) rfl KY.out (.pointer none) false (by rw [HM.out]; rfl) (by rw [HM.out]; rfl) ?_)
  go_quiet (fail)
  go_wp2
  go_ret2
  exact ⟨rfl, HY.out.go ((Chg.refl _).drewN _)⟩
set_option maxRecDepth 100000 in
set_option maxHeartbeats 4000000 in
theorem in_ok (Y : Star w0 w (tabL t m kv H X L)) (i k : Nat) (c : Nat) (hi : i < H.length) (h10 : k < 10) (hk : t.cols k = some c) :
    Calls Tryd.prog 46 #[.pointer (some ⟨t.p, 0, none⟩), .int .i64 i, .int .i64 k] w fun r w' => r = .returned (.tuple #[.pointer (some ⟨c, 0, none⟩), .nilIface]) ∧ Star w0 w' (tabL t m kv H X L) := by
  have hbk := (Y.blk 0 rfl).1
  have b0 := cell_of hbk 0
  have b3 := cell_of hbk 3
  have bl := lt_of hbk
  simp only [List.getElem?_toArray, List.getElem?_cons_zero, List.getElem?_cons_succ] at b0 b3
  have HY := hid Y
  have CX := hid (Y.pull 1 rfl)
  have M := hid (Y.map 2 rfl).1
  have KY := hid (keyI k (by omega) (by omega))
  have HM := hid (show mapC t.cols (.int .i64 (k : Int)) = some c by rw [mapC_nat, hk])
  obtain ⟨hl, hhl⟩ : ∃ hl, hl = H.length := ⟨_, rfl⟩
  rw [← hhl] at hi
  have HL := hid hhl
  clear Y hbk hhl hk
  go_enter Tryd.func46, Tryd.ntmps46
  go_wp2_with fail
  refine (CH.len_any CX.out).mono ?_
  rintro r w' ⟨rfl, rfl⟩
  rw [← HL.out]
  go_wp2_with (at_lookup; refine wpList_lookOk rfl _ _ rfl keyed Tryd.underlying42 (.pointer none) zeroC rfl M.out (.int .i64 k) (.int .i64 k) rfl KY.out (.pointer (some ⟨c, 0, none⟩)) true (by rw [HM.out]; rfl) (by rw [HM.out]; rfl) ?_)
  go_ret2
  exact ⟨rfl, HY.out⟩
set_option maxRecDepth 100000 in
set_option maxHeartbeats 4000000 in
theorem set_out (Y : Star w0 w (tabL t m kv H X L)) (i : Int) (hi : i < 0 ∨ (H.length : Int) ≤ i) (v : Vl)  (u : Addr) (he : w0.cell? ⟨2, 0, none⟩ = some (.iface 143 (.pointer (some u)))) :
    Calls Tryd.prog 17 #[.pointer (some ⟨t.p, 0, none⟩), .int .i64 i, vV v] w fun r w' => r = .returned (.iface 143 (.pointer (some u))) ∧ Star w0 w' (tabL t m kv H X L) := by
  obtain ⟨vk, va, vb⟩ := v
  have Y0 := hid (tabIn (Y.alloc #[.int .i64 vk, .int .i64 va, .int .i64 vb] 37))
  have HE := hid he
  have HI := hid hi
  clear Y he hi
  go_enter Tryd.func17, Tryd.ntmps17
  go_wp2_with fail
  refine (in_out Y0.out i vk HI.out _ HE.out).mono ?_
  rintro r w1 ⟨rfl, hY1⟩
  have Y1 := hid (tabOut hY1).drop
  clear hY1 Y0
  go_wp2
  go_ret
  exact ⟨rfl, Y1.out⟩
set_option maxRecDepth 100000 in
set_option maxHeartbeats 4000000 in
theorem set_kind (Y : Star w0 w (tabL t m kv H X L)) (i : Nat) (hi : i < H.length) (v : Vl) (h1 : -9223372036854775808 ≤ v.k) (h2 : v.k ≤ 9223372036854775807) (hk : mapC t.cols (.int .i64 v.k) = none) (u : Addr) (he : w0.cell? ⟨0, 0, none⟩ = some (.iface 143 (.pointer (some u)))) :
    Calls Tryd.prog 17 #[.pointer (some ⟨t.p, 0, none⟩), .int .i64 i, vV v] w fun r w' => r = .returned (.iface 143 (.pointer (some u))) ∧ Star w0 w' (tabL t m kv H X L) := by
  obtain ⟨vk, va, vb⟩ := v
  have Y0 := hid (tabIn (Y.alloc #[.int .i64 vk, .int .i64 va, .int .i64 vb] 37))
  have HE := hid he
  have HI := hid hi
  have H1 := hid h1
  have H2 := hid h2
  have HK := hid hk
  clear Y he hi h1 h2 hk
  go_enter Tryd.func17, Tryd.ntmps17
  go_wp2_with fail
  refine (in_kind Y0.out i vk HI.out H1.out H2.out HK.out _ HE.out).mono ?_
  rintro r w1 ⟨rfl, hY1⟩
  have Y1 := hid (tabOut hY1).drop
  clear hY1 Y0
  go_wp2
  go_ret
  exact ⟨rfl, Y1.out⟩
set_option maxRecDepth 100000 in
set_option maxHeartbeats 4000000 in
theorem set_bad (Y : Star w0 w (tabL t m kv H X L)) (i k c : Nat) (hi : i < H.length) (h10 : k < 10) (hk : t.cols k = some c) (v : Vl) (hvk : v.k = (k : Int)) (hc : chkN v ≠ 0) (ad : Nat → Addr) (hE : Err.ErrsT w0 ad) :
    Calls Tryd.prog 17 #[.pointer (some ⟨t.p, 0, none⟩), .int .i64 i, vV v] w fun r w' => r = .returned (Err.errV ad (chkN v)) ∧ Star w0 w' (tabL t m kv H X L) := by
  obtain ⟨vk, va, vb⟩ := v
  dsimp only at hvk
  subst hvk
  have Y0 := hid (tabIn (Y.alloc #[.int .i64 k, .int .i64 va, .int .i64 vb] 37))
  have HE := hid hE
  have HI := hid hi
  have HK := hid hk
  obtain ⟨q, hq⟩ : ∃ q, chkN ⟨(k : Int), va, vb⟩ = q + 1 := ⟨chkN ⟨(k : Int), va, vb⟩ - 1, by omega⟩
  have HQ := hid hq
  clear Y hE hi hk hc hq
  go_enter Tryd.func17, Tryd.ntmps17
  go_wp2_with fail
  refine (in_ok Y0.out i k c HI.out h10 HK.out).mono ?_
  rintro r w1 ⟨rfl, hY1⟩
  have Y1 := hid (tabOut hY1)
  have hb := (Y1.out.blk 0 rfl).1
  have b0 := cell_of hb 0
  have b1 := cell_of hb 1
  have b2 := cell_of hb 2
  have bl := lt_of hb
  simp only [List.getElem?_toArray, List.getElem?_cons_zero, List.getElem?_cons_succ] at b0 b1 b2
  generalize w.heap.size = e at *
  clear hY1 Y0 hb
  go_wp2_with fail
  refine (check_any ⟨(k : Int), va, vb⟩ _ ad (HE.out.same Y1.out.same)).mono ?_
  rintro r w2 ⟨rfl, hs2⟩
  have Y2 := hid (Y1.out.go hs2).drop
  rw [HQ.out, show Err.errV ad (q + 1) = .iface 143 (.pointer (some (ad q))) from rfl]
  clear hs2 Y1 b0 b1 b2 bl
  go_wp2
  go_ret
  exact ⟨by rw [HQ.out]; rfl, Y2.out⟩
set_option maxRecDepth 100000 in
set_option maxHeartbeats 4000000 in
theorem set_ok (Y : Star w0 w (tabL t m kv H X L)) (i k c : Nat) (hi : i < H.length) (h10 : k < 10) (hk : t.cols k = some c) (v : Vl) (hvk : v.k = (k : Int)) (hc : chkN v = 0) (ad : Nat → Addr) (hE : Err.ErrsT w0 ad) (hlen : i < (X k).length) (hX : (X k).length ≤ 1000000) :
    Calls Tryd.prog 17 #[.pointer (some ⟨t.p, 0, none⟩), .int .i64 i, vV v] w fun r w' => r = .returned .nilIface ∧ Star w0 w' (tabL t m kv H (updX X k ((X k).set i v)) L) := by
  obtain ⟨vk, va, vb⟩ := v
  dsimp only at hvk
  subst hvk
  have Y0 := hid (tabIn (Y.alloc #[.int .i64 k, .int .i64 va, .int .i64 vb] 37))
  have HE := hid hE
  have HI := hid hi
  have HK := hid hk
  have HC := hid hc
  have HX := hid hX
  obtain ⟨x0, hx0⟩ : ∃ x0, (X k)[i]? = some x0 := ⟨_, List.getElem?_eq_getElem hlen⟩
  have HX0 := hid hx0
  clear Y hE hi hk hc hX hx0 hlen
  go_enter Tryd.func17, Tryd.ntmps17
  go_wp2_with fail
  refine (in_ok Y0.out i k c HI.out h10 HK.out).mono ?_
  rintro r w1 ⟨rfl, hY1⟩
  have Y1 := hid (tabOut hY1)
  have hb := (Y1.out.blk 0 rfl).1
  have b0 := cell_of hb 0
  have b1 := cell_of hb 1
  have b2 := cell_of hb 2
  have bl := lt_of hb
  simp only [List.getElem?_toArray, List.getElem?_cons_zero, List.getElem?_cons_succ] at b0 b1 b2
  generalize w.heap.size = e at *
  clear hY1 Y0 hb
  go_wp2_with fail
  refine (check_any ⟨(k : Int), va, vb⟩ _ ad (HE.out.same Y1.out.same)).mono ?_
  rintro r w2 ⟨rfl, hs2⟩
  have Y2 := hid (Y1.out.go hs2)
  rw [HC.out, show Err.errV ad 0 = .nilIface from rfl]
  have hb := (Y2.out.blk 0 rfl).1
  have c0 := cell_of hb 0
  have c1 := cell_of hb 1
  have c2 := cell_of hb 2
  have cl := lt_of hb
  simp only [List.getElem?_toArray, List.getElem?_cons_zero, List.getElem?_cons_succ] at c0 c1 c2
  have CX := hid (colFirst h10 HK.out (tabIn Y2.out))
  clear hs2 Y1 b0 b1 b2 bl hb
  go_wp2_with fail
  refine (CV.set_in CX.out i x0 ⟨(k : Int), va, vb⟩ HX0.out HX.out).mono ?_
  rintro r w3 ⟨rfl, hX3⟩
  have Y3 := hid (tabOut (colBack h10 HK.out hX3)).drop
  clear hX3 CX Y2
  go_wp2
  go_ret
  exact ⟨rfl, Y3.out⟩
set_option maxRecDepth 100000 in
set_option maxHeartbeats 4000000 in
theorem get_out (Y : Star w0 w (tabL t m kv H X L)) (i k : Int) (hi : i < 0 ∨ (H.length : Int) ≤ i) (u : Addr) (he : w0.cell? ⟨2, 0, none⟩ = some (.iface 143 (.pointer (some u)))) :
    Calls Tryd.prog 25 #[.pointer (some ⟨t.p, 0, none⟩), .int .i64 i, .int .i64 k] w fun r w' => r = .returned (.tuple #[.agg #[.int .i64 0, .int .i64 0, .int .i64 0], .iface 143 (.pointer (some u))]) ∧ Star w0 w' (tabL t m kv H X L) := by
  have Y0 := hid (tabIn (Y.alloc #[.int .i64 0, .int .i64 0, .int .i64 0] 37))
  have HE := hid he
  have HI := hid hi
  clear Y he hi
  go_enter Tryd.func25, Tryd.ntmps25
  go_wp2_with fail
  generalize w.heap.size = q at *
  refine (in_out Y0.out i k HI.out _ HE.out).mono ?_
  rintro r w1 ⟨rfl, hY1⟩
  have Y1 := hid (tabOut hY1)
  clear hY1 Y0
  have hb := (Y1.out.blk 0 rfl).1
  have b0 := cell_of hb 0
  have b1 := cell_of hb 1
  have b2 := cell_of hb 2
  have f0 := free_of hb 0
  have f1 := free_of hb 1
  have f2 := free_of hb 2
  have bl := lt_of hb
  simp only [List.getElem?_toArray, List.getElem?_cons_zero, List.getElem?_cons_succ] at b0 b1 b2
  have Y8 := hid (((Y1.out.put 0 rfl 0 (.int .i64 0)).put 0 rfl 1 (.int .i64 0)).put 0 rfl 2 (.int .i64 0))
  clear hb
  go_wp2
  refine bodyPost_ret (v := .tuple #[.agg #[.int .i64 0, .int .i64 0, .int .i64 0], .iface 143 (.pointer (some u))]) (results_cell_tmp Tryd.results25 _ _ q _ _ _ _ rfl (Y8.out.blk 0 rfl).1 Tryd.underlying37 rfl (vlSize _ _ _) _ rfl) rfl ⟨rfl, Y8.out.drop⟩
set_option maxRecDepth 100000 in
set_option maxHeartbeats 4000000 in
theorem get_kind (Y : Star w0 w (tabL t m kv H X L)) (i : Nat) (k : Int) (hi : i < H.length) (h1 : -9223372036854775808 ≤ k) (h2 : k ≤ 9223372036854775807) (hk : mapC t.cols (.int .i64 k) = none) (u : Addr) (he : w0.cell? ⟨0, 0, none⟩ = some (.iface 143 (.pointer (some u)))) :
    Calls Tryd.prog 25 #[.pointer (some ⟨t.p, 0, none⟩), .int .i64 i, .int .i64 k] w fun r w' => r = .returned (.tuple #[.agg #[.int .i64 0, .int .i64 0, .int .i64 0], .iface 143 (.pointer (some u))]) ∧ Star w0 w' (tabL t m kv H X L) := by
  have Y0 := hid (tabIn (Y.alloc #[.int .i64 0, .int .i64 0, .int .i64 0] 37))
  have HE := hid he
  have HI := hid hi
  have H1 := hid h1
  have H2 := hid h2
  have HK := hid hk
  clear Y he hi h1 h2 hk
  go_enter Tryd.func25, Tryd.ntmps25
  go_wp2_with fail
  generalize w.heap.size = q at *
  refine (in_kind Y0.out i k HI.out H1.out H2.out HK.out _ HE.out).mono ?_
  rintro r w1 ⟨rfl, hY1⟩
  have Y1 := hid (tabOut hY1)
  clear hY1 Y0
  have hb := (Y1.out.blk 0 rfl).1
  have b0 := cell_of hb 0
  have b1 := cell_of hb 1
  have b2 := cell_of hb 2
  have f0 := free_of hb 0
  have f1 := free_of hb 1
  have f2 := free_of hb 2
  have bl := lt_of hb
  simp only [List.getElem?_toArray, List.getElem?_cons_zero, List.getElem?_cons_succ] at b0 b1 b2
  have Y8 := hid (((Y1.out.put 0 rfl 0 (.int .i64 0)).put 0 rfl 1 (.int .i64 0)).put 0 rfl 2 (.int .i64 0))
  clear hb
  go_wp2
  refine bodyPost_ret (v := .tuple #[.agg #[.int .i64 0, .int .i64 0, .int .i64 0], .iface 143 (.pointer (some u))]) (results_cell_tmp Tryd.results25 _ _ q _ _ _ _ rfl (Y8.out.blk 0 rfl).1 Tryd.underlying37 rfl (vlSize _ _ _) _ rfl) rfl ⟨rfl, Y8.out.drop⟩
set_option maxRecDepth 100000 in
set_option maxHeartbeats 4000000 in
theorem get_ok (Y : Star w0 w (tabL t m kv H X L)) (i k c : Nat) (hi : i < H.length) (h10 : k < 10) (hk : t.cols k = some c) (x : Vl) (hx : (X k)[i]? = some x) (hX : (X k).length ≤ 1000000) :
    Calls Tryd.prog 25 #[.pointer (some ⟨t.p, 0, none⟩), .int .i64 i, .int .i64 k] w fun r w' => r = .returned (.tuple #[.agg #[.int .i64 x.k, .int .i64 x.a, .int .i64 x.b], .nilIface]) ∧ Star w0 w' (tabL t m kv H X L) := by
  obtain ⟨xk, xa, xb⟩ := x
  have Y0 := hid (tabIn (Y.alloc #[.int .i64 0, .int .i64 0, .int .i64 0] 37))
  have HI := hid hi
  have HK := hid hk
  have HX := hid hX
  have HX0 := hid hx
  clear Y hi hk hX hx
  go_enter Tryd.func25, Tryd.ntmps25
  go_wp2_with fail
  generalize w.heap.size = q at *
  refine (in_ok Y0.out i k c HI.out h10 HK.out).mono ?_
  rintro r w1 ⟨rfl, hY1⟩
  have Y1 := hid (tabOut hY1)
  clear hY1 Y0
  have CX := hid (colFirst h10 HK.out (tabIn Y1.out))
  go_wp2_with fail
  refine (CV.get_in CX.out i ⟨xk, xa, xb⟩ HX0.out HX.out).mono ?_
  rintro r w2 ⟨rfl, hs2⟩
  have Y1 := hid (Y1.out.go hs2)
  clear hs2 CX
  have hb := (Y1.out.blk 0 rfl).1
  have b0 := cell_of hb 0
  have b1 := cell_of hb 1
  have b2 := cell_of hb 2
  have f0 := free_of hb 0
  have f1 := free_of hb 1
  have f2 := free_of hb 2
  have bl := lt_of hb
  simp only [List.getElem?_toArray, List.getElem?_cons_zero, List.getElem?_cons_succ] at b0 b1 b2
  have Y8 := hid (((Y1.out.put 0 rfl 0 (.int .i64 xk)).put 0 rfl 1 (.int .i64 xa)).put 0 rfl 2 (.int .i64 xb))
  clear hb
  go_wp2
  refine bodyPost_ret (v := .tuple #[.agg #[.int .i64 xk, .int .i64 xa, .int .i64 xb], .nilIface]) (results_cell_tmp Tryd.results25 _ _ q _ _ _ _ rfl (Y8.out.blk 0 rfl).1 Tryd.underlying37 rfl (vlSize _ _ _) _ rfl) rfl ⟨rfl, Y8.out.drop⟩
end
end Go.Proofs.YtegcnkcjmebheaaDoor.Tab
