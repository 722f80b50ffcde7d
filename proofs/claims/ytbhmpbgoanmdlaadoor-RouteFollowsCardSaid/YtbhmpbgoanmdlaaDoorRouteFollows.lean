/-
  RouteFollows: the walk. 
-/
import Derived.Test.YtbhmpbgoanmdlaaDoorAlive17
import Derived.Test.YtbhmpbgoanmdlaaDoorMade17
import Derived.Test.YtbhmpbgoanmdlaaDoorInAsk
import Derived.Test.YtbhmpbgoanmdlaaDoorRefRoute
import Derived.Test.YtbhmpbgoanmdlaaDoorRouteRows
import Derived.Test.YtbhmpbgoanmdlaaDoorIntsM
namespace Go.Proofs.YtbhmpbgoanmdlaaDoor.RouteFollows
open Go Go.RowKit Go.Proofs.YtbhmpbgoanmdlaaDoor.Err Go.Proofs.YtbhmpbgoanmdlaaDoor.Steps Go.Proofs.YtbhmpbgoanmdlaaDoor.Route

set_option maxRecDepth 100000 in
set_option maxHeartbeats 8000000 in
theorem walk (g : Grd) (bv : Value) (bl : List Int) (s t : Int) (xs : List Int) (v2 : Value) (w : World) (hxs : Ints w v2 xs) (hxl : xs.length ≤ 17592186043904) (hxr : ∀ x ∈ xs, -9223372036854775808 ≤ x ∧ x ≤ 9223372036854775807) (hr : Ints w bv bl) (hb : bl.length ≤ 9223372036854775807) (ad : Nat → Addr) (hE : Errs w ad) :
    Calls Tryd.prog 6 #[askV g bv s t, v2] w fun r w' => r = .returned (.bool true) ∧ Same w w' := by
  obtain ⟨a2, cb2, rfl⟩ := hxs.slice
  have HX := hid hxs
  have HXR := hid hxr
  obtain ⟨lx, hlx⟩ : ∃ lx, lx = xs.length := ⟨_, rfl⟩
  have HLX := hid hlx
  rw [← hlx] at hxl
  simp only [← hlx] at HX ⊢
  clear hxs hxr hlx
  obtain ⟨a, cb, rfl⟩ := hr.slice
  have HE := hid hE
  have HR := hid hr
  obtain ⟨l, hl⟩ : ∃ l, l = bl.length := ⟨_, rfl⟩
  by_cases hc : g.right = true ∧ g.W * g.H ≤ 256 ∧ bl.length ≤ 300
  · have MY := hid (fun (w : World) hr hE => made_yes (w := w) g bl (.slice a bl.length cb) hr hc.2.2 hc.1 hc.2.1 ad hE)
    rw [← hl] at MY HR ⊢
    obtain ⟨W, H, S, X, Y⟩ := g
    unfold askV
    unfold Grd.v at MY
    simp only at MY ⊢
    have Z := hid ((Star.new w).alloc #[.int .i64 W, .int .i64 H, .int .i64 S, .int .i64 X, .int .i64 Y, .slice a l cb, .int .i64 s, .int .i64 t] 26)
    have HL := hid hl
    clear hc hr hE hl hb
    go_enter Tryd.func6, Tryd.ntmps6
    go_wp2_with fail
    generalize w.alloc _ = w1 at *
    generalize w.heap.size = q at *
    refine (alive_any ad (HE.out.same Z.out.same).three).mono ?_
    rintro r w2 ⟨rfl, hs⟩
    have Z2 := hid (Z.out.go hs)
    have hbk := (Z2.out.blk 0 rfl).1
    have hql := lt_of hbk
    have c0 := cell_of hbk 0
    have c1 := cell_of hbk 1
    have c2 := cell_of hbk 2
    have c3 := cell_of hbk 3
    have c4 := cell_of hbk 4
    have c5 := cell_of hbk 5
    have c6 := cell_of hbk 6
    have c7 := cell_of hbk 7
    simp only [List.getElem?_toArray, List.getElem?_cons_zero, List.getElem?_cons_succ] at c0 c1 c2 c3 c4 c5 c6 c7
    clear hbk hs Z
    go_wp2_with fail
    refine (MY.out _ (HR.out.same Z2.out.same) (HE.out.same Z2.out.same).three).mono ?_
    rintro r w3 ⟨p, m, G, hok, hmax, rfl, hX3⟩
    have X3 : Hid (Star w w3 [gndR 49 m G, gndR 72 p G, Blk q #[.int .i64 W, .int .i64 H, .int .i64 S, .int .i64 X, .int .i64 Y, .slice a l cb, .int .i64 s, .int .i64 t] 26]) := hid (Z2.out.lift hX3)
    have OK := hid hok
    clear c0 c1 c2 c3 c4 c5 c6 c7 hql hX3 Z2 MY hok
    have hbk := (X3.out.blk 2 rfl).1
    have hql := lt_of hbk
    have c6 := cell_of hbk 6
    have c7 := cell_of hbk 7
    simp only [List.getElem?_toArray, List.getElem?_cons_zero, List.getElem?_cons_succ] at c6 c7
    clear hbk
    obtain ⟨pg, pc, hG, -⟩ := gnd_at X3.out 1 rfl
    have HG := hid hG
    clear hG
    obtain ⟨mg, mc, hM, -⟩ := gnd_at X3.out 0 rfl
    have HM := hid hM
    have m2 := hM.c2
    have ml := hM.pl
    clear hM
    have hmax2 := OK.out.max
    by_cases hbig : 1000 < lx
    · go_wp2
      go_ret
      exact ⟨rfl, X3.out.same⟩
    have h1000 : lx ≤ 1000 := by omega
    by_cases hlen : lx = G.fs.length
    · by_cases hsr : 0 ≤ s ∧ s < G.fs.length
      · obtain ⟨s, rfl⟩ := Int.eq_ofNat_of_zero_le hsr.1
        have hs : s < G.fs.length := by omega
        have HS := hid hsr
        have hle : ((lx : Int) != (G.fs.length : Int)) = false := by rw [hlen]; simp
        have hhs : G.has (s : Int) = true := by unfold Gr.has; exact decide_eq_true (by omega)
        have HMX : Hid (∀ t, cAt xs t ≤ 9223372036854775807) := hid (fun t => by
          by_cases ht : t < xs.length
          · have h1 := cAt_get ht
            exact (HXR.out _ (List.mem_of_getElem? h1)).2
          · unfold cAt; rw [List.getD_eq_getElem?_getD, List.getElem?_eq_none (by omega)]; simp)
        have HLN := hid hlen
        have hxn : xs.length = G.fs.length := by rw [← HLX.out]; exact HLN.out
        have HXN := hid hxn
        clear hsr hlen hbig hxn
        by_cases hfr : G.free s = true ∧ 0 ≤ cAt xs s
        · obtain ⟨F, hF⟩ := Gr.Fol.total (G := G) (c := xs) (s := s)
          have HR0 := hid (show if G.free s = true ∧ 0 ≤ cAt xs s then Gr.Fol G xs s F else F = none by rw [if_pos hfr]; exact hF)
          have HF := hid hF
          have HFR := hid hfr
          have HWL := hid (fun V (e : F = some V) => Gr.Fol.len OK.out (e ▸ hF) hfr.1)
          clear hF hfr
          cases F with
          | none =>
            go_wp2
            go_region_held3 (fun w' => w'.cell? ⟨q, 6, none⟩ = some (.int .i64 s)) (go_keep) (first
              | (go_at_call 18; refine (Num.ints_any _ xs _ (HX.out.same (X3.out.same.drew)) (by rw [← HLX.out]; omega)).mono ?_; rintro r w4 ⟨gi, ci, rfl, hcp, hs4⟩; have CP := hid hcp; have X4 := hid ((X3.out.go ((Chg.refl _).drew)).go hs4); have S4 := hid (hs4.after' ((Chg.refl w3).drew)); have d6 := S4.out.keep c6; have dl := Nat.lt_of_lt_of_le hql S4.out.size; rw [← HLX.out]; clear hcp hs4)
              | (go_at_call 17; refine (follow_ok (HG.out.same S4.out) xs _ (by rw [← HLX.out]; exact CP.out.reads2 HLX.out) HXN.out s HFR.out.1 HFR.out.2 HMX.out _ (HE.out.same X4.out.same).c8 none HF.out).mono ?_; rintro r w5 ⟨rfl, hs5⟩; have X5 := hid (X4.out.go hs5); have e6 := hs5.keep d6; have el := Nat.lt_of_lt_of_le dl hs5.size; have S5 := hid (hs5.after' S4.out); clear hs5))
            all_goals
              have M5 := hid (HM.out.same S5.out)
              have n2 := S5.out.keep m2
              have nl := Nat.lt_of_lt_of_le ml S5.out.size
              clear X4 S4 d6 dl CP
              go_wp2_with fail
              refine (rhas_any M5.out _).mono ?_
              rintro r w' ⟨rfl, rfl⟩
              rw [hhs]
              go_wp2_with fail
              refine (rroute_any M5.out xs _ (HX.out.same X5.out.same) HXN.out s hs HMX.out none (by rw [if_pos HFR.out]; exact HF.out)).mono ?_
              rintro r w6 ⟨rfl, hs6⟩
              have X6 := hid (X5.out.go hs6)
              clear hs6 X5 S5 M5 e6 el n2 nl
              go_wp2_with fail
              refine (num ad 9 (by omega) _ (HE.out.same X6.out.same)).mono ?_
              rintro r w8 ⟨rfl, hs8⟩
              have X8 := hid (X6.out.go hs8)
              clear hs8 X6
              go_wp2
              go_ret
              exact ⟨rfl, X8.out.same⟩
          | some V =>
            go_wp2
            go_region_held3 (fun w' => w'.cell? ⟨q, 6, none⟩ = some (.int .i64 s)) (go_keep) (first
              | (go_at_call 18; refine (Num.ints_any _ xs _ (HX.out.same (X3.out.same.drew)) (by rw [← HLX.out]; omega)).mono ?_; rintro r w4 ⟨gi, ci, rfl, hcp, hs4⟩; have CP := hid hcp; have X4 := hid ((X3.out.go ((Chg.refl _).drew)).go hs4); have S4 := hid (hs4.after' ((Chg.refl w3).drew)); have d6 := S4.out.keep c6; have dl := Nat.lt_of_lt_of_le hql S4.out.size; rw [← HLX.out]; clear hcp hs4)
              | (go_at_call 17; refine (follow_ok (HG.out.same S4.out) xs _ (by rw [← HLX.out]; exact CP.out.reads2 HLX.out) HXN.out s HFR.out.1 HFR.out.2 HMX.out _ (HE.out.same X4.out.same).c8 (some V) HF.out).mono ?_; rintro r w5 ⟨v5, rfl, hX5⟩; obtain ⟨vb, vd, rfl, -⟩ := own_slice (hX5.row 0 rfl).1; have X5 := hid (X4.out.lift hX5); have e6 := hX5.same.keep d6; have el := Nat.lt_of_lt_of_le dl hX5.same.size; have S5 := hid (hX5.same.after' S4.out); clear hX5))
            all_goals
              have M5 := hid (HM.out.same S5.out)
              have n2 := S5.out.keep m2
              have nl := Nat.lt_of_lt_of_le ml S5.out.size
              have hnod := HWL.out V rfl
              clear X4 S4 d6 dl CP
              go_wp2_with fail
              refine (rhas_any M5.out _).mono ?_
              rintro r w' ⟨rfl, rfl⟩
              rw [hhs]
              go_wp2_with fail
              refine (rroute_any M5.out xs _ (HX.out.same X5.out.same) HXN.out s hs HMX.out (some V) HR0.out).mono ?_
              rintro r w6 ⟨v6, rfl, hX6⟩
              have X6 := hid (X5.out.lift hX6)
              obtain ⟨vf, vg, rfl, -⟩ := own_slice (hX6.row 0 rfl).1
              clear hX6 X5 S5 M5 e6 el n2 nl
              go_wp2_with fail
              refine (Num.sameInts _ _ (V.map Int.ofNat) (V.map Int.ofNat) _ (rowInts (X6.out.row 1 rfl).1) (rowInts (X6.out.row 0 rfl).1) (by rw [List.length_map]; omega) (by rw [List.length_map]; omega)).mono ?_
              rintro r w7 ⟨rfl, hs7⟩
              rw [decide_eq_true rfl]
              have X7 := hid (X6.out.go hs7)
              clear hs7 X6
              go_wp2
              go_ret
              exact ⟨rfl, X7.out.same⟩
        · have HNF := hid (show G.free s = false ∨ cAt xs s < 0 by
            cases h : G.free s with
            | false => exact .inl rfl
            | true => right; by_cases h0 : 0 ≤ cAt xs s; exact absurd ⟨h, h0⟩ hfr; omega)
          have HNR := hid hfr
          clear hfr
          go_wp2
          go_region_held3 (fun w' => w'.cell? ⟨q, 6, none⟩ = some (.int .i64 s)) (go_keep) (first
            | (go_at_call 18; refine (Num.ints_any _ xs _ (HX.out.same (X3.out.same.drew)) (by rw [← HLX.out]; omega)).mono ?_; rintro r w4 ⟨gi, ci, rfl, hcp, hs4⟩; have CP := hid hcp; have X4 := hid ((X3.out.go ((Chg.refl _).drew)).go hs4); have S4 := hid (hs4.after' ((Chg.refl w3).drew)); have d6 := S4.out.keep c6; have dl := Nat.lt_of_lt_of_le hql S4.out.size; rw [← HLX.out]; clear hcp hs4)
            | (go_at_call 17; refine (follow_no (HG.out.same S4.out) xs _ (by rw [← HLX.out]; exact CP.out.reads2 HLX.out) HXN.out s hs HNF.out _ (HE.out.same X4.out.same).c8).mono ?_; rintro r w5 ⟨rfl, hs5⟩; have X5 := hid (X4.out.go hs5); have e6 := hs5.keep d6; have el := Nat.lt_of_lt_of_le dl hs5.size; have S5 := hid (hs5.after' S4.out); clear hs5))
          all_goals
            have M5 := hid (HM.out.same S5.out)
            have n2 := S5.out.keep m2
            have nl := Nat.lt_of_lt_of_le ml S5.out.size
            clear X4 S4 d6 dl CP
            go_wp2_with fail
            refine (rhas_any M5.out _).mono ?_
            rintro r w' ⟨rfl, rfl⟩
            rw [hhs]
            go_wp2_with fail
            refine (rroute_any M5.out xs _ (HX.out.same X5.out.same) HXN.out s hs HMX.out none (by rw [if_neg HNR.out])).mono ?_
            rintro r w6 ⟨rfl, hs6⟩
            have X6 := hid (X5.out.go hs6)
            clear hs6 X5 S5 M5 e6 el n2 nl
            go_wp2_with fail
            refine (num ad 9 (by omega) _ (HE.out.same X6.out.same)).mono ?_
            rintro r w8 ⟨rfl, hs8⟩
            have X8 := hid (X6.out.go hs8)
            clear hs8 X6
            go_wp2
            go_ret
            exact ⟨rfl, X8.out.same⟩
      · have hle : ((lx : Int) != (G.fs.length : Int)) = false := by rw [hlen]; simp
        have hhs : G.has s = false := by unfold Gr.has; exact decide_eq_false hsr
        have HSR := hid hsr
        have HLN := hid hlen
        clear hsr hlen hbig
        go_wp2
        go_region_held3 (fun w' => w'.cell? ⟨q, 6, none⟩ = some (.int .i64 s)) (go_keep) (first
          | (go_at_call 18; refine (Num.ints_any _ xs _ (HX.out.same (X3.out.same.drew)) (by rw [← HLX.out]; omega)).mono ?_; rintro r w4 ⟨gi, ci, rfl, hcp, hs4⟩; have CP := hid hcp; have X4 := hid ((X3.out.go ((Chg.refl _).drew)).go hs4); have S4 := hid (hs4.after' ((Chg.refl w3).drew)); have d6 := S4.out.keep c6; have dl := Nat.lt_of_lt_of_le hql S4.out.size; rw [← HLX.out]; clear hcp hs4)
          | (go_at_call 17; refine (follow_range (HG.out.same S4.out) _ _ _ s HLN.out HSR.out _ (HE.out.same X4.out.same).c0).mono ?_; rintro r w5 ⟨rfl, hs5⟩; have X5 := hid (X4.out.go hs5); have e6 := hs5.keep d6; have el := Nat.lt_of_lt_of_le dl hs5.size; have S5 := hid (hs5.after' S4.out); clear hs5))
        all_goals
          have M5 := hid (HM.out.same S5.out)
          have n2 := S5.out.keep m2
          have nl := Nat.lt_of_lt_of_le ml S5.out.size
          clear X4 S4 d6 dl CP
          go_wp2_with fail
          refine (rhas_any M5.out _).mono ?_
          rintro r w' ⟨rfl, rfl⟩
          rw [hhs]
          clear S5 M5 e6 el n2 nl
          go_wp2_with fail
          refine (num ad 1 (by omega) _ (HE.out.same X5.out.same)).mono ?_
          rintro r w8 ⟨rfl, hs8⟩
          have X8 := hid (X5.out.go hs8)
          clear hs8 X5
          go_wp2
          go_ret
          exact ⟨rfl, X8.out.same⟩
    · have hle : ((lx : Int) != (G.fs.length : Int)) = true := by rw [bne_iff_ne]; omega
      have HLN := hid hlen
      clear hlen hbig
      go_wp2
      go_region_held3 (fun w' => w'.cell? ⟨q, 6, none⟩ = some (.int .i64 s)) (go_keep) (first
        | (go_at_call 18; refine (Num.ints_any _ xs _ (HX.out.same (X3.out.same.drew)) (by rw [← HLX.out]; omega)).mono ?_; rintro r w4 ⟨gi, ci, rfl, hcp, hs4⟩; have CP := hid hcp; have X4 := hid ((X3.out.go ((Chg.refl _).drew)).go hs4); have S4 := hid (hs4.after' ((Chg.refl w3).drew)); have d6 := S4.out.keep c6; have dl := Nat.lt_of_lt_of_le hql S4.out.size; rw [← HLX.out]; clear hcp hs4)
        | (go_at_call 17; refine (follow_form (HG.out.same S4.out) _ _ _ s HLN.out _ (HE.out.same X4.out.same).c6).mono ?_; rintro r w5 ⟨rfl, hs5⟩; have X5 := hid (X4.out.go hs5); have e6 := hs5.keep d6; have el := Nat.lt_of_lt_of_le dl hs5.size; have S5 := hid (hs5.after' S4.out); clear hs5))
      all_goals
        have n2 := S5.out.keep m2
        have nl := Nat.lt_of_lt_of_le ml S5.out.size
        clear X4 S4 d6 dl CP
        go_wp2_with fail
        refine (num ad 7 (by omega) _ (HE.out.same X5.out.same)).mono ?_
        rintro r w8 ⟨rfl, hs8⟩
        have X8 := hid (X5.out.go hs8)
        clear hs8 X5
        go_wp2
        go_ret
        exact ⟨rfl, X8.out.same⟩
  · have MN := hid (fun (w : World) hr => made_no (w := w) g bl (.slice a bl.length cb) hr hb hc)
    rw [← hl] at MN HR ⊢
    obtain ⟨W, H, S, X, Y⟩ := g
    unfold askV
    unfold Grd.v at MN
    simp only at MN ⊢
    have Z := hid ((Star.new w).alloc #[.int .i64 W, .int .i64 H, .int .i64 S, .int .i64 X, .int .i64 Y, .slice a l cb, .int .i64 s, .int .i64 t] 26)
    clear hc hr hE hl hb
    go_enter Tryd.func6, Tryd.ntmps6
    go_wp2_with fail
    generalize w.alloc _ = w1 at *
    generalize w.heap.size = q at *
    refine (alive_any ad (HE.out.same Z.out.same).three).mono ?_
    rintro r w2 ⟨rfl, hs⟩
    have Z2 := hid (Z.out.go hs)
    have hbk := (Z2.out.blk 0 rfl).1
    have hql := lt_of hbk
    have c0 := cell_of hbk 0
    have c1 := cell_of hbk 1
    have c2 := cell_of hbk 2
    have c3 := cell_of hbk 3
    have c4 := cell_of hbk 4
    have c5 := cell_of hbk 5
    have c6 := cell_of hbk 6
    have c7 := cell_of hbk 7
    simp only [List.getElem?_toArray, List.getElem?_cons_zero, List.getElem?_cons_succ] at c0 c1 c2 c3 c4 c5 c6 c7
    clear hbk hs Z
    go_wp2_with fail
    refine (MN.out _ (HR.out.same Z2.out.same)).mono ?_
    rintro r w3 ⟨rfl, hs⟩
    have Z3 := hid (Z2.out.go hs)
    clear hs Z2 MN
    go_wp2
    go_ret
    exact ⟨rfl, Z3.out.same⟩
end Go.Proofs.YtbhmpbgoanmdlaaDoor.RouteFollows
