/-
  RouteFinds: the walk. 
-/
import Derived.Test.YtbhmpbgoanmdlaaDoorAlive17
import Derived.Test.YtbhmpbgoanmdlaaDoorMade17
import Derived.Test.YtbhmpbgoanmdlaaDoorInAsk
import Derived.Test.YtbhmpbgoanmdlaaDoorRefFind
import Derived.Test.YtbhmpbgoanmdlaaDoorRouteRows
import Derived.Test.YtbhmpbgoanmdlaaDoorNum
namespace Go.Proofs.YtbhmpbgoanmdlaaDoor.RouteFinds
open Go Go.RowKit Go.Proofs.YtbhmpbgoanmdlaaDoor.Err Go.Proofs.YtbhmpbgoanmdlaaDoor.Steps Go.Proofs.YtbhmpbgoanmdlaaDoor.Route

set_option maxRecDepth 100000 in
set_option maxHeartbeats 8000000 in
theorem walk (g : Grd) (bv : Value) (bl : List Int) (s t : Int) (w : World) (hr : Ints w bv bl) (hb : bl.length ≤ 9223372036854775807) (ad : Nat → Addr) (hE : Errs w ad) :
    Calls Tryd.prog 7 #[askV g bv s t] w fun r w' => r = .returned (.bool true) ∧ Same w w' := by
  obtain ⟨a, cb, rfl⟩ := hr.slice
  have HE := hid hE
  have HR := hid hr
  obtain ⟨l, hl⟩ : ∃ l, l = bl.length := ⟨_, rfl⟩
  by_cases hc : g.right = true ∧ g.W * g.H ≤ 256 ∧ bl.length ≤ 300
  · have MY := hid (fun (w : World) hr hE => made_yes (w := w) g bl (.slice a bl.length cb) hr hc.2.2 hc.1 hc.2.1 ad hE)
    rw [← hl] at MY HR ⊢
    obtain ⟨W, H, S, X, Y⟩ := g
    unfold askV
    unfold Grd.v at MY
    simp only at MY ⊢
    have Z := hid ((Star.new w).alloc #[.int .i64 W, .int .i64 H, .int .i64 S, .int .i64 X, .int .i64 Y, .slice a l cb, .int .i64 s, .int .i64 t] 26)
    have HL := hid hl
    clear hc hr hE hl hb
    go_enter Tryd.func7, Tryd.ntmps7
    go_wp2_with fail
    generalize w.alloc _ = w1 at *
    generalize w.heap.size = q at *
    refine (alive_any ad (HE.out.same Z.out.same).three).mono ?_
    rintro r w2 ⟨rfl, hs⟩
    have Z2 := hid (Z.out.go hs)
    have hbk := (Z2.out.blk 0 rfl).1
    have hql := lt_of hbk
    have c0 := cell_of hbk 0
    have c1 := cell_of hbk 1
    have c2 := cell_of hbk 2
    have c3 := cell_of hbk 3
    have c4 := cell_of hbk 4
    have c5 := cell_of hbk 5
    have c6 := cell_of hbk 6
    have c7 := cell_of hbk 7
    simp only [List.getElem?_toArray, List.getElem?_cons_zero, List.getElem?_cons_succ] at c0 c1 c2 c3 c4 c5 c6 c7
    clear hbk hs Z
    go_wp2_with fail
    refine (MY.out _ (HR.out.same Z2.out.same) (HE.out.same Z2.out.same).three).mono ?_
    rintro r w3 ⟨p, m, G, hok, hmax, rfl, hX3⟩
    have X3 : Hid (Star w w3 [gndR 49 m G, gndR 72 p G, Blk q #[.int .i64 W, .int .i64 H, .int .i64 S, .int .i64 X, .int .i64 Y, .slice a l cb, .int .i64 s, .int .i64 t] 26]) := hid (Z2.out.lift hX3)
    have OK := hid hok
    clear c0 c1 c2 c3 c4 c5 c6 c7 hql hX3 Z2 MY hok
    have hbk := (X3.out.blk 2 rfl).1
    have hql := lt_of hbk
    have c6 := cell_of hbk 6
    have c7 := cell_of hbk 7
    simp only [List.getElem?_toArray, List.getElem?_cons_zero, List.getElem?_cons_succ] at c6 c7
    clear hbk
    obtain ⟨pg, pc, hG, -⟩ := gnd_at X3.out 1 rfl
    have HG := hid hG
    clear hG
    obtain ⟨mg, mc, hM, -⟩ := gnd_at X3.out 0 rfl
    have HM := hid hM
    clear hM
    by_cases hin : (0 ≤ s ∧ s < G.fs.length) ∧ (0 ≤ t ∧ t < G.fs.length)
    · obtain ⟨⟨s0, s1⟩, t0, t1⟩ := hin
      obtain ⟨s, rfl⟩ := Int.eq_ofNat_of_zero_le s0
      obtain ⟨t, rfl⟩ := Int.eq_ofNat_of_zero_le t0
      have hs : s < G.fs.length := by omega
      have ht : t < G.fs.length := by omega
      obtain ⟨c, hc⟩ := Least.exists G [t]
      have LC := hid hc
      clear s0 s1 t0 t1 hc
      rcases LC.out.low s with h0 | h0
      · go_wp2_with fail
        refine (find_path HG.out s t hs ht LC.out h0 _ _ (HE.out.same X3.out.same).c8).mono ?_
        rintro r w4 ⟨rfl, hs4⟩
        have X4 := hid (X3.out.go hs4)
        have d6 := hs4.keep c6
        have d7 := hs4.keep c7
        have dl := Nat.lt_of_lt_of_le hql hs4.size
        have H4 := hid (HG.out.same hs4)
        have M4 := hid (HM.out.same hs4)
        clear c6 c7 hql hs4 HG HM X3
        go_wp2_with fail
        refine (cost_path H4.out s t hs ht LC.out h0 _ _ (HE.out.same X4.out.same).c8).mono ?_
        rintro r w5 ⟨rfl, hs5⟩
        have X5 := hid (X4.out.go hs5)
        have k6 := hs5.keep d6
        have k7 := hs5.keep d7
        have kl := Nat.lt_of_lt_of_le dl hs5.size
        have M5 := hid (M4.out.same hs5)
        clear d6 d7 dl hs5 H4 M4 X4
        go_wp2_with fail
        refine (rfind_any M5.out s t hs ht LC.out none (by rw [if_neg (by omega)])).mono ?_
        rintro r w6 ⟨rfl, hs6⟩
        have X6 := hid (X5.out.go hs6)
        clear k6 k7 kl hs6 M5 X5 h0
        go_wp2_with fail
        refine (Num.sameInts _ _ [] [] _ (readsNil _) (readsNil _) (by simp) (by simp)).mono ?_
        rintro r w7 ⟨rfl, hs7⟩
        have X7 := hid (X6.out.go hs7)
        clear hs7 X6
        go_wp2_with fail
        refine (num ad 9 (by omega) _ (HE.out.same X7.out.same)).mono ?_
        rintro r w8 ⟨rfl, hs8⟩
        have X8 := hid (X7.out.go hs8)
        clear hs8 X7
        go_wp2_with fail
        refine (num ad 9 (by omega) _ (HE.out.same X8.out.same)).mono ?_
        rintro r w9 ⟨rfl, hs9⟩
        have X9 := hid (X8.out.go hs9)
        clear hs9 X8
        go_wp2
        go_ret
        exact ⟨rfl, X9.out.same⟩
      · obtain ⟨V, hV⟩ := LC.out.fol OK.out h0
        have hnod : V.length ≤ G.fs.length := Gr.Fol.len OK.out hV (LC.out.real s h0).free.1
        have hmax2 := OK.out.max
        have HV := hid hV
        clear hV
        go_wp2_with fail
        refine (find_ok HG.out s t hs ht LC.out h0 HV.out _ _ (HE.out.same X3.out.same).c8).mono ?_
        rintro r w4 ⟨v, rfl, hX4⟩
        have X4 := hid (X3.out.lift hX4)
        obtain ⟨va, vc, rfl, -⟩ := own_slice (hX4.row 0 rfl).1
        have d6 := hX4.same.keep c6
        have d7 := hX4.same.keep c7
        have dl := Nat.lt_of_lt_of_le hql hX4.same.size
        have H4 := hid (HG.out.same hX4.same)
        have M4 := hid (HM.out.same hX4.same)
        clear c6 c7 hql hX4 HG HM X3
        go_wp2_with fail
        refine (cost_ok H4.out s t hs ht LC.out h0 _ _ (HE.out.same X4.out.same).c8).mono ?_
        rintro r w5 ⟨rfl, hs5⟩
        have X5 := hid (X4.out.go hs5)
        have k6 := hs5.keep d6
        have k7 := hs5.keep d7
        have kl := Nat.lt_of_lt_of_le dl hs5.size
        have M5 := hid (M4.out.same hs5)
        clear d6 d7 dl hs5 H4 M4 X4
        go_wp2_with fail
        refine (rfind_any M5.out s t hs ht LC.out (some V) (by rw [if_pos h0]; exact HV.out)).mono ?_
        rintro r w6 ⟨v6, rfl, hX6⟩
        have X6 := hid (X5.out.lift hX6)
        obtain ⟨vb, vd, rfl, -⟩ := own_slice (hX6.row 0 rfl).1
        clear k6 k7 kl hX6 M5 X5 h0
        generalize cAt c s = x at *
        go_wp2_with fail
        refine (Num.sameInts _ _ (V.map Int.ofNat) (V.map Int.ofNat) _ (rowInts (X6.out.row 1 rfl).1) (rowInts (X6.out.row 0 rfl).1) (by rw [List.length_map]; omega) (by rw [List.length_map]; omega)).mono ?_
        rintro r w7 ⟨rfl, hs7⟩
        rw [decide_eq_true rfl]
        have X7 := hid (X6.out.go hs7)
        clear hs7 X6
        go_wp2_with fail
        refine (num_nil _).mono ?_
        rintro r w' ⟨rfl, rfl⟩
        go_wp2_with fail
        refine (num_nil _).mono ?_
        rintro r w' ⟨rfl, rfl⟩
        go_wp2
        go_ret
        exact ⟨rfl, X7.out.same⟩
    · have h1 : ¬ (0 ≤ s ∧ s < G.fs.length) ∨ ¬ (0 ≤ t ∧ t < G.fs.length) := by omega
      have H1 := hid h1
      clear hin h1
      go_wp2_with fail
      refine (find_range HG.out s t H1.out _ _ (HE.out.same X3.out.same).c0).mono ?_
      rintro r w4 ⟨rfl, hs4⟩
      have X4 := hid (X3.out.go hs4)
      have d6 := hs4.keep c6
      have d7 := hs4.keep c7
      have dl := Nat.lt_of_lt_of_le hql hs4.size
      have H4 := hid (HG.out.same hs4)
      have M4 := hid (HM.out.same hs4)
      clear c6 c7 hql hs4 HG HM X3
      go_wp2_with fail
      refine (cost_range H4.out s t H1.out _ _ (HE.out.same X4.out.same).c0).mono ?_
      rintro r w5 ⟨rfl, hs5⟩
      have X5 := hid (X4.out.go hs5)
      have k6 := hs5.keep d6
      have k7 := hs5.keep d7
      have kl := Nat.lt_of_lt_of_le dl hs5.size
      have M5 := hid (M4.out.same hs5)
      clear d6 d7 dl hs5 H4 M4 X4
      go_wp2_with fail
      refine (rfind_range M5.out s t H1.out).mono ?_
      rintro r w6 ⟨rfl, hs6⟩
      have X6 := hid (X5.out.go hs6)
      clear k6 k7 kl hs6 M5 X5
      go_wp2_with fail
      refine (Num.sameInts _ _ [] [] _ (readsNil _) (readsNil _) (by simp) (by simp)).mono ?_
      rintro r w7 ⟨rfl, hs7⟩
      have X7 := hid (X6.out.go hs7)
      clear hs7 X6
      go_wp2_with fail
      refine (num ad 1 (by omega) _ (HE.out.same X7.out.same)).mono ?_
      rintro r w8 ⟨rfl, hs8⟩
      have X8 := hid (X7.out.go hs8)
      clear hs8 X7
      go_wp2_with fail
      refine (num ad 1 (by omega) _ (HE.out.same X8.out.same)).mono ?_
      rintro r w9 ⟨rfl, hs9⟩
      have X9 := hid (X8.out.go hs9)
      clear hs9 X8
      go_wp2
      go_ret
      exact ⟨rfl, X9.out.same⟩
  · have MN := hid (fun (w : World) hr => made_no (w := w) g bl (.slice a bl.length cb) hr hb hc)
    rw [← hl] at MN HR ⊢
    obtain ⟨W, H, S, X, Y⟩ := g
    unfold askV
    unfold Grd.v at MN
    simp only at MN ⊢
    have Z := hid ((Star.new w).alloc #[.int .i64 W, .int .i64 H, .int .i64 S, .int .i64 X, .int .i64 Y, .slice a l cb, .int .i64 s, .int .i64 t] 26)
    clear hc hr hE hl hb
    go_enter Tryd.func7, Tryd.ntmps7
    go_wp2_with fail
    generalize w.alloc _ = w1 at *
    generalize w.heap.size = q at *
    refine (alive_any ad (HE.out.same Z.out.same).three).mono ?_
    rintro r w2 ⟨rfl, hs⟩
    have Z2 := hid (Z.out.go hs)
    have hbk := (Z2.out.blk 0 rfl).1
    have hql := lt_of hbk
    have c0 := cell_of hbk 0
    have c1 := cell_of hbk 1
    have c2 := cell_of hbk 2
    have c3 := cell_of hbk 3
    have c4 := cell_of hbk 4
    have c5 := cell_of hbk 5
    have c6 := cell_of hbk 6
    have c7 := cell_of hbk 7
    simp only [List.getElem?_toArray, List.getElem?_cons_zero, List.getElem?_cons_succ] at c0 c1 c2 c3 c4 c5 c6 c7
    clear hbk hs Z
    go_wp2_with fail
    refine (MN.out _ (HR.out.same Z2.out.same)).mono ?_
    rintro r w3 ⟨rfl, hs⟩
    have Z3 := hid (Z2.out.go hs)
    clear hs Z2 MN
    go_wp2
    go_ret
    exact ⟨rfl, Z3.out.same⟩
end Go.Proofs.YtbhmpbgoanmdlaaDoor.RouteFinds
