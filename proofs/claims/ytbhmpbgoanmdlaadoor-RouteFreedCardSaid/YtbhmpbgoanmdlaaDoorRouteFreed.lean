/-
  RouteFreed: the walk. 
-/
import Derived.Test.YtbhmpbgoanmdlaaDoorAlive17
import Derived.Test.YtbhmpbgoanmdlaaDoorMade17
import Derived.Test.YtbhmpbgoanmdlaaDoorInAsk
namespace Go.Proofs.YtbhmpbgoanmdlaaDoor.RouteFreed
open Go Go.RowKit Go.Proofs.YtbhmpbgoanmdlaaDoor.Err Go.Proofs.YtbhmpbgoanmdlaaDoor.Steps Go.Proofs.YtbhmpbgoanmdlaaDoor.Route

set_option maxRecDepth 100000 in
set_option maxHeartbeats 8000000 in
theorem walk (g : Grd) (bv : Value) (bl : List Int) (s t : Int) (x : Int) (w : World) (hr : Ints w bv bl) (hb : bl.length ≤ 9223372036854775807) (ad : Nat → Addr) (hE : Errs3 w ad) :
    Calls Tryd.prog 4 #[askV g bv s t, .int .i64 x] w fun r w' => r = .returned (.bool true) ∧ Same w w' := by
  obtain ⟨a, cb, rfl⟩ := hr.slice
  have HE := hid hE
  have HR := hid hr
  obtain ⟨l, hl⟩ : ∃ l, l = bl.length := ⟨_, rfl⟩
  by_cases hc : g.right = true ∧ g.W * g.H ≤ 256 ∧ bl.length ≤ 300
  · have MY := hid (fun (w : World) hr hE => made_yes (w := w) g bl (.slice a bl.length cb) hr hc.2.2 hc.1 hc.2.1 ad hE)
    rw [← hl] at MY HR ⊢
    obtain ⟨W, H, S, X, Y⟩ := g
    unfold askV
    unfold Grd.v at MY
    simp only at MY ⊢
    have Z := hid ((Star.new w).alloc #[.int .i64 W, .int .i64 H, .int .i64 S, .int .i64 X, .int .i64 Y, .slice a l cb, .int .i64 s, .int .i64 t] 26)
    have HL := hid hl
    clear hc hr hE hl hb
    go_enter Tryd.func4, Tryd.ntmps4
    go_wp2_with fail
    generalize w.alloc _ = w1 at *
    generalize w.heap.size = q at *
    refine (alive_any ad (HE.out.same Z.out.same)).mono ?_
    rintro r w2 ⟨rfl, hs⟩
    have Z2 := hid (Z.out.go hs)
    have hbk := (Z2.out.blk 0 rfl).1
    have hql := lt_of hbk
    have c0 := cell_of hbk 0
    have c1 := cell_of hbk 1
    have c2 := cell_of hbk 2
    have c3 := cell_of hbk 3
    have c4 := cell_of hbk 4
    have c5 := cell_of hbk 5
    have c6 := cell_of hbk 6
    have c7 := cell_of hbk 7
    simp only [List.getElem?_toArray, List.getElem?_cons_zero, List.getElem?_cons_succ] at c0 c1 c2 c3 c4 c5 c6 c7
    clear hbk hs Z
    go_wp2_with fail
    refine (MY.out _ (HR.out.same Z2.out.same) (HE.out.same Z2.out.same)).mono ?_
    rintro r w3 ⟨p, m, G, hok, hmax, rfl, hX3⟩
    have X3 : Hid (Star w w3 [gndR 49 m G, gndR 72 p G, Blk q #[.int .i64 W, .int .i64 H, .int .i64 S, .int .i64 X, .int .i64 Y, .slice a l cb, .int .i64 s, .int .i64 t] 26]) := hid (Z2.out.lift hX3)
    have OK := hid hok
    clear c0 c1 c2 c3 c4 c5 c6 c7 hql hX3 Z2 MY hok
    have hbk := (X3.out.blk 2 rfl).1
    have hql := lt_of hbk
    have c6 := cell_of hbk 6
    have c7 := cell_of hbk 7
    simp only [List.getElem?_toArray, List.getElem?_cons_zero, List.getElem?_cons_succ] at c6 c7
    clear hbk
    obtain ⟨pg, pc, hG, -⟩ := gnd_at X3.out 1 rfl
    have HG := hid hG
    clear hG
    have hn := OK.out.max
    have hwu : IntKind.u64.wrap (G.fs.length : Int) = (G.fs.length : Int) := by simp only [IntKind.wrap, IntKind.bits, IntKind.signed]; simp; omega
    obtain ⟨k, hk, hmod⟩ := mod_small x G.fs.length (by omega) (by omega)
    have HK := hid hk
    clear hk
    by_cases hin : (0 ≤ s ∧ s < G.fs.length) ∧ (0 ≤ t ∧ t < G.fs.length)
    · obtain ⟨⟨s0, s1⟩, t0, t1⟩ := hin
      obtain ⟨s, rfl⟩ := Int.eq_ofNat_of_zero_le s0
      obtain ⟨t, rfl⟩ := Int.eq_ofNat_of_zero_le t0
      have hs : s < G.fs.length := by omega
      have ht : t < G.fs.length := by omega
      have hs' : s < (G.set k true).fs.length := by simpa [Gr.set] using hs
      have ht' : t < (G.set k true).fs.length := by simpa [Gr.set] using ht
      obtain ⟨c, hc⟩ := Least.exists G [t]
      obtain ⟨d, hd⟩ := Least.exists (G.set k true) [t]
      have LC := hid hc
      have LD := hid hd
      clear s0 s1 t0 t1 hc hd
      rcases LC.out.low s with h0 | h0
      · go_wp2_with fail
        refine (cost_path HG.out s t hs ht LC.out h0 _ _ (HE.out.same X3.out.same).c8).mono ?_
        rintro r w4 ⟨rfl, hs4⟩
        have X4 := hid ((X3.out.go hs4).pull 1 rfl)
        have H4 := hid (HG.out.same hs4)
        clear c6 c7 hql hs4 HG
        go_wp2_with fail
        refine (len_any H4.out).mono ?_
        rintro r w5 ⟨rfl, rfl⟩
        go_wp2_with fail
        refine (set_in X4.out k true HK.out).mono ?_
        rintro r w6 ⟨rfl, hX6⟩
        have X6 := hid hX6
        obtain ⟨pg, pc, hG, -⟩ := gnd_at hX6 0 rfl
        have H6 := hid hG
        have hbk := (hX6.blk 2 rfl).1
        have d6 := cell_of hbk 6
        have d7 := cell_of hbk 7
        have dl := lt_of hbk
        simp only [List.getElem?_toArray, List.getElem?_cons_zero, List.getElem?_cons_succ] at d6 d7
        clear hX6 hG hbk X3 X4 H4 hmod hwu hn h0
        rcases LD.out.low s with h1 | h1
        · go_wp2_with fail
          refine (cost_path H6.out s t hs' ht' LD.out h1 _ _ (HE.out.same X6.out.same).c8).mono ?_
          rintro r w7 ⟨rfl, hs7⟩
          have X7 := hid (X6.out.go hs7)
          clear hs7 X6 d6 d7 dl
          go_wp2
          go_ret
          exact ⟨rfl, X7.out.same⟩
        · go_wp2_with fail
          refine (cost_ok H6.out s t hs' ht' LD.out h1 _ _ (HE.out.same X6.out.same).c8).mono ?_
          rintro r w7 ⟨rfl, hs7⟩
          have X7 := hid (X6.out.go hs7)
          clear hs7 X6 d6 d7 dl
          go_wp2
          go_ret
          exact ⟨rfl, X7.out.same⟩
      · have h1 := LD.out.min s _ (LC.out.real s h0).mono
        go_wp2_with fail
        refine (cost_ok HG.out s t hs ht LC.out h0 _ _ (HE.out.same X3.out.same).c8).mono ?_
        rintro r w4 ⟨rfl, hs4⟩
        have X4 := hid ((X3.out.go hs4).pull 1 rfl)
        have H4 := hid (HG.out.same hs4)
        clear c6 c7 hql hs4 HG
        go_wp2_with fail
        refine (len_any H4.out).mono ?_
        rintro r w5 ⟨rfl, rfl⟩
        go_wp2_with fail
        refine (set_in X4.out k true HK.out).mono ?_
        rintro r w6 ⟨rfl, hX6⟩
        have X6 := hid hX6
        obtain ⟨pg, pc, hG, -⟩ := gnd_at hX6 0 rfl
        have H6 := hid hG
        have hbk := (hX6.blk 2 rfl).1
        have d6 := cell_of hbk 6
        have d7 := cell_of hbk 7
        have dl := lt_of hbk
        simp only [List.getElem?_toArray, List.getElem?_cons_zero, List.getElem?_cons_succ] at d6 d7
        clear hX6 hG hbk X3 X4 H4 hmod hwu hn
        go_wp2_with fail
        refine (cost_ok H6.out s t hs' ht' LD.out h1.1 _ _ (HE.out.same X6.out.same).c8).mono ?_
        rintro r w7 ⟨rfl, hs7⟩
        have X7 := hid (X6.out.go hs7)
        have hle := h1.2
        clear hs7 X6 d6 d7 dl h0 h1
        generalize cAt c s = u1 at *
        generalize cAt d s = u2 at *
        go_wp2
        go_ret
        exact ⟨rfl, X7.out.same⟩
    · have h1 : ¬ (0 ≤ s ∧ s < G.fs.length) ∨ ¬ (0 ≤ t ∧ t < G.fs.length) := by omega
      have h2 : ¬ (0 ≤ s ∧ s < (G.set k true).fs.length) ∨ ¬ (0 ≤ t ∧ t < (G.set k true).fs.length) := by simpa [Gr.set] using h1
      have H1 := hid h1
      have H2 := hid h2
      clear hin h1 h2
      go_wp2_with fail
      refine (cost_range HG.out s t H1.out _ _ (HE.out.same X3.out.same).c0).mono ?_
      rintro r w4 ⟨rfl, hs4⟩
      have X4 := hid ((X3.out.go hs4).pull 1 rfl)
      have H4 := hid (HG.out.same hs4)
      clear c6 c7 hql hs4 HG
      go_wp2_with fail
      refine (len_any H4.out).mono ?_
      rintro r w5 ⟨rfl, rfl⟩
      go_wp2_with fail
      refine (set_in X4.out k true HK.out).mono ?_
      rintro r w6 ⟨rfl, hX6⟩
      have X6 := hid hX6
      obtain ⟨pg, pc, hG, -⟩ := gnd_at hX6 0 rfl
      have H6 := hid hG
      have hbk := (hX6.blk 2 rfl).1
      have d6 := cell_of hbk 6
      have d7 := cell_of hbk 7
      have dl := lt_of hbk
      simp only [List.getElem?_toArray, List.getElem?_cons_zero, List.getElem?_cons_succ] at d6 d7
      clear hX6 hG hbk X3 X4 H4 hmod hwu hn
      go_wp2_with fail
      refine (cost_range H6.out s t H2.out _ _ (HE.out.same X6.out.same).c0).mono ?_
      rintro r w7 ⟨rfl, hs7⟩
      have X7 := hid (X6.out.go hs7)
      clear hs7 X6 d6 d7 dl
      go_wp2
      go_ret
      exact ⟨rfl, X7.out.same⟩
  · have MN := hid (fun (w : World) hr => made_no (w := w) g bl (.slice a bl.length cb) hr hb hc)
    rw [← hl] at MN HR ⊢
    obtain ⟨W, H, S, X, Y⟩ := g
    unfold askV
    unfold Grd.v at MN
    simp only at MN ⊢
    have Z := hid ((Star.new w).alloc #[.int .i64 W, .int .i64 H, .int .i64 S, .int .i64 X, .int .i64 Y, .slice a l cb, .int .i64 s, .int .i64 t] 26)
    clear hc hr hE hl hb
    go_enter Tryd.func4, Tryd.ntmps4
    go_wp2_with fail
    generalize w.alloc _ = w1 at *
    generalize w.heap.size = q at *
    refine (alive_any ad (HE.out.same Z.out.same)).mono ?_
    rintro r w2 ⟨rfl, hs⟩
    have Z2 := hid (Z.out.go hs)
    have hbk := (Z2.out.blk 0 rfl).1
    have hql := lt_of hbk
    have c0 := cell_of hbk 0
    have c1 := cell_of hbk 1
    have c2 := cell_of hbk 2
    have c3 := cell_of hbk 3
    have c4 := cell_of hbk 4
    have c5 := cell_of hbk 5
    have c6 := cell_of hbk 6
    have c7 := cell_of hbk 7
    simp only [List.getElem?_toArray, List.getElem?_cons_zero, List.getElem?_cons_succ] at c0 c1 c2 c3 c4 c5 c6 c7
    clear hbk hs Z
    go_wp2_with fail
    refine (MN.out _ (HR.out.same Z2.out.same)).mono ?_
    rintro r w3 ⟨rfl, hs⟩
    have Z3 := hid (Z2.out.go hs)
    clear hs Z2 MN
    go_wp2
    go_ret
    exact ⟨rfl, Z3.out.same⟩
end Go.Proofs.YtbhmpbgoanmdlaaDoor.RouteFreed
