/-
  JumpSearches: the walk. 
-/
import Derived.Test.YtdihnjhbopogoaaDoorAlive18
import Derived.Test.YtdihnjhbopogoaaDoorMade18
import Derived.Test.YtdihnjhbopogoaaDoorInAsk
import Derived.Test.YtdihnjhbopogoaaDoorRefExp
import Derived.Test.YtdihnjhbopogoaaDoorRefFind
import Derived.Test.YtdihnjhbopogoaaDoorRefCost
import Derived.Test.YtdihnjhbopogoaaDoorJumpCost
namespace Go.Proofs.YtdihnjhbopogoaaDoor.JumpSearches
open Go Go.RowKit Go.Proofs.YtdihnjhbopogoaaDoor.Err Go.Proofs.YtdihnjhbopogoaaDoor.Steps Go.Proofs.YtdihnjhbopogoaaDoor.Route Go.Proofs.YtdihnjhbopogoaaDoor.Jmp

set_option maxRecDepth 100000 in
set_option maxHeartbeats 8000000 in
theorem walk (g : Grd) (bv : Value) (bl : List Int) (s t : Int) (w : World) (hr : Ints w bv bl) (hb : bl.length ≤ 9223372036854775807) (ad : Nat → Addr) (hE : Errs w ad) :
    Calls Tryd.prog 6 #[askV g bv s t] w fun r w' => r = .returned (.bool true) ∧ Same w w' := by
  obtain ⟨a, cb, rfl⟩ := hr.slice
  have HE := hid hE
  have HR := hid hr
  obtain ⟨l, hl⟩ : ∃ l, l = bl.length := ⟨_, rfl⟩
  by_cases hc : g.right = true ∧ g.W * g.H ≤ 256 ∧ bl.length ≤ 300
  · have MY := hid (fun (w : World) hr hE => made_yes (w := w) g bl (.slice a bl.length cb) hr hc.2.2 hc.1 hc.2.1 ad hE)
    rw [← hl] at MY HR ⊢
    obtain ⟨W, H, S, X, Y⟩ := g
    unfold askV
    unfold Grd.v at MY
    simp only at MY ⊢
    have Z := hid ((Star.new w).alloc #[.int .i64 W, .int .i64 H, .int .i64 S, .int .i64 X, .int .i64 Y, .slice a l cb, .int .i64 s, .int .i64 t] 26)
    have HL := hid hl
    clear hc hr hE hl hb
    go_enter Tryd.func6, Tryd.ntmps6
    go_wp2_with fail
    generalize w.alloc _ = w1 at *
    generalize w.heap.size = q at *
    refine (alive_any ad (HE.out.same Z.out.same).jmp).mono ?_
    rintro r w2 ⟨rfl, hs⟩
    have Z2 := hid (Z.out.go hs)
    have hbk := (Z2.out.blk 0 rfl).1
    have hql := lt_of hbk
    have c0 := cell_of hbk 0
    have c1 := cell_of hbk 1
    have c2 := cell_of hbk 2
    have c3 := cell_of hbk 3
    have c4 := cell_of hbk 4
    have c5 := cell_of hbk 5
    have c6 := cell_of hbk 6
    have c7 := cell_of hbk 7
    simp only [List.getElem?_toArray, List.getElem?_cons_zero, List.getElem?_cons_succ] at c0 c1 c2 c3 c4 c5 c6 c7
    clear hbk hs Z
    go_wp2_with fail
    refine (MY.out _ (HR.out.same Z2.out.same) (HE.out.same Z2.out.same).three).mono ?_
    rintro r w3 ⟨p, m, G, hok, hmax, rfl, hX3⟩
    have X3 : Hid (Star w w3 [gndR 71 m G, gndR 93 p G, Blk q #[.int .i64 W, .int .i64 H, .int .i64 S, .int .i64 X, .int .i64 Y, .slice a l cb, .int .i64 s, .int .i64 t] 26]) := hid (Z2.out.lift hX3)
    have OK := hid hok
    clear c0 c1 c2 c3 c4 c5 c6 c7 hql hX3 Z2 MY hok
    have hbk := (X3.out.blk 2 rfl).1
    have hql := lt_of hbk
    have c6 := cell_of hbk 6
    have c7 := cell_of hbk 7
    simp only [List.getElem?_toArray, List.getElem?_cons_zero, List.getElem?_cons_succ] at c6 c7
    clear hbk
    obtain ⟨pg, pc, hG, -⟩ := gnd_at X3.out 1 rfl
    have HG := hid hG
    clear hG
    obtain ⟨mg, mc, hM, -⟩ := gnd_at X3.out 0 rfl
    have HM := hid hM
    clear hM
    by_cases hin : (0 ≤ s ∧ s < G.fs.length) ∧ (0 ≤ t ∧ t < G.fs.length)
    · obtain ⟨⟨s0, s1⟩, t0, t1⟩ := hin
      obtain ⟨s, rfl⟩ := Int.eq_ofNat_of_zero_le s0
      obtain ⟨t, rfl⟩ := Int.eq_ofNat_of_zero_le t0
      have hs : s < G.fs.length := by omega
      have ht : t < G.fs.length := by omega
      obtain ⟨c, hc⟩ := Least.exists G [t]
      have LC := hid hc
      clear s0 s1 t0 t1 hc
      rcases LC.out.low s with h0 | h0
      · go_wp2_with fail
        refine (search_path HG.out s t hs ht LC.out h0 _ (HE.out.same X3.out.same).c8).mono ?_
        rintro r w4 ⟨rfl, hs4⟩
        have X4 := hid (X3.out.go hs4)
        have d6 := hs4.keep c6
        have d7 := hs4.keep c7
        have dl := Nat.lt_of_lt_of_le hql hs4.size
        have H4 := hid (HG.out.same hs4)
        have M4 := hid (HM.out.same hs4)
        clear c6 c7 hql hs4 HG HM X3
        go_wp2_with fail
        refine (jcost_of ((search_path H4.out s t hs ht LC.out h0 _ (HE.out.same X4.out.same).c8).mono (fun r w' h => ⟨_, h⟩))).mono ?_
        rintro r w5 ⟨rfl, hs5⟩
        have X5 := hid (X4.out.go hs5)
        have k6 := hs5.keep d6
        have k7 := hs5.keep d7
        have kl := Nat.lt_of_lt_of_le dl hs5.size
        have M5 := hid (M4.out.same hs5)
        clear d6 d7 dl hs5 H4 M4 X4
        go_wp2_with fail
        refine (rfind_any M5.out s t hs ht LC.out none (by rw [if_neg (by omega)])).mono ?_
        rintro r w6 ⟨rfl, hs6⟩
        have X6 := hid (X5.out.go hs6)
        clear k6 k7 kl hs6 M5 X5
        go_wp2_with fail
        refine (num ad 9 (by omega) _ (HE.out.same X6.out.same)).mono ?_
        rintro r w8 ⟨rfl, hs8⟩
        have X8 := hid (X6.out.go hs8)
        clear hs8 X6
        go_wp2_with fail
        refine (num ad 9 (by omega) _ (HE.out.same X8.out.same)).mono ?_
        rintro r w9 ⟨rfl, hs9⟩
        have X9 := hid (X8.out.go hs9)
        clear hs9 X8
        go_wp2
        go_ret
        exact ⟨rfl, X9.out.same⟩
      · obtain ⟨V, hV⟩ := LC.out.fol OK.out h0
        have HV := hid hV
        have hT := LC.out.real s h0
        have HF := hid hT.free.1
        clear hV
        have HP := hid (fun (pts : List Nat) (h : Gr.JPath G t s pts t (cAt c s)) => pts_facts OK.out HF.out h hT (fun k' h' => (LC.out.min s k' h').2))
        clear hT
        go_wp2_with fail
        refine (search_ok HG.out s t LC.out h0 _ (HE.out.same X3.out.same).c8).mono ?_
        rintro r w4 ⟨pts, v, hJ, hpl, rfl, hX4⟩
        obtain ⟨lw, hex, hco, hl1, hfst, hlst, hone, hpb, hlb⟩ := HP.out pts hJ
        have hcb := LC.out.bound OK.out s
        have hgm := OK.out.max
        have hxl : pts.length ≤ 100000 := by omega
        have hll : lw.length ≤ 100000 := by omega
        clear hpb hlb hcb hgm
        obtain ⟨n, hn⟩ : ∃ n, n = pts.length := ⟨_, rfl⟩
        obtain ⟨xs, hxs⟩ : ∃ xs : List Int, xs = pts.map Int.ofNat := ⟨_, rfl⟩
        have HXS := hid (And.intro hn hxs)
        rw [← hn] at hX4 hl1 hpl hlst hone hxl
        rw [show n = xs.length by rw [hxs, hn, List.length_map]] at hxl
        rw [← hxs] at hex
        clear hn hxs
        have X4 := hid (X3.out.lift hX4)
        obtain ⟨va, vc, rfl, -⟩ := own_slice (hX4.row 0 rfl).1
        have d6 := hX4.same.keep c6
        have d7 := hX4.same.keep c7
        have dl := Nat.lt_of_lt_of_le hql hX4.same.size
        have H4 := hid (HG.out.same hX4.same)
        have M4 := hid (HM.out.same hX4.same)
        have HEX := hid hex
        have HCO := hid hco
        have HFL := hid (And.intro hfst hlst)
        have HONE := hid hone
        clear c6 c7 hql hX4 HG HM X3 HP hJ hex hco hfst hlst hone
        go_wp2_with fail
        refine (jcost_of (k := cAt c s) ((search_ok H4.out s t LC.out h0 _ (HE.out.same X4.out.same).c8).mono (fun r w' h => by obtain ⟨p2, v2, _, _, h3, h4⟩ := h; exact ⟨v2, h3, h4.same⟩))).mono ?_
        rintro r w5 ⟨rfl, hs5⟩
        have X5 := hid (X4.out.go hs5)
        have k6 := hs5.keep d6
        have k7 := hs5.keep d7
        have kl := Nat.lt_of_lt_of_le dl hs5.size
        have M5 := hid (M4.out.same hs5)
        clear d6 d7 dl hs5 H4 M4 X4
        go_wp2_with fail
        refine (rfind_any M5.out s t hs ht LC.out (some V) (by rw [if_pos h0]; exact HV.out)).mono ?_
        rintro r w6 ⟨v6, rfl, hX6⟩
        have X6 := hid (X5.out.go hX6.same)
        obtain ⟨vb, vd, rfl, -⟩ := own_slice (hX6.row 0 rfl).1
        have e6 := hX6.same.keep k6
        have e7 := hX6.same.keep k7
        have el := Nat.lt_of_lt_of_le kl hX6.same.size
        have M6 := hid (M5.out.same hX6.same)
        clear k6 k7 kl hX6 M5 X5 h0 HV
        obtain ⟨x, hx⟩ : ∃ x, x = cAt c s := ⟨_, rfl⟩
        rw [← hx] at HCO ⊢
        clear hx
        go_wp2_with fail
        refine (num_nil _).mono ?_
        rintro r w' ⟨rfl, rfl⟩
        go_wp2_with fail
        refine (num_nil _).mono ?_
        rintro r w' ⟨rfl, rfl⟩
        have R6 : Hid (Ints w6 (.slice va n vc) xs) := hid (by rw [HXS.out.2]; have h := (X6.out.row 0 rfl).1; rw [HXS.out.1] at h ⊢; exact rowInts h)
        go_wp2_with fail
        refine (rexpand_any M6.out _ xs R6.out hxl).mono ?_
        intro r w7 hA
        rw [HEX.out] at hA
        obtain ⟨v7, rfl, hX7⟩ := hA
        obtain ⟨ve, vf, rfl, -⟩ := own_slice (hX7.row 0 rfl).1
        have X7 := hid (X6.out.lift hX7)
        have i6 := hX7.same.keep e6
        have i7 := hX7.same.keep e7
        have il := Nat.lt_of_lt_of_le el hX7.same.size
        have M7 := hid (M6.out.same hX7.same)
        have hrow := (X7.out.row 1 rfl).1
        obtain ⟨g, cg, e3⟩ := own_shape hrow (by omega)
        cases e3
        have z1 : w7.cell? ⟨g, 0, none⟩ = some (.int .i64 s) := (hrow.cellAt 0 (by omega)).trans (by rw [gC, List.getElem?_map, HFL.out.1]; rfl)
        have z2 : w7.cell? ⟨g, n - 1, none⟩ = some (.int .i64 t) := (hrow.cellAt (n - 1) (by omega)).trans (by rw [gC, List.getElem?_map, HFL.out.2]; rfl)
        have gl := (hrow.lt g rfl).2
        have R7 := hid (rowInts (X7.out.row 0 rfl).1)
        clear hX7 e6 e7 el X6 M6 R6 hrow
        obtain ⟨j, rfl⟩ : ∃ j, n = j + 1 := ⟨n - 1, by omega⟩
        rw [Nat.add_sub_cancel] at z2
        by_cases h1 : j = 0
        · subst h1
          have hst : s = t := HONE.out.1 rfl
          have hss : ((s : Int) == (t : Int)) = true := by rw [beq_iff_eq]; omega
          rw [Nat.zero_add]
          go_wp2_with fail
          go_quiet (fail)
          go_wp2_with fail
          refine (rcost_any (M7.out.same ((Chg.refl _).drewN _)) _ (lw.map Int.ofNat) (R7.out.same ((Chg.refl _).drewN _)) (by rw [List.length_map]; exact hll)).mono ?_
          rintro r w8 ⟨rfl, hs8⟩
          rw [HCO.out]
          have X8 := hid ((X7.out.go ((Chg.refl _).drewN _)).go hs8)
          clear hs8 X7 M7 R7 i6 i7 il z1 z2
          go_wp2
          go_ret
          exact ⟨rfl, X8.out.same⟩
        · have hst : ¬ s = t := fun e => h1 (by have := HONE.out.2 e; omega)
          have hss : ((s : Int) == (t : Int)) = false := by rw [beq_eq_false_iff_ne]; omega
          have hn1 : ((j : Int) + 1 == 1) = false := by rw [beq_eq_false_iff_ne]; omega
          have hn5 : (((j + 1 : Nat) : Int) == 1) = false := by rw [beq_eq_false_iff_ne]; omega
          have hn2 : ((j : Int) + 1 < 1) = False := eq_false (by omega)
          have hn4 : (((j + 1 : Nat) : Int) < 1) = False := eq_false (by omega)
          have hn3 : 0 < j + 1 := by omega
          have hn6 : j ≤ 1000000 := by omega
          have hn7 : j < j + 1 := by omega
          go_wp2_with fail
          go_quiet (fail)
          go_wp2_with fail
          refine (rcost_any (M7.out.same ((Chg.refl _).drewN _)) _ (lw.map Int.ofNat) (R7.out.same ((Chg.refl _).drewN _)) (by rw [List.length_map]; exact hll)).mono ?_
          rintro r w8 ⟨rfl, hs8⟩
          rw [HCO.out]
          have X8 := hid ((X7.out.go ((Chg.refl _).drewN _)).go hs8)
          clear hs8 X7 M7 R7 i6 i7 il z1 z2
          go_wp2
          go_ret
          exact ⟨rfl, X8.out.same⟩
    · have h1 : ¬ (0 ≤ s ∧ s < G.fs.length) ∨ ¬ (0 ≤ t ∧ t < G.fs.length) := by omega
      have H1 := hid h1
      clear hin h1
      go_wp2_with fail
      refine (search_range HG.out s t (has_not H1.out) _ (HE.out.same X3.out.same).c0).mono ?_
      rintro r w4 ⟨rfl, hs4⟩
      have X4 := hid (X3.out.go hs4)
      have d6 := hs4.keep c6
      have d7 := hs4.keep c7
      have dl := Nat.lt_of_lt_of_le hql hs4.size
      have H4 := hid (HG.out.same hs4)
      have M4 := hid (HM.out.same hs4)
      clear c6 c7 hql hs4 HG HM X3
      go_wp2_with fail
      refine (jcost_of ((search_range H4.out s t (has_not H1.out) _ (HE.out.same X4.out.same).c0).mono (fun r w' h => ⟨_, h⟩))).mono ?_
      rintro r w5 ⟨rfl, hs5⟩
      have X5 := hid (X4.out.go hs5)
      have k6 := hs5.keep d6
      have k7 := hs5.keep d7
      have kl := Nat.lt_of_lt_of_le dl hs5.size
      have M5 := hid (M4.out.same hs5)
      clear d6 d7 dl hs5 H4 M4 X4
      go_wp2_with fail
      refine (rfind_range M5.out s t H1.out).mono ?_
      rintro r w6 ⟨rfl, hs6⟩
      have X6 := hid (X5.out.go hs6)
      clear k6 k7 kl hs6 M5 X5
      go_wp2_with fail
      refine (num ad 1 (by omega) _ (HE.out.same X6.out.same)).mono ?_
      rintro r w8 ⟨rfl, hs8⟩
      have X8 := hid (X6.out.go hs8)
      clear hs8 X6
      go_wp2_with fail
      refine (num ad 1 (by omega) _ (HE.out.same X8.out.same)).mono ?_
      rintro r w9 ⟨rfl, hs9⟩
      have X9 := hid (X8.out.go hs9)
      clear hs9 X8
      go_wp2
      go_ret
      exact ⟨rfl, X9.out.same⟩
  · have MN := hid (fun (w : World) hr => made_no (w := w) g bl (.slice a bl.length cb) hr hb hc)
    rw [← hl] at MN HR ⊢
    obtain ⟨W, H, S, X, Y⟩ := g
    unfold askV
    unfold Grd.v at MN
    simp only at MN ⊢
    have Z := hid ((Star.new w).alloc #[.int .i64 W, .int .i64 H, .int .i64 S, .int .i64 X, .int .i64 Y, .slice a l cb, .int .i64 s, .int .i64 t] 26)
    clear hc hr hE hl hb
    go_enter Tryd.func6, Tryd.ntmps6
    go_wp2_with fail
    generalize w.alloc _ = w1 at *
    generalize w.heap.size = q at *
    refine (alive_any ad (HE.out.same Z.out.same).jmp).mono ?_
    rintro r w2 ⟨rfl, hs⟩
    have Z2 := hid (Z.out.go hs)
    have hbk := (Z2.out.blk 0 rfl).1
    have hql := lt_of hbk
    have c0 := cell_of hbk 0
    have c1 := cell_of hbk 1
    have c2 := cell_of hbk 2
    have c3 := cell_of hbk 3
    have c4 := cell_of hbk 4
    have c5 := cell_of hbk 5
    have c6 := cell_of hbk 6
    have c7 := cell_of hbk 7
    simp only [List.getElem?_toArray, List.getElem?_cons_zero, List.getElem?_cons_succ] at c0 c1 c2 c3 c4 c5 c6 c7
    clear hbk hs Z
    go_wp2_with fail
    refine (MN.out _ (HR.out.same Z2.out.same)).mono ?_
    rintro r w3 ⟨rfl, hs⟩
    have Z3 := hid (Z2.out.go hs)
    clear hs Z2 MN
    go_wp2
    go_ret
    exact ⟨rfl, Z3.out.same⟩
end Go.Proofs.YtdihnjhbopogoaaDoor.JumpSearches
