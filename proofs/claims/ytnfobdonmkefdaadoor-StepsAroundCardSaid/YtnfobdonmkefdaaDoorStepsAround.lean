/-
  StepsAround: the walk.
-/
import Derived.Test.YtnfobdonmkefdaaDoorAlive16
import Derived.Test.YtnfobdonmkefdaaDoorRefCost
import Derived.Test.YtnfobdonmkefdaaDoorRefGuess
import Derived.Test.YtnfobdonmkefdaaDoorStepGuess
namespace Go.Proofs.YtnfobdonmkefdaaDoor.StepsAround
open Go Go.RowKit Go.Proofs.YtnfobdonmkefdaaDoor.Err Go.Proofs.YtnfobdonmkefdaaDoor.Steps

theorem cnt_at {G : Gr} {t : Int} {d u : Nat} {c : Int} (hd : d < 8) (h : G.goI t d = some (u, c)) : (G.aroundI t)[(G.aroundTo t d).length]? = some ⟨d, u, c⟩ := by
  obtain ⟨r, hr⟩ := around_pre (G := G) t (d + 1) 8 (by omega)
  unfold Gr.aroundI
  rw [hr, Gr.aroundTo_some h, List.append_assoc, List.getElem?_append_right (Nat.le_refl _), Nat.sub_self]
  rfl

set_option maxRecDepth 100000 in
set_option maxHeartbeats 8000000 in
theorem walk (g : Grd) (bl : List Int) (v : Value) (tt : Int) (w : World) (hr : Ints w v bl) (hbl : bl.length ≤ 9223372036854775807) (ad : Nat → Addr) (hE : Errs w ad) :
    Calls Tryd.prog 7 #[g.v, v, .int .i64 tt] w fun r w' => r = .returned (.bool true) ∧ Same w w' := by
  have HE10 := hid hE
  replace hE := hE.five
  obtain ⟨a, cb, rfl⟩ := hr.slice
  have HE := hid hE
  have HYES := hid (fun (hg : g.right = true ∧ bl.length ≤ 500) (w' : World) (hs : Same w w') => made_yes g bl _ (hr.same hs) hg.2 hg.1 ad (hE.same hs))
  have HNO := hid (fun (hg : ¬ (g.right = true ∧ bl.length ≤ 500)) (w' : World) (hs : Same w w') => made_no g bl _ (hr.same hs) hbl hg)
  have hcase : (g.right = true ∧ bl.length ≤ 500) ∨ ¬ (g.right = true ∧ bl.length ≤ 500) := Classical.em _
  have HC := hid hcase
  obtain ⟨W, H, S, X, Y⟩ := g
  unfold Grd.v at *
  simp only at HYES HNO ⊢
  have Z := hid ((Star.new w).alloc #[.int .i64 W, .int .i64 H, .int .i64 S, .int .i64 X, .int .i64 Y] 23)
  clear hE hr hcase hbl
  go_enter Tryd.func7, Tryd.ntmps7
  go_wp2_with fail
  generalize w.alloc _ = wz at *
  generalize w.heap.size = q at *
  refine (alive_any ad (HE.out.same Z.out.same)).mono ?_
  rintro r w1 ⟨rfl, hs⟩
  have Z1 := hid (Z.out.go hs)
  have hbk := (Z1.out.blk 0 rfl).1
  have hql := lt_of hbk
  have c0 := cell_of hbk 0
  have c1 := cell_of hbk 1
  have c2 := cell_of hbk 2
  have c3 := cell_of hbk 3
  have c4 := cell_of hbk 4
  simp only [List.getElem?_toArray, List.getElem?_cons_zero, List.getElem?_cons_succ] at c0 c1 c2 c3 c4
  clear hs Z hbk
  go_wp2_with fail
  rcases HC.out with hg | hg
  case inr =>
    refine (HNO.out hg w1 Z1.out.same).mono ?_
    rintro r w2 ⟨rfl, hs2⟩
    have S2 := hid (Z1.out.same.trans hs2 (fun _ _ f => f))
    clear hs2
    go_wp2
    go_ret
    exact ⟨rfl, S2.out⟩
  refine (HYES.out hg w1 Z1.out.same).mono ?_
  rintro r w2 ⟨p, mm, G, hok, hGW, hGH, rfl, hX⟩
  have X2 : Hid (Star w w2 [gndR 63 mm G, gndR 65 p G]) := hid (((Star.new w).go Z1.out.same).lift hX)
  have OK := hid hok
  have hmax := hok.max
  clear hX hok hGW hGH Z1 HYES HNO HC hg c0 c1 c2 c3 c4 hql
  go_wp2_with fail
  obtain ⟨g1, cg1, h1, -⟩ := gnd_at X2.out 1 rfl
  refine (around_any h1 tt).mono ?_
  rintro r w3 ⟨va, rfl, hA⟩
  have X3 : Hid (Star w w3 [Row 34 3 va (G.aroundI tt).length (stCs (G.aroundI tt)), gndR 63 mm G, gndR 65 p G]) := hid (X2.out.lift hA)
  obtain ⟨aa, ca, rfl, -⟩ := own_slice (X3.out.row 0 rfl).1
  obtain ⟨m, hm⟩ : ∃ m, m = (G.aroundI tt).length := ⟨_, rfl⟩
  have hm8 : m ≤ 8 := by rw [hm]; exact G.aroundTo_len tt 8
  rw [← hm] at X3 ⊢
  have HM := hid hm
  clear hA h1 X2 hm
  go_wp2_with fail
  go_loopw [11, 12] (fun kv iv wr => ∃ (j : Nat) (z : Int), j ≤ 10 ∧ z = (j : Int) - 1 ∧ iv = .int .i64 z ∧ kv = .int .i64 ((G.aroundTo tt (min (j - 1) 8)).length : Nat) ∧ Star w wr [Row 34 3 (.slice aa m ca) m (stCs (G.aroundI tt)), gndR 63 mm G, gndR 65 p G]) (fun _ iv _ => (9 - intOf iv).toNat)
  case atStart => exact ⟨0, -1, by omega, by omega, rfl, rfl, X3.out⟩
  case round =>
    obtain ⟨j, z, hj, hz, rfl, rfl, hX⟩ := hrel
    have X4 := hid hX
    clear hX X3
    obtain ⟨kk, hkk⟩ : ∃ kk, kk = (G.aroundTo tt (min (j - 1) 8)).length := ⟨_, rfl⟩
    rw [← hkk]
    have HKK := hid hkk
    clear hkk
    have HJ := hid hj
    have HZ := hid hz
    clear hj hz
    by_cases hj10 : j < 10
    · have hz9 : z < 9 := by have := HZ.out; omega
      have hzb : -1 ≤ z := by have := HZ.out; omega
      have hj := hid hj10
      clear hj10
      go_wp2_with fail
      obtain ⟨g1, cg1, h1, -⟩ := gnd_at X4.out 2 rfl
      refine (go_any h1 tt z).mono ?_
      rintro r w4 ⟨rfl, hs4⟩
      have X5 := hid (X4.out.go hs4)
      clear h1 hs4 X4
      cases hgo : G.goI tt z with
      | none =>
        have HG := hid hgo
        have X6 := hid (X5.out.alloc #[.int .i64 0, .int .i64 0, .int .i64 0] 34)
        have hcnt : (G.aroundTo tt (min (j + 1 - 1) 8)).length = (G.aroundTo tt (min (j - 1) 8)).length := by
          by_cases hd : 1 ≤ j ∧ j ≤ 8
          · have e : z = ((j - 1 : Nat) : Int) := by have := HZ.out; omega
            rw [e] at hgo
            rw [show min (j + 1 - 1) 8 = (j - 1) + 1 by omega, show min (j - 1) 8 = j - 1 by omega, Gr.aroundTo_none hgo]
          · congr 2; omega
        have HCN := hid hcnt
        clear hgo hcnt X5
        unfold goV
        go_wp2_with fail
        generalize w4.alloc _ = w5 at *
        generalize w4.heap.size = b13 at *
        obtain ⟨g2, cg2, h2, -⟩ := gnd_at X6.out 2 rfl
        refine (rgo_any h2 tt z).mono ?_
        rintro r w6 ⟨rfl, hs6⟩
        have X7 := hid (X6.out.go hs6)
        rw [HG.out]
        unfold refV
        have hk := (X7.out.blk 0 rfl).1
        have q0 := cell_of hk 0
        have q1 := cell_of hk 1
        have q2 := cell_of hk 2
        simp only [List.getElem?_toArray, List.getElem?_cons_zero, List.getElem?_cons_succ] at q0 q1 q2
        clear h2 hs6 hk X6
        go_wp2
        go_roundw
        case rel =>
          have hrel : ∃ (j' : Nat) (z' : Int), j' ≤ 10 ∧ z' = (j' : Int) - 1 ∧ Value.int .i64 (z + 1) = .int .i64 z' ∧ Value.int .i64 (kk : Int) = .int .i64 ((G.aroundTo tt (min (j' - 1) 8)).length : Nat) ∧ Star w _ [Row 34 3 (.slice aa m ca) m (stCs (G.aroundI tt)), gndR 63 mm G, gndR 65 p G] := ⟨j + 1, z + 1, by have := hj.out; omega, by have := HZ.out; omega, rfl, by rw [HCN.out, ← HKK.out], X7.out.drop⟩
          first | exact hrel | ((repeat apply Exists.intro); exact ⟨hrel, rfl⟩)
        case measure => simp [intOf]; have := HZ.out; have := hj.out; omega
      | some pr =>
        obtain ⟨u, e⟩ := pr
        have hzd : 0 ≤ z ∧ z < 8 := by
          by_cases hh : 0 ≤ z ∧ z < 8
          · exact hh
          · rw [Gr.goI_dir hh] at hgo; cases hgo
        obtain ⟨d, rfl⟩ := Int.eq_ofNat_of_zero_le hzd.1
        have hd8 : d < 8 := by omega
        obtain rfl : j = d + 1 := by have := HZ.out; omega
        have hat := cnt_at hd8 hgo
        have hcl : (G.aroundTo tt d).length + 1 ≤ m := by
          have := (List.getElem?_eq_some_iff.1 hat).1
          rw [HM.out]; omega
        have hcnt : (G.aroundTo tt (min (d + 1 + 1 - 1) 8)).length = (G.aroundTo tt d).length + 1 := by
          rw [show min (d + 1 + 1 - 1) 8 = d + 1 by omega, Gr.aroundTo_some hgo]; simp
        have HG := hid hgo
        have HAT := hid hat
        have HCN := hid hcnt
        have X6 := hid (X5.out.alloc #[.int .i64 d, .int .i64 u, .int .i64 e] 34)
        clear hgo hat hcnt X5
        unfold goV
        go_wp2_with fail
        generalize w4.alloc _ = w5 at *
        generalize w4.heap.size = b13 at *
        obtain ⟨g2, cg2, h2, -⟩ := gnd_at X6.out 2 rfl
        refine (rgo_any h2 tt d).mono ?_
        rintro r w6 ⟨rfl, hs6⟩
        have X7 := hid (X6.out.go hs6)
        rw [HG.out]
        unfold refV
        have hk := (X7.out.blk 0 rfl).1
        have q0 := cell_of hk 0
        have q1 := cell_of hk 1
        have q2 := cell_of hk 2
        simp only [List.getElem?_toArray, List.getElem?_cons_zero, List.getElem?_cons_succ] at q0 q1 q2
        obtain ⟨gr, cr, e1⟩ := own_shape (X7.out.row 1 rfl).1 (by omega)
        cases e1
        have hrow := (X7.out.row 1 rfl).1
        obtain ⟨r0, r1, r2⟩ := stCs_get _ _ _ HAT.out
        have t0 := (hrow.cellAt ((G.aroundTo tt d).length * 3) (by omega)).trans r0
        have t1 := (hrow.cellAt ((G.aroundTo tt d).length * 3 + 1) (by omega)).trans r1
        have t2 := (hrow.cellAt ((G.aroundTo tt d).length * 3 + 2) (by omega)).trans r2
        have emin : kk = (G.aroundTo tt d).length := by rw [HKK.out, show min (d + 1 - 1) 8 = d by omega]
        dsimp only at t0 t1 t2
        rw [← emin] at t0 t1 t2 hcl HCN
        clear emin
        clear h2 hs6 hk X6 hrow r0 r1 r2 HAT
        have hkb : decide ((m : Int) ≤ (kk : Int)) = false := decide_eq_false (by omega)
        have hcl2 : (kk : Int) < (m : Int) := by omega
        have hkb2 : decide (m ≤ kk) = false := decide_eq_false (by omega)
        go_wp2
        refine wp_region_quiet_lit (by kernel_rfl) (by kernel_rfl) ?_
        repeat (quiet_step (fail))
        with_reducible refine wpQuiet_nil ?_
        rintro _ ⟨nq, rfl⟩
        have X8 := hid (X7.out.go ((Chg.refl _).drewN nq))
        clear q0 q1 q2 t0 t1 t2 X7
        go_wp2
        go_roundw
        case rel =>
          have hrel : ∃ (j' : Nat) (z' : Int), j' ≤ 10 ∧ z' = (j' : Int) - 1 ∧ Value.int .i64 ((d : Int) + 1) = .int .i64 z' ∧ Value.int .i64 ((kk : Int) + 1) = .int .i64 ((G.aroundTo tt (min (j' - 1) 8)).length : Nat) ∧ Star w _ [Row 34 3 (.slice (some ⟨gr, 0, none⟩) m ca) m (stCs (G.aroundI tt)), gndR 63 mm G, gndR 65 p G] := ⟨d + 1 + 1, (d : Int) + 1, by omega, by omega, rfl, by rw [HCN.out]; rfl, X8.out.drop⟩
          first | exact hrel | ((repeat apply Exists.intro); exact ⟨hrel, rfl⟩)
        case measure => simp [intOf]; omega
    · obtain rfl : j = 10 := by have := HJ.out; omega
      have hz9 : z = 9 := by have := HZ.out; omega
      subst hz9
      have hkm : kk = m := by rw [HKK.out, HM.out]; rfl
      rw [hkm]
      clear HKK HJ HZ hkm
      obtain ⟨n, hn⟩ : ∃ n, n = G.fs.length := ⟨_, rfl⟩
      rw [← hn] at hmax
      have HN := hid hn
      clear hn
      go_wp2_with fail
      obtain ⟨g1, cg1, h1, -⟩ := gnd_at X4.out 2 rfl
      refine (len_any h1).mono ?_
      rintro r w4 ⟨rfl, rfl⟩
      rw [← HN.out]
      clear h1
      go_wp2_with fail
      go_loopw [93] (fun iv wr2 => ∃ b : Nat, b ≤ n ∧ iv = .int .i64 b ∧ Star w wr2 [Row 34 3 (.slice aa m ca) m (stCs (G.aroundI tt)), gndR 63 mm G, gndR 65 p G]) (fun iv _ => n - (intOf iv).toNat)
      case atStart => exact ⟨0, by omega, rfl, X4.out⟩
      case round =>
        obtain ⟨b, hb, rfl, hX⟩ := hrel
        have X5 := hid hX
        clear hX X4
        by_cases hbn : b < n
        · cases hht : G.has tt with
          | false =>
            have e0 := (HE10.out.same X5.out.same).c0
            have HH := hid hht
            go_wp2_with fail
            obtain ⟨g1, cg1, h1, -⟩ := gnd_at X5.out 2 rfl
            refine (guess_out h1 tt b (.inl hht) _ e0).mono ?_
            rintro r w5 ⟨rfl, hs5⟩
            have X6 := hid (X5.out.go hs5)
            clear h1 hs5 X5 e0 hht
            go_wp2_with fail
            obtain ⟨g2, cg2, h2, -⟩ := gnd_at X6.out 1 rfl
            refine (rhas_any h2 tt).mono ?_
            rintro r w6 ⟨rfl, rfl⟩
            rw [HH.out]
            clear h2
            go_wp2_with fail
            refine (num ad 1 (by omega) _ (HE10.out.same X6.out.same)).mono ?_
            rintro r w7 ⟨rfl, hs7⟩
            have X7 := hid (X6.out.go hs7)
            clear hs7 X6
            go_wp2
            go_roundw
            case rel =>
              have hrel : ∃ b' : Nat, b' ≤ n ∧ Value.int .i64 ((b : Int) + 1) = .int .i64 b' ∧ Star w _ [Row 34 3 (.slice aa m ca) m (stCs (G.aroundI tt)), gndR 63 mm G, gndR 65 p G] := ⟨b + 1, by omega, by go_num, X7.out⟩
              first | exact hrel | ((repeat apply Exists.intro); exact ⟨hrel, rfl⟩)
            case measure => simp [intOf]; omega
          | true =>
            have htt : 0 ≤ tt ∧ tt < G.fs.length := of_decide_eq_true hht
            obtain ⟨ta, rfl⟩ := Int.eq_ofNat_of_zero_le htt.1
            have htl : ta < G.fs.length := by omega
            have hbl : b < G.fs.length := by have := HN.out; omega
            have HH := hid hht
            go_wp2_with fail
            obtain ⟨g1, cg1, h1, -⟩ := gnd_at X5.out 2 rfl
            refine (guess_in h1 ta b htl hbl).mono ?_
            rintro r w5 ⟨rfl, hs5⟩
            have X6 := hid (X5.out.go hs5)
            clear h1 hs5 X5 hht
            go_wp2_with fail
            obtain ⟨g2, cg2, h2, -⟩ := gnd_at X6.out 1 rfl
            refine (rhas_any h2 ta).mono ?_
            rintro r w6 ⟨rfl, rfl⟩
            rw [HH.out]
            go_wp2_with fail
            refine (rguess_any h2 ta b htl hbl).mono ?_
            rintro r w7 ⟨rfl, hs7⟩
            have X7 := hid (X6.out.go hs7)
            clear hs7 X6 h2
            go_wp2
            go_roundw
            case rel =>
              have hrel : ∃ b' : Nat, b' ≤ n ∧ Value.int .i64 ((b : Int) + 1) = .int .i64 b' ∧ Star w _ [Row 34 3 (.slice aa m ca) m (stCs (G.aroundI ta)), gndR 63 mm G, gndR 65 p G] := ⟨b + 1, by omega, by go_num, X7.out⟩
              first | exact hrel | ((repeat apply Exists.intro); exact ⟨hrel, rfl⟩)
            case measure => simp [intOf]; omega
        · go_wp2
          go_ret
          exact ⟨rfl, X5.out.same⟩
end Go.Proofs.YtnfobdonmkefdaaDoor.StepsAround
