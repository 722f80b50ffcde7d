/-
  HandlesOnce: the walk.
-/
import Derived.Deep.CutBlock
import Derived.Deep.DeepCutAuto
import Derived.Test.YtminjgfobcnmhaaDoorOnceP
import Derived.Test.YtminjgfobcnmhaaDoorErr
namespace Go.Proofs.YtminjgfobcnmhaaDoor.HandlesOnce
open Go Go.RowKit Go.Proofs.YtminjgfobcnmhaaDoor.Pool Go.Proofs.YtminjgfobcnmhaaDoor.HandlesBack

/-- What the loop keeps, in memory too. -/
def Round (w wr : World) (p b1 b2 : Nat) (lv : Value) (j : Nat) : Prop := ∃ (S : List Slot) (f : List Nat) (c : Int) (hs : List Hand) (m n1 n2 : Nat) (g1 g2 : Lit → Option Bool), m = hs.length ∧ n1 ≤ j ∧ n2 ≤ j ∧ Keeps S f c hs g1 g2 j ∧
  Star w wr [PoolR p S f c, Row 42 2 lv m (hs.flatMap hl), MapR Tryd.prog 42 boolE b1 n1 g1, MapR Tryd.prog 42 boolE b2 n2 g2]

set_option maxRecDepth 100000 in
set_option maxHeartbeats 4000000 in
theorem walk (os : List OpH) (v : Value) (w : World) (hr : Ops w v os) (hlo : os.length ≤ 9223372036854775807) (ad : Nat → Addr) (hE : Err.Errs w ad) :
    Calls Tryd.prog 8 #[v] w fun r w' => r = .returned (.bool true) ∧ Same w w' := by
  obtain ⟨i0, hi0, hz0, hz1, hz2⟩ := info_parts infoH
  obtain ⟨a, ca, rfl⟩ := hr.slice
  have HR := hid hr
  have HE := hid hE
  obtain ⟨n, hn⟩ : ∃ n, n = os.length := ⟨_, rfl⟩
  rw [← hn] at hlo
  simp only [← hn] at HR ⊢
  have HN := hid hn
  have hmm := @run_makeMap Tryd.prog
  clear hr hE hn
  go_enter Tryd.func8, Tryd.ntmps8
  go_wp2_with fail
  refine (alive _).mono ?_
  rintro r w1 ⟨rfl, hs1⟩
  have X1 := hid ((Star.new w).go hs1)
  clear hs1
  by_cases h1 : 150 < n
  · go_wp2
    go_ret
    exact ⟨rfl, X1.out.same⟩
  go_wp2_with fail
  refine (new_any X1.out).mono ?_
  rintro r w2 ⟨p, rfl, hX⟩
  have X2 := hid ((hX.mapNew Tryd.prog 42 boolE).mapNew Tryd.prog 42 boolE)
  have X3 := hid (X2.out.add (w' := ((w2.alloc (.map #[] 0)).alloc (.map #[] 0)).alloc (.cells #[] 42)) ((Chg.refl _).alloc _) (R := Row 42 2 (.slice (some ⟨((w2.alloc (.map #[] 0)).alloc (.map #[] 0)).heap.size, 0, none⟩) 0 0) 0 []) ⟨World.ownsRow_lit (base := 0) _ #[] 0 (Nat.zero_le _) (by unfold maxLen; omega) rfl, rfl⟩ (fun k h => by simp only [Value.ownBlock, Option.some.injEq] at h; omega))
  have X4 := hid (((X3.out.pull 1 rfl).pull 2 rfl).pull 2 rfl |>.pull 3 rfl)
  clear hX X1 X2 X3
  go_wp2_with fail
  clear hmm
  simp only [World.size_alloc] at X4 ⊢
  generalize w2.heap.size = b1 at *
  go_loopw [6, 25] (fun lv iv wr => ∃ (j : Nat), j ≤ n ∧ iv = .int .i64 j ∧ Round w wr p b1 (b1 + 1) lv j) (fun _ iv _ => n - (intOf iv).toNat)
  case atStart => exact ⟨0, by omega, rfl, [], [], 0, [], 0, 0, 0, _, _, rfl, by omega, by omega, Keeps.new, X4.out⟩
  case round =>
    obtain ⟨j, hj, rfl, S, f, c, hs, m, n1, n2, g1, g2, hm, hn1, hn2, hK, hX⟩ := hrel
    have X := hid hX
    have K := hid hK
    have HM := hid hm
    have hm128 : m ≤ 128 := by have := hK.lv.len; have := hK.ok.len; omega
    obtain ⟨al, cl, rfl, -⟩ := own_slice (hX.row 1 rfl).1
    clear hX hK hm X4
    by_cases hjn : j < n
    · obtain ⟨b, off, cap, e1, hb, hcl⟩ := HR.out.open (by have := HN.out; omega)
      have hjo : j < os.length := by have := HN.out; omega
      obtain ⟨o, ho⟩ : ∃ o, os[j]? = some o := ⟨_, List.getElem?_eq_getElem hjo⟩
      have g0 := X.out.keepCell (hcl (j * 4 + 0) _ ((rows_get OpH.cells OpH.len os j 0 o ho (by omega)).trans rfl))
      have g1' := X.out.keepCell (hcl (j * 4 + 1) _ ((rows_get OpH.cells OpH.len os j 1 o ho (by omega)).trans rfl))
      have g2' := X.out.keepCell (hcl (j * 4 + 2) _ ((rows_get OpH.cells OpH.len os j 2 o ho (by omega)).trans rfl))
      have g3' := X.out.keepCell (hcl (j * 4 + 3) _ ((rows_get OpH.cells OpH.len os j 3 o ho (by omega)).trans rfl))
      rw [Nat.add_zero] at g0
      rw [← Nat.add_assoc] at g1' g2' g3'
      obtain ⟨kind, on, oi, og⟩ := o
      cases e1
      clear hcl ho
      obtain ⟨B, hB⟩ : ∃ B, B = decide (kind = 2 ∧ 0 < m) := ⟨_, rfl⟩
      have HB := hid hB
      clear hB
      go_upto_region 11 with (fail)
      go_cut [36] (fun s36 wx => s36 = .bool B ∧ wx = (wr.alloc (.cells #[.int .i64 kind, .int .i64 on, .int .i64 oi, .int .i64 og] 44)))
      case first =>
        by_cases k1 : kind = 2
        · by_cases k2 : 0 < m
          · subst k1
            go_wp2
            go_meet
            exact ⟨by rw [HB.out, decide_eq_true (by first | exact ⟨rfl, k2⟩ | exact ⟨trivial, k2⟩)], by first | rfl | trivial⟩
          · subst k1
            have hm0 : m = 0 := by omega
            subst hm0
            go_wp2
            go_meet
            exact ⟨by rw [HB.out]; rfl, by first | rfl | trivial⟩
        · have k1' : (kind == 2) = false := by simpa using k1
          have hd : decide (kind = 2 ∧ 0 < m) = false := decide_eq_false (fun h => k1 h.1)
          have HD := hid hd
          clear k1 hd
          go_wp2
          go_meet
          exact ⟨by rw [HB.out, HD.out], by first | rfl | trivial⟩
      case rest =>
        obtain ⟨rfl, rfl⟩ := hcut
        have X3 := hid (X.out.go (w' := wr.alloc (.cells #[.int .i64 kind, .int .i64 on, .int .i64 oi, .int .i64 og] 44)) ((Chg.refl _).alloc _))
        have hbk : wr.heap.size < (wr.alloc (.cells #[.int .i64 kind, .int .i64 on, .int .i64 oi, .int .i64 og] 44)).heap.size := by simp
        have o1 : (wr.alloc (.cells #[.int .i64 kind, .int .i64 on, .int .i64 oi, .int .i64 og] 44)).cell? ⟨wr.heap.size, 1, none⟩ = some (.int .i64 on) := cell_of (alloc_new _ _) 1
        clear g0 g1' g2' g3' X
        generalize wr.alloc _ = w3 at *
        generalize wr.heap.size = q3 at *
        go_upto_if 36 with (fail)
        go_cut [6] (fun lv wx => Round w wx p b1 (b1 + 1) lv (j + 1))
        case first =>
          cases B with
          | true =>
            have hm0 : 0 < m := (of_decide_eq_true HB.out.symm).2
            obtain ⟨t, hti, hmod⟩ := mod_small on m hm0 (by omega)
            obtain ⟨⟨hx, hg⟩, hh⟩ : ∃ h, hs[t]? = some h := ⟨_, List.getElem?_eq_getElem (by have := HM.out; omega)⟩
            obtain ⟨k, hk1, hk2⟩ := K.out.lv.all _ (List.mem_of_getElem? hh)
            simp only at hk1 hk2
            subst hk1
            obtain ⟨hwf, hdead, hKn⟩ := K.out.free hh hk2
            have hrow := X3.out.row 1 rfl
            obtain ⟨gu, cu, e3⟩ := own_shape hrow.1 (by omega)
            cases e3
            have e0 : w3.cell? ⟨gu, t * 2, none⟩ = some (.int .i64 k) := (hrow.1.cellAt (t * 2) (by omega)).trans ((rows_get hl hl_len hs t 0 _ hh (by omega)).trans rfl)
            have e1 : w3.cell? ⟨gu, t * 2 + 1, none⟩ = some (.int .i64 hg) := (hrow.1.cellAt (t * 2 + 1) (by omega)).trans ((rows_get hl hl_len hs t 1 _ hh (by omega)).trans rfl)
            have hgl := (hrow.1.lt gu rfl).2
            have HK := hid hk2
            have HH := hid hh
            have HW := hid hwf
            have HD := hid hdead
            have KN := hid hKn
            clear hrow hh hk2 hwf hdead hKn
            have X4 := hid (X3.out.alloc #[.int .i64 k, .int .i64 hg] 42)
            go_wp2_with fail
            clear e0 e1 hgl o1 hbk
            generalize w3.alloc _ = w4 at *
            generalize w3.heap.size = q4 at *
            have hrow := (X4.out.row 2 rfl).1
            have hcap := own_cap hrow
            have hsrc := (Reads.of_own hrow).rest (t + 1) (cl - (t + 1)) (by omega) hcap
            rw [Nat.zero_add] at hsrc
            have hhead := own_take hrow t (by omega)
            have HHEAD := hid hhead
            have HSRC := hid hsrc
            have hw1 : IntKind.i64.wrap ((t : Int) + 1) = (t : Int) + 1 := IntWalk.i64_in _ (by omega)
            have hw2 : (0 : Int) ≤ (t : Int) + 1 := by omega
            have hw3 : ((t : Int) + 1).toNat = t + 1 := by omega
            have hw4 : t + 1 ≤ m := by omega
            have hw5 : t + 1 ≤ cl := by omega
            have hw6 : t ≤ cl := by omega
            have hw7 : (t : Int) + 1 ≤ (m : Int) := by omega
            have hw8 : (t : Int) + 1 ≤ (cl : Int) := by omega
            have hw9 : (t : Int) ≤ (cl : Int) := by omega
            have HUB := hid (rows_one hl hl_one hs)
            clear hrow hsrc hhead hcap
            go_region_law (refine step_app rfl (.tmp 51) (.tmp 55) 45 rfl 42 i0 (.agg #[.int .i64 0, .int .i64 0]) 2 16 Tryd.underlying45 hi0 hz0 hz1 hz2 rfl (by decide) (.slice (some ⟨gu, 0, none⟩) t cl) t ((hs.flatMap hl).take (t * 2)) (by simp [Act.eval, Act.put]) (by exact own_chg (S := fun _ => False) HHEAD.out (by repeat (first | exact Chg.refl _ | refine Chg.drew ?_)) (fun _ _ f => f)) (if cl = t + 1 then some ⟨gu, 0, none⟩ else some ⟨gu, (t + 1) * 2, none⟩) (m - (t + 1)) (cl - (t + 1)) ((hs.flatMap hl).drop ((t + 1) * 2)) (by simp [Act.eval, Act.put]) (by exact HSRC.out.same (by repeat (first | exact Chg.refl _ | refine Chg.drew ?_))) (fun u hu => HUB.out u (List.mem_of_mem_drop hu)) (by omega) (by omega) ?_; intro a8 c8 w8; rw [show t + (m - (t + 1)) = m - 1 from by omega]; intro ho8 hg8 hn8)
            have hle : m - 1 = (hs.eraseIdx t).length := by rw [List.length_eraseIdx]; have := HM.out; split <;> omega
            rw [rows_take hl hl_len, rows_drop hl hl_len, ← List.flatMap_append, ← List.eraseIdx_eq_take_drop_succ] at ho8
            have X8 := hid ((X4.out.go (by repeat (first | exact Chg.refl _ | refine Chg.drew ?_))).grown 2 rfl ho8 hg8 hn8)
            have HLE := hid hle
            clear ho8 hg8 hn8 hle HHEAD HSRC HUB hw1 hw2 hw3 hw4 hw5 hw6 hw7 hw8 hw9 X4 X3
            have hb8 := (X8.out.blk 0 rfl).1
            have c0 := cell_of hb8 0
            have c1 := cell_of hb8 1
            have clt := lt_of hb8
            simp only [List.getElem?_toArray, List.getElem?_cons_zero, List.getElem?_cons_succ] at c0 c1
            clear hb8
            go_wp2_with (first
              | (at_mapUpdate; refine wpList_storeO rfl _ _ _ rfl keyed Tryd.underlying66 rfl (X8.out.map 4 rfl).1 (by omega) _ (keyH ((k : Int), hg)) true rfl rfl (keyH_ok _ HW.out) ?_; intro w9 n9 hn9 hM9 hC9; have hn9' : n9 ≤ n2 + 1 := (by rw [hn9]; split <;> omega); clear hn9; have X9 : Hid (Star w w9 [PoolR p S f c, Blk q4 #[.int .i64 k, .int .i64 hg] 42, Row 42 2 (.slice a8 (m - 1) c8) (m - 1) ((hs.eraseIdx t).flatMap hl), MapR Tryd.prog 42 boolE b1 n1 g1, MapR Tryd.prog 42 boolE (b1 + 1) n9 (updO g2 (keyH ((k : Int), hg)) (some true))]) := hid ((X8.out.mapSet 4 rfl hM9 hC9).pull 1 rfl); have hb8 := (X9.out.blk 1 rfl).1; clear c0 c1 clt; have c0 := cell_of hb8 0; have c1 := cell_of hb8 1; have clt := lt_of hb8; simp only [List.getElem?_toArray, List.getElem?_cons_zero, List.getElem?_cons_succ] at c0 c1; clear hb8 hM9 hC9 X8)
              | (go_at_call 22; refine (free_live X9.out K.out.ok HK.out).mono ?_; rintro r w10 ⟨rfl, hX⟩; have X10 := hid hX; clear hX X9 c0 c1 clt; have hb8 := (X10.out.blk 1 rfl).1; have c0 := cell_of hb8 0; have c1 := cell_of hb8 1; have clt := lt_of hb8; simp only [List.getElem?_toArray, List.getElem?_cons_zero, List.getElem?_cons_succ] at c0 c1; clear hb8)
              | (go_at_call 22; refine (free_no X10.out _ HD.out _ HE.out.c2).mono ?_; rintro r w11 ⟨rfl, hs11⟩; have X11 := hid (X10.out.go hs11); clear hs11 X10 c0 c1 clt)
              | (go_at_call 29; refine (Err.num ad 3 (by omega) _ (HE.out.same X11.out.same)).mono ?_; rintro r w12 ⟨rfl, hs12⟩; have X12 := hid (X11.out.go hs12); clear hs12 X11))
            all_goals
              go_meet
              exact ⟨_, _, _, _, _, _, _, _, _, HLE.out, by omega, by omega, KN.out, X12.out.swap.drop⟩
          | false =>
            have hcase : takeM S f = none ∨ ∃ h S2 f2, takeM S f = some (h, S2, f2) := by
              cases takeM S f with
              | none => exact .inl rfl
              | some x => exact .inr ⟨x.1, x.2.1, x.2.2, rfl⟩
            clear o1 hbk HB
            rcases hcase with ht | ⟨h, S2, f2, ht⟩
            · have hfull := K.out.full (by omega) ht
              have hm8 : m = 128 := by rw [HM.out]; exact hfull
              subst hm8
              have HT := hid ht
              clear ht hfull
              go_wp2_with fail
              refine (take_none X3.out K.out.ok HT.out _ HE.out.c1 ⟨_, _, rfl⟩).mono ?_
              rintro r w4 ⟨rfl, hX⟩
              have X4 := hid (hX.go (w' := w4.alloc (.cells #[.int .i64 0, .int .i64 0] 42)) ((Chg.refl _).alloc _))
              clear hX X3
              go_wp2
              go_meet
              exact ⟨_, _, _, _, _, _, _, _, _, HM.out, by omega, by omega, K.out.more, X4.out⟩
            · have HT := hid ht
              obtain ⟨hwf, hg1, hg2, hKn⟩ := K.out.take ht
              have HW := hid hwf
              have KN := hid hKn
              have G1 := hid hg1
              have G2 := hid hg2
              clear ht hwf hg1 hg2 hKn
              obtain ⟨hx, hg⟩ := h
              go_wp2_with fail
              refine (take_some X3.out K.out.ok HT.out).mono ?_
              rintro r w4 ⟨rfl, hX⟩
              have X4 := hid (hX.alloc #[.int .i64 hx, .int .i64 hg] 42)
              clear hX X3
              have hb4 := (X4.out.blk 0 rfl).1
              have c0 : (w4.alloc (.cells #[.int .i64 hx, .int .i64 hg] 42)).cell? ⟨w4.heap.size, 0, none⟩ = some (.int .i64 hx) := cell_of hb4 0
              have c1 : (w4.alloc (.cells #[.int .i64 hx, .int .i64 hg] 42)).cell? ⟨w4.heap.size, 1, none⟩ = some (.int .i64 hg) := cell_of hb4 1
              have clt := lt_of hb4
              clear hb4
              have M3 := hid (X4.out.map 3 rfl).1
              have M4 := hid (X4.out.map 4 rfl).1
              have KY := hid (keyH_ok (hx, hg) HW.out)
              go_wp2_with (first
                | (at_lookup; refine wpList_lookO rfl _ _ rfl keyed Tryd.underlying66 (.bool false) zeroB rfl M3.out (.agg #[.int .i64 hx, .int .i64 hg]) (keyH (hx, hg)) ?_ KY.out (.bool false) ?_ ?_; rfl; (rw [G1.out]; rfl))
                | (at_lookup; refine wpList_lookO_want (by rfl) _ _ rfl keyed Tryd.underlying66 (.bool false) zeroB rfl M4.out (.agg #[.int .i64 hx, .int .i64 hg]) (keyH (hx, hg)) ?_ KY.out (.bool false) ?_ ?_; rfl; (rw [G2.out]; rfl))
                | (at_mapUpdate; refine wpList_storeO rfl _ _ _ rfl keyed Tryd.underlying66 rfl M3.out (by omega) (.agg #[.int .i64 hx, .int .i64 hg]) (keyH (hx, hg)) true rfl rfl KY.out ?_; intro w5 n5 hn5 hM5 hC5; have hn5' : n5 ≤ n1 + 1 := (by rw [hn5]; split <;> omega); clear hn5; have X5 := hid (X4.out.mapSet 3 rfl hM5 hC5); have hb5 := (X5.out.blk 0 rfl).1; clear hM5 hC5 X4 c0 c1 clt M3 M4; have c0 := cell_of hb5 0; have c1 := cell_of hb5 1; have clt := lt_of hb5; simp only [List.getElem?_toArray, List.getElem?_cons_zero, List.getElem?_cons_succ] at c0 c1; clear hb5; have hrow := hid (X5.out.row 2 rfl).1)
                | (at_builtin; go_loud (refine wpList_app rfl _ _ 45 rfl 42 i0 (.agg #[.int .i64 0, .int .i64 0]) 2 16 Tryd.underlying45 hi0 hz0 hz1 hz2 rfl (by decide) _ m (hs.flatMap hl) rfl (own_chg (S := fun _ => False) hrow.out (by repeat (first | exact Chg.refl _ | refine Chg.drew ?_ | refine Chg.alloc _ ?_)) (fun _ _ f => f)) (some _) 1 1 (hl (hx, hg)) rfl (reads_blk (cs := #[.int .i64 hx, .int .i64 hg]) (E := 42) (f := (0, 0)) (by first | exact alloc_new _ _ | exact alloc2_new _ _ _) 1 1 2 rfl) (hl_one _) (by omega) (by omega) ?_); intro a7 c7 w7 ho7 hg7 hn7; have X7 := hid ((X5.out.go (by repeat (first | exact Chg.refl _ | refine Chg.drew ?_ | refine Chg.alloc _ ?_))).grown 2 rfl ho7 hg7 hn7); clear ho7 hg7 hn7 hrow X5 c0 c1 clt))
              go_meet
              refine ⟨S2, f2, _, _, m + 1, n5, n2, _, _, ?_, by omega, by omega, KN.out, ?_⟩
              rotate_left
              · have h := X7.out.drop
                rw [show hs.flatMap hl ++ hl (hx, hg) = (hs ++ [(hx, hg)]).flatMap hl by simp] at h
                exact h
              · rw [List.length_append, ← HM.out]; rfl
        case rest =>
          clear K HM hn1 hn2 hm128 X3 hbk o1 HB
          obtain ⟨S, f, c, hs, m, n1, n2, g1, g2, hm, hn1, hn2, hK, hX⟩ := hcut
          obtain ⟨al, cl, rfl, -⟩ := own_slice (hX.row 1 rfl).1
          have X4 := hid hX
          have K := hid hK
          have hcm : c = m := by rw [hm]; exact hK.cnt
          have HM := hid hm
          have HCM := hid hcm
          clear hX hK hm hcm
          go_wp2_with (at_range; refine wpList_rangeO rfl _ rfl keyed Tryd.underlying66 rfl (X4.out.map 3 rfl).1 ?_)
          intro w5 left cnt hR _ hs5
          have X5 := hid (X4.out.rangeNew 3 rfl hR (Nat.le_refl _) hs5)
          clear hR hs5 X4
          generalize wc.heap.size = rr at *
          go_wp2_with fail
          go_loopw [13] (fun _ wy => ∃ left cnt, Star w wy [PoolR p S f c, Row 42 2 (.slice al m cl) m (hs.flatMap hl), MapR Tryd.prog 42 boolE b1 n1 g1, RangeR Tryd.prog 42 boolE (b1 + 1) rr n2 g2 left cnt]) (fun _ wy => wy.rangeLeft (b1 + 1) rr)
          case atStart => exact ⟨left, cnt, X5.out⟩
          case round =>
            obtain ⟨left, cnt, hX⟩ := hrel
            have X := hid hX
            have hR := hX.range 3 rfl
            clear hX X5
            go_wp2_with (at_next; refine wpList_nextO rfl _ rfl keyed rfl hR ?_ ?_)
            · intro _
              clear hR
              have X6 : Hid (Star w wr [PoolR p S f c, Row 42 2 (.slice al m cl) m (hs.flatMap hl), MapR Tryd.prog 42 boolE b1 n1 g1, MapR Tryd.prog 42 boolE (b1 + 1) n2 g2]) := hid (X.out.rangeEnd 3 rfl)
              clear X
              go_wp2_with fail
              refine (count_any X6.out).mono ?_
              rintro r w7 ⟨rfl, rfl⟩
              rw [HCM.out]
              go_wp2
              go_roundw
              case rel =>
                have hrel : ∃ j' : Nat, j' ≤ os.length ∧ Value.int .i64 ((j : Int) + 1) = .int .i64 j' ∧ Round w wr p b1 (b1 + 1) (.slice al m cl) j' := ⟨j + 1, by omega, by go_num, _, _, _, _, _, _, _, _, _, HM.out, hn1, hn2, K.out, X6.out⟩
                first | exact hrel | ((repeat apply Exists.intro); exact ⟨hrel, rfl⟩)
              case measure => simp [intOf]; omega
            · intro x v kl w6 cnt' hk _ hy' hR' hlt hc hen
              obtain ⟨y, hy, rfl⟩ := hy'
              have X6 := hid (X.out.rangeSet 3 rfl hR' hc)
              obtain ⟨h, he, hG⟩ := K.out.dead kl y hy
              have hx : x = hv h := keyed.inj (hk.trans (by rw [he])) (keyH_ok h hG.1)
              subst hx
              have HD := hid hG.dead
              have LT := hid hlt
              have RC := hid hR.cnt
              have RC' := hid hR'.cnt
              obtain ⟨hx, hg⟩ := h
              clear hR hR' hlt hc hk hy he hG X
              go_wp2_with fail
              refine (lives_any (X6.out.go ((Chg.refl _).alloc (.cells #[.int .i64 hx, .int .i64 hg] 42))) (hx, hg)).mono ?_
              rintro r w7 ⟨rfl, hs7⟩
              rw [HD.out]
              have X7 := hid ((X6.out.go ((Chg.refl _).alloc (.cells #[.int .i64 hx, .int .i64 hg] 42))).go hs7)
              have RC7 := hid (X7.out.range 3 rfl).cnt
              clear hs7 X6
              go_wp2
              go_roundw
              case rel => exact ⟨_, cnt', X7.out⟩
              case measure => rw [RC.out, RC7.out]; exact LT.out
    · go_wp2
      go_ret
      exact ⟨rfl, X.out.same⟩
end Go.Proofs.YtminjgfobcnmhaaDoor.HandlesOnce
