/-
  FieldsAnew: the walk.
-/
import Derived.Test.YtilobedihjkpjaaDoorFsCell
import Derived.Test.YtilobedihjkpjaaDoorNum
import Derived.Deep.CutBlock
import Derived.Deep.DeepCutAuto
namespace Go.Proofs.YtilobedihjkpjaaDoor.FieldsAnew
open Go Go.RowKit Go.Maps Go.Proofs.YtilobedihjkpjaaDoor.Err Go.Proofs.YtilobedihjkpjaaDoor.Steps Go.Proofs.YtilobedihjkpjaaDoor.Ord Go.Proofs.YtilobedihjkpjaaDoor.Route Go.Proofs.YtilobedihjkpjaaDoor.Fld Go.Proofs.YtilobedihjkpjaaDoor.Fs
theorem upd_upd (st : Nat → Option Slot) (k : Nat) (a b : Option Slot) : upd (upd st k a) k b = upd st k b := by
  funext i
  unfold upd
  split <;> rfl
theorem verOf_le (G : Gr) (b : Bool) (l : List Int) (V : Int) : V ≤ verOf G b l V ∧ verOf G b l V ≤ V + 1 := by
  unfold verOf; split <;> omega
/-- Only the field 0 is open. -/
abbrev only (x : Slot) : Nat → Option Slot := upd (fun _ => none) 0 (some x)
section
variable {w0 w : World} {L : List Res} {s gp mb s2 gp2 mb2 : Nat} {G G2 : Gr} {V V2 : Int} {st st2 : Nat → Option Slot}
/-- Two sets: the other one first. -/
theorem setSwap (Y : Star w0 w (setL s2 gp2 mb2 G2 V2 st2 (setL s gp mb G V st L))) : Star w0 w (setL s gp mb G V st (setL s2 gp2 mb2 G2 V2 st2 L)) :=
  Y.perm (show ((setB s2 gp2 mb2 V2 :: gndR 92 gp2 G2 :: mapB mb2 st2 :: slots st2) ++ ((setB s gp mb V :: gndR 92 gp G :: mapB mb st :: slots st) ++ L)).Perm ((setB s gp mb V :: gndR 92 gp G :: mapB mb st :: slots st) ++ ((setB s2 gp2 mb2 V2 :: gndR 92 gp2 G2 :: mapB mb2 st2 :: slots st2) ++ L)) from List.perm_append_comm_assoc _ _ _)
theorem rowSwap {R : Res} (Y : Star w0 w (R :: setL s gp mb G V st (setL s2 gp2 mb2 G2 V2 st2 L))) : Star w0 w (setL s2 gp2 mb2 G2 V2 st2 (setL s gp mb G V st (R :: L))) :=
  setSwap ((setIn Y).perm (show ((setB s gp mb V :: gndR 92 gp G :: mapB mb st :: slots st) ++ (R :: ((setB s2 gp2 mb2 V2 :: gndR 92 gp2 G2 :: mapB mb2 st2 :: slots st2) ++ L))).Perm ((setB s gp mb V :: gndR 92 gp G :: mapB mb st :: slots st) ++ ((setB s2 gp2 mb2 V2 :: gndR 92 gp2 G2 :: mapB mb2 st2 :: slots st2) ++ (R :: L))) from (List.perm_middle.symm).append_left _))
theorem setLift {w1 : World} (Y : Star w0 w L) (X : Star w w1 (setL s gp mb G V st [])) : Star w0 w1 (setL s gp mb G V st L) := by
  have h := Y.lift X
  simpa only [setL, List.append_nil, List.cons_append] using h
end
set_option maxRecDepth 100000 in
set_option maxHeartbeats 16000000 in
theorem walk (g : Grd) (gv : Value) (xs : List Int) (tv : Value) (ls : List (Value × List Int)) (w : World) (hrg : Ints w gv xs) (hbg : xs.length ≤ 9223372036854775807) (hrt : Reads w tv ls.length 1 (ls.map (·.1))) (hls : ∀ l ∈ ls, Ints w l.1 l.2 ∧ l.2.length ≤ maxLen) (hbt : ls.length ≤ 9223372036854775807) (ad : Nat → Addr) (hE : ErrsS w ad) :
    Calls Tryd.prog 5 #[g.v, gv, tv] w fun r w' => r = .returned (.bool true) ∧ Same w w' := by
  obtain ⟨ta, tc, rfl⟩ := hrt.slice
  have HE := hid hE
  have HRG := hid hrg
  have HBG := hid hbg
  have HLS := hid hls
  have HRT := hid hrt
  obtain ⟨n, hn⟩ : ∃ n, n = ls.length := ⟨_, rfl⟩
  have HN := hid hn
  rw [← hn] at hbt HRT ⊢
  have MN := hid (fun (w : World) hg => Fs.made_no (w := w) g [] (.slice none 0 0) (readsNil w) (by simp) hg)
  have MY := hid (fun (w : World) hg h100 hE => Fs.made_yes (w := w) g [] (.slice none 0 0) (readsNil w) (by simp) hg h100 ad hE)
  obtain ⟨b, hb⟩ : ∃ b, b = decide (g.right = true ∧ g.W * g.H ≤ 100) := ⟨_, rfl⟩
  have HBB := hid hb
  have HRN := hid (fun h : g.right = true => right_nat h)
  obtain ⟨W, H, S, X, Y⟩ := g
  unfold Grd.v at *
  simp only at MN MY HRN HBB ⊢
  have Z := hid ((Star.new w).alloc #[.int .i64 W, .int .i64 H, .int .i64 S, .int .i64 X, .int .i64 Y] 23)
  clear hE hrg hbg hls hrt hn hb
  go_enter Tryd.func5, Tryd.ntmps5
  go_wp2_with fail
  generalize w.alloc _ = w1 at *
  generalize w.heap.size = q at *
  refine (Fs.alive_any ad (HE.out.same Z.out.same)).mono ?_
  rintro r w2 ⟨rfl, hs⟩
  have Z2 := hid (Z.out.go hs)
  have hbk := (Z2.out.blk 0 rfl).1
  have hql := lt_of hbk
  have c0 := cell_of hbk 0
  have c1 := cell_of hbk 1
  have c2 := cell_of hbk 2
  have c3 := cell_of hbk 3
  have c4 := cell_of hbk 4
  simp only [List.getElem?_toArray, List.getElem?_cons_zero, List.getElem?_cons_succ] at c0 c1 c2 c3 c4
  clear hbk hs Z
  cases b with
  | false =>
    have hno := of_decide_eq_false HBB.out.symm
    have HNO := hid (show ¬ ((⟨W, H, S, X, Y⟩ : Grd).right = true ∧ W * H ≤ 100 ∧ ([] : List Int).length ≤ 200) from fun h => hno ⟨h.1, h.2.1⟩)
    clear hno
    go_wp2_with fail
    refine (MN.out _ HNO.out).mono ?_
    rintro r w3 ⟨rfl, hs⟩
    have Z3 := hid (Z2.out.go hs).same
    clear hs
    go_wp2
    go_ret
    exact ⟨rfl, Z3.out⟩
  | true =>
    obtain ⟨hyes, h100⟩ := of_decide_eq_true HBB.out.symm
    obtain ⟨W', H', eW, eH, w1', w2', h1', h2'⟩ := HRN.out hyes
    subst eW eH
    have HY := hid hyes
    have H100 := hid h100
    clear hyes h100
    go_wp2_with fail
    refine (MY.out _ HY.out H100.out (HE.out.same Z2.out.same).fld.two).mono ?_
    rintro r w3 ⟨s, gp, mb, m, mg, G, hok, hle, hlen, rfl, hX⟩
    obtain ⟨nn, hnn⟩ : ∃ nn, nn = W' * H' := ⟨_, rfl⟩
    have hn1 : 1 * 1 ≤ W' * H' := Nat.mul_le_mul w1' h1'
    have hmul : (W' : Int) * (H' : Int) = ((W' * H' : Nat) : Int) := by simp
    rw [hmul] at hlen
    have h100 := H100.out
    rw [hmul] at h100
    rw [← hnn] at hn1 hmul h100 hlen
    clear hnn
    have hlen' : G.fs.length = nn := by omega
    have HL := hid hlen'
    have X3 : Hid (Star w w3 (setL s gp mb G 0 (fun _ => none) [Blk q #[.int .i64 W', .int .i64 H', .int .i64 S, .int .i64 X, .int .i64 Y] 23])) := hid (setLift Z2.out (setOut (setOut hX).drop).drop)
    have OKG := hid hok
    clear hX hok hle hlen hlen' MN MY HRN HBB HY H100 Z2 c0 c1 c2 c3 c4 hql
    by_cases h12 : 12 < n
    · go_wp2_with fail
      go_ret
      exact ⟨rfl, X3.out.same⟩
    · go_wp2_with fail
      refine (open_any X3.out xs gv (HRG.out.same X3.out.same) HBG.out ad HE.out.fld _ HE.out.c1).mono ?_
      rintro r w4 hcase
      rcases hcase with ⟨k, x, hgo, -, hk1, hk2, ho, hxG, hxv, hF, rfl, hX⟩ | ⟨-, hfull, -, -⟩ | ⟨ke, -, -, rfl, hX⟩
      · obtain rfl : k = 0 := first_is hk1 hk2 rfl (fun j h => by omega)
        have X4 := hid hX
        have HO := hid ho
        have HGO := hid hgo
        have OK4 := hid ((SOk.new OKG.out).put (k := 0) (by omega) hF hxv hxG)
        clear hX ho hgo hk1 hk2 hxG hxv hF X3
        have hwm : IntKind.i64.wrap (nn : Int) = (nn : Int) := IntWalk.i64_in _ (by omega)
        have hwu : IntKind.u64.wrap (nn : Int) = (nn : Int) := by simp only [IntKind.wrap, IntKind.bits, IntKind.signed]; simp; omega
        go_wp2_with fail
        go_loopw [49] (fun iv wr => ∃ (i : Nat) (GG : Gr) (V : Int) (y : Slot), i ≤ n ∧ iv = .int .i64 i ∧ SOk GG V (only y) ∧ y.gl = x.gl ∧ GG.fs.length = nn ∧ V ≤ 100 * i ∧ Star w wr (setL s gp mb GG V (only y) [Blk q #[.int .i64 W', .int .i64 H', .int .i64 S, .int .i64 X, .int .i64 Y] 23])) (fun iv _ => n - (intOf iv).toNat)
        case atStart => exact ⟨0, G, 0, x, by omega, rfl, OK4.out, rfl, HL.out, by omega, X4.out⟩
        case round =>
          obtain ⟨i, GG, V, y, hi, rfl, hok, hyg, hgl, hV, hX⟩ := hrel
          rename World => wz
          have X5 := hid hX
          have OK := hid hok
          have HYG := hid hyg
          have HGL := hid hgl
          have RY := hid (show Rises (only y) from Rises.put (fun _ _ h => by cases h) 0 (by rw [hyg]; exact HO.out.rise))
          clear hX hok hyg hgl
          by_cases hin : i < n
          · obtain ⟨sb, so, scap, e1, -, hsc⟩ := HRT.out.open (by omega)
            cases e1
            obtain ⟨lp, hlp⟩ : ∃ lp, ls[i]? = some lp := ⟨_, List.getElem?_eq_getElem (by rw [← HN.out]; exact hin)⟩
            have hkc0 := X5.out.same.keep (hsc i lp.1 (by rw [List.getElem?_map, hlp]; rfl))
            have hlpI := HLS.out lp (List.mem_of_getElem? hlp)
            obtain ⟨lv, ll⟩ := lp
            have hlI : Ints w lv ll := hlpI.1
            have hkc : wz.cell? ⟨sb, so + i, none⟩ = some lv := hkc0
            obtain ⟨la, lc, rfl⟩ := hlI.slice
            obtain ⟨lk, hlk⟩ : ∃ lk, lk = ll.length := ⟨_, rfl⟩
            have HLK := hid hlk
            have HLL : Hid (Ints w (.slice la lk lc) ll) := hid (by rw [hlk]; exact hlI)
            rw [← hlk] at hkc
            have hkcl := World.block_lt_of_cell? _ _ hkc
            have HLX : Hid (∀ (j : Nat) (x : Int), ll[j]? = some x → ∃ b off cap, Value.slice la lk lc = .slice (some ⟨b, off, none⟩) lk cap ∧ w.cell? ⟨b, off + j, none⟩ = some (.int .i64 x)) := hid (fun j x hx => by
              obtain ⟨hj, e2⟩ := List.getElem?_eq_some_iff.1 hx
              obtain ⟨b, off, cap, e, _, hc⟩ := HLL.out.cells (by omega)
              rw [← HLK.out] at e
              exact ⟨b, off, cap, e, by rw [← e2]; exact hc j hj⟩)
            clear hsc hlp hkc0 hlpI hlI hlk
            by_cases h50 : 50 < lk
            · go_wp2
              go_ret
              exact ⟨rfl, X5.out.same⟩
            · go_wp2_with fail
              clear hkc hkcl
              go_loopw [59] (fun jv wq => ∃ (j : Nat) (GG : Gr) (V : Int), j ≤ lk ∧ jv = .int .i64 j ∧ SOk GG V (only y) ∧ GG.fs.length = nn ∧ V ≤ 100 * i + j ∧ Star w wq (setL s gp mb GG V (only y) [Blk q #[.int .i64 W', .int .i64 H', .int .i64 S, .int .i64 X, .int .i64 Y] 23])) (fun jv _ => lk - (intOf jv).toNat)
              case atStart => exact ⟨0, GG, V, by omega, rfl, OK.out, HGL.out, by omega, X5.out⟩
              case round =>
                obtain ⟨j, G1, V1, hj, rfl, hok, hgl, hV1, hX⟩ := hrel
                have X6 := hid hX
                have OK1 := hid hok
                have HGL1 := hid hgl
                have hV0 := hok.lo
                clear hX hok hgl
                rename World => wq
                by_cases hjl : j < lk
                · obtain ⟨u, hu⟩ : ∃ u, ll[j]? = some u := ⟨_, List.getElem?_eq_getElem (by have := HLK.out; omega)⟩
                  obtain ⟨b, off, cap, e1, hc⟩ := HLX.out j u hu
                  cases e1
                  have hc1 := X6.out.same.keep hc
                  have hbl := World.block_lt_of_cell? _ _ hc1
                  have hbk := ((setOut X6.out).blk 0 rfl).1
                  have c0 := cell_of hbk 0
                  have c1 := cell_of hbk 1
                  have hql := lt_of hbk
                  simp only [List.getElem?_toArray, List.getElem?_cons_zero, List.getElem?_cons_succ] at c0 c1
                  obtain ⟨mm, hm, hmod⟩ := mod_small u nn (by omega) (by omega)
                  have X7 := hid (X6.out.alloc #[.int .i64 mm] 3)
                  clear hc hu hbk X6
                  go_wp2_with fail
                  have HIN := hid (show ∀ t ∈ [(mm : Int)], 0 ≤ t ∧ t < (G1.fs.length : Int) from fun t ht => by simp only [List.mem_singleton] at ht; subst ht; rw [HGL1.out]; omega)
                  refine (change_any X7.out ⟨hV0, by omega⟩ _ _ [(mm : Int)] (fun h => reads_blk (h.blk 0 rfl).1 1 1 1 rfl) (by simp) _ HE.out.c0).mono ?_
                  rintro r w8 hcase
                  rcases hcase with ⟨-, rfl, hX⟩ | ⟨⟨t, ht, hbad⟩, -⟩
                  · have X8 := hid hX.drop
                    clear hX X7
                    go_wp2
                    go_roundw
                    case rel => exact ⟨j + 1, _, _, by omega, by go_num, OK1.out.turn _ _ HIN.out, by rw [turns_len]; exact HGL1.out, by have := (verOf_le G1 (((i : Nat) : Int) % 2 == 1) [(mm : Int)] V1).2; push_cast; omega, X8.out⟩
                    case measure => simp [intOf]; omega
                  · exact absurd (HIN.out t ht) hbad
                · clear HLL HLX
                  go_wp2_with fail
                  refine (read_yes 0 X6.out OK1.out RY.out 0 y (upd_same _ _ _) (by rw [HGL1.out]; omega)).mono ?_
                  rintro r w8 ⟨y', hya, hyG, hyg, hyv, hF, rfl, hX⟩
                  have X8 := hid ((hX.alloc #[.int .i64 (cAt y'.c 0), .int .i64 (G1.dirOf y'.c 0)] 41).drop)
                  have OK8 := hid (OK1.out.put (k := 0) (x := y') (by omega) (by rw [hyG, hyg]; exact hF) hyv hyG)
                  have HYG8 := hid (hyg.trans HYG.out)
                  rw [upd_upd] at X8 OK8
                  clear hX hya hyG hyg hyv hF X6
                  go_wp2
                  go_roundw
                  case rel => exact ⟨i + 1, G1, V1, y', by omega, by go_num, OK8.out, HYG8.out, HGL1.out, by push_cast; omega, X8.out⟩
                  case measure => simp [intOf]; omega
          · go_wp2_with fail
            refine (ground_any X5.out).mono ?_
            rintro r w6 ⟨p2, rfl, hX⟩
            obtain ⟨pg, pc, hG, -⟩ := gnd_at hX 0 rfl
            have HG := hid hG
            have X6 := hid hX
            clear hX hG X5
            go_wp2_with fail
            refine (Fs.new_any HG.out).mono ?_
            rintro r w7 ⟨s2, gp2, mb2, rfl, hX⟩
            have X7 := hid (setLift X6.out.drop hX)
            clear hX X6 HG
            go_wp2_with fail
            have HGO2 := hid (show GoalsOk GG xs from ⟨HGO.out.1, HGO.out.2.1, by rw [HGL.out, ← HL.out]; exact HGO.out.2.2⟩)
            refine (open_any X7.out xs gv (HRG.out.same X7.out.same) HBG.out ad HE.out.fld _ HE.out.c1).mono ?_
            rintro r w8 hcase
            rcases hcase with ⟨k, z, -, -, hk1, hk2, hoz, hzG, hzv, hF, rfl, hX⟩ | ⟨-, hfull, -, -⟩ | ⟨ke, hno, -⟩
            · obtain rfl : k = 0 := first_is hk1 hk2 rfl (fun j h => by omega)
              have hzg : z.gl = x.gl := rise_eq hoz.rise HO.out.rise (fun t => (hoz.mem t).trans (HO.out.mem t).symm)
              have X8 := hid (setSwap hX)
              have HZG := hid hzg
              have OKZ := hid ((SOk.new OK.out.ok).put (k := 0) (by omega) hF hzv hzG)
              have RZ := hid (show Rises (only z) from Rises.put (fun _ _ h => by cases h) 0 hoz.rise)
              clear hX hk1 hk2 hoz hzG hzv hF hzg X7
              go_wp2_with fail
              refine (flat_yes X8.out OK.out RY.out 0 y (upd_same _ _ _)).mono ?_
              rintro r w9 ⟨y', v1, -, -, -, -, hF1, rfl, hX⟩
              obtain ⟨va, vc, rfl, -⟩ := own_slice (hX.row 0 rfl).1
              have S9 := hid hX.same
              have X9 := hid (rowSwap hX)
              have HF1 := hid hF1
              clear hX hF1 X8
              go_wp2_with fail
              refine (flat_yes (w0 := w) X9.out OKZ.out RZ.out 0 z (upd_same _ _ _)).mono ?_
              rintro r w10 ⟨z', v2, -, -, -, -, hF2, rfl, hX⟩
              obtain ⟨vb, vd, rfl, -⟩ := own_slice (hX.row 0 rfl).1
              have hcc : z'.c = y'.c := Least.unique (show Least GG (goalsOf x.gl) z'.c from HZG.out ▸ hF2.least) (show Least GG (goalsOf x.gl) y'.c from HYG.out ▸ HF1.out.least)
              rw [hcc] at hX ⊢
              have R2 := hid (Reads.of_own (hX.row 0 rfl).1)
              have R1 := hid (Reads.of_own (hX.row 15 rfl).1)
              have S10 := hid hX.same
              have hfl : (flatI (GG.cells y'.c GG.fs.length)).length ≤ 9223372036854775807 := by rw [flatI_len, Gr.cells_len, HGL.out]; omega
              have HFL := hid hfl
              clear hX hF2 X9 hcc hfl
              go_wp2_with fail
              refine (Num.sameInts _ _ _ _ _ R1.out R2.out HFL.out HFL.out).mono ?_
              rintro r w11 ⟨rfl, hs⟩
              have S11 := hid (Chg.trans (S := fun _ => False) S10.out hs (fun _ _ f => f))
              clear hs
              rw [decide_eq_true rfl]
              go_wp2
              go_ret
              exact ⟨rfl, S11.out⟩
            · have := hfull 0 (by omega); cases this
            · exact absurd HGO2.out hno
      · have := hfull 0 (by omega); cases this
      · have X4 := hid hX
        clear hX X3
        go_wp2
        go_ret
        exact ⟨rfl, X4.out.same⟩
end Go.Proofs.YtilobedihjkpjaaDoor.FieldsAnew
