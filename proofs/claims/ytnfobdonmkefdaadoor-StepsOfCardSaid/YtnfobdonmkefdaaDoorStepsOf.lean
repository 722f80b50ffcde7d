/-
  StepsOf: the walk.
-/
import Derived.Test.YtnfobdonmkefdaaDoorAlive16
import Derived.Test.YtnfobdonmkefdaaDoorStepBlocked
import Derived.Test.YtnfobdonmkefdaaDoorRefIs
import Derived.Test.YtnfobdonmkefdaaDoorNum
import Derived.Test.YtnfobdonmkefdaaDoorKept
namespace Go.Proofs.YtnfobdonmkefdaaDoor.StepsOf
open Go Go.RowKit Go.Proofs.YtnfobdonmkefdaaDoor.Err Go.Proofs.YtnfobdonmkefdaaDoor.Steps

theorem nC_reads {w : World} {v : Value} {l : List Nat} (h : Reads w v l.length 1 (nC l)) : Ints w v (l.map Int.ofNat) := by
  show Reads w v (l.map Int.ofNat).length 1 ((l.map Int.ofNat).map (Value.int .i64))
  rw [List.length_map, ← nC_ints]
  exact h
abbrev copyR (g cp : Nat) (xs : List Int) : Res := Row 3 1 (.slice (some ⟨g, 0, none⟩) (xs.length + 4) cp) (xs.length + 4) ((xs ++ Num.marks).map (Value.int .i64))

set_option maxRecDepth 100000 in
set_option maxHeartbeats 8000000 in
theorem walk (g : Grd) (bl : List Int) (v : Value) (tt : Int) (w : World) (hr : Ints w v bl) (hbl : bl.length ≤ 9223372036854775807) (ad : Nat → Addr) (hE : Errs w ad) :
    Calls Tryd.prog 8 #[g.v, v, .int .i64 tt] w fun r w' => r = .returned (.bool true) ∧ Same w w' := by
  obtain ⟨i0, hi0, hz0, hz1, hz2⟩ := info_parts infoI2
  have HE10 := hid hE
  replace hE := hE.five
  obtain ⟨a, cb, rfl⟩ := hr.slice
  have HE := hid hE
  have HR := hid hr
  have HR14 := hid (Grd.right14 g)
  have HOF := hid (fun (hg : g.right = true) (w' : World) (v : Value) (hr : Ints w' v bl) (hb : bl.length ≤ 1000000) (hE : Errs5 w' ad) => of_any (w := w') g hg bl v hr hb ad hE)
  have HFORM := hid (fun (hg : g.right = false) (w' : World) (a : Option Addr) (n c : Nat) (hE : Errs5 w' ad) => of_form (w := w') g hg a n c ad hE)
  have HNEW := hid (fun (hg : g.right = true) (w' : World) (v : Value) (hr : Ints w' v bl) (hb : bl.length ≤ 1000000) => new_any (w := w') g hg bl v hr hb)
  have HNAT := hid (fun (hg : g.right = true) => right_nat hg)
  obtain ⟨rb, hrb⟩ : ∃ rb, rb = g.right := ⟨_, rfl⟩
  rw [← hrb] at HR14 HOF HFORM HNEW HNAT
  clear hrb
  obtain ⟨W, H, S, X, Y⟩ := g
  unfold Grd.v at *
  simp only at HR14 HOF HFORM HNEW HNAT ⊢
  obtain ⟨l, hl⟩ : ∃ l, l = bl.length := ⟨_, rfl⟩
  have HB2 : Hid (∀ j (hj : j < bl.length), ∃ b off cap, Value.slice a l cb = .slice (some ⟨b, off, none⟩) l cap ∧ w.cell? ⟨b, off + j, none⟩ = some (.int .i64 bl[j])) := hid (fun j hj => by
    obtain ⟨b, off, cap, e, _, hc⟩ := hr.cells (by omega)
    rw [← hl] at e
    exact ⟨b, off, cap, e, hc j hj⟩)
  have HRL : Hid (Ints w (.slice a l cb) bl) := hid (by rw [hl]; exact hr)
  have HL := hid hl
  rw [← hl] at hbl ⊢
  have Z := hid ((Star.new w).alloc #[.int .i64 W, .int .i64 H, .int .i64 S, .int .i64 X, .int .i64 Y] 23)
  clear hE hr hl HR
  go_enter Tryd.func8, Tryd.ntmps8
  go_wp2_with fail
  generalize w.alloc _ = wz at *
  generalize w.heap.size = q at *
  refine (alive_any ad (HE.out.same Z.out.same)).mono ?_
  rintro r w1 ⟨rfl, hs⟩
  have Z1 := hid (Z.out.go hs)
  clear hs Z
  by_cases h500 : 500 < l
  · go_wp2
    go_ret
    exact ⟨rfl, Z1.out.same⟩
  go_wp2_with fail
  refine (Num.ints_any _ bl _ (HRL.out.same Z1.out.same) (by rw [← HL.out]; omega)).mono ?_
  rintro r w2 ⟨gc, cp, rfl, hC, hs2⟩
  have Z2 : Hid (Star w w2 [copyR gc cp bl, Blk q #[.int .i64 W, .int .i64 H, .int .i64 S, .int .i64 X, .int .i64 Y] 23]) := hid (Z1.out.add hs2 (R := copyR gc cp bl) ⟨hC.own, rfl⟩ (fun i h => by have e : gc = i := Option.some.inj h; have := hC.new; omega))
  have hcm : cp ≤ 9223372036854775807 := by
    rcases hC.own.2 with ⟨h, _⟩ | ⟨g', cap, cur, h, _, _, _, h2, _⟩
    · cases h
    · cases h; unfold maxLen at h2; exact h2
  rw [← HL.out]
  clear hs2 hC Z1
  have CP : Hid (∀ {w' : World} {L : List Res}, Star w w' (copyR gc cp bl :: L) → Num.Copy w w' gc cp bl) := hid (fun X => ⟨(X.row 0 rfl).1, (X.row 0 rfl).2 gc rfl⟩)
  have HCR : Hid (∀ {w' : World} {L : List Res}, Star w w' (copyR gc cp bl :: L) → Ints w' (.slice (some ⟨gc, 0, none⟩) l cp) bl) := hid (fun X => by have h := (CP.out X).reads; rw [HL.out]; exact h)
  have hbk := (Z2.out.blk 1 rfl).1
  have hql := lt_of hbk
  have c0 := cell_of hbk 0
  have c1 := cell_of hbk 1
  have c2 := cell_of hbk 2
  have c3 := cell_of hbk 3
  have c4 := cell_of hbk 4
  simp only [List.getElem?_toArray, List.getElem?_cons_zero, List.getElem?_cons_succ] at c0 c1 c2 c3 c4
  clear hbk
  cases rb with
  | false =>
    go_wp2_with fail
    refine (HFORM.out (by first | rfl | trivial) _ _ _ _ (HE.out.same Z2.out.same)).mono ?_
    rintro r w3 ⟨rfl, hs3⟩
    have Z3 := hid (Z2.out.go hs3)
    clear hs3 Z2
    clear c0 c1 c2 c3 c4 hql
    go_wp2_with fail
    have HK := hid (Num.kept_any w gc cp _ bl _ (CP.out Z3.out) (HRL.out.same Z3.out.same) (by rw [← HL.out]; omega) hcm)
    rw [← HL.out] at HK
    refine HK.out.mono ?_
    rintro r wk1 ⟨rfl, hsk⟩
    have Zk := hid (Z3.out.go hsk)
    have hbk := (Zk.out.blk 1 rfl).1
    have hql := lt_of hbk
    have c0 := cell_of hbk 0
    have c1 := cell_of hbk 1
    have c2 := cell_of hbk 2
    have c3 := cell_of hbk 3
    have c4 := cell_of hbk 4
    simp only [List.getElem?_toArray, List.getElem?_cons_zero, List.getElem?_cons_succ] at c0 c1 c2 c3 c4
    clear hsk HK hbk
    go_wp2_with fail
    clear c0 c1 c2 c3 c4 hql
    refine (HR14.out _).mono ?_
    rintro r wk2 ⟨rfl, hsk⟩
    have Z4 := hid (Zk.out.go hsk)
    clear hsk
    have e7 : errV ad 7 = .iface 98 (.pointer (some (ad 6))) := rfl
    go_wp2_with fail
    refine (num ad 7 (by omega) _ (HE10.out.same Z4.out.same)).mono ?_
    rintro r w4 ⟨rfl, hs4⟩
    have Z5 := hid (Z4.out.go hs4)
    clear hs4
    go_wp2
    go_ret
    exact ⟨rfl, Z5.out.same⟩
  | true =>
    obtain ⟨Wn, Hn, rfl, rfl, w1, w2, h1, h2⟩ := HNAT.out (by first | rfl | trivial)
    simp only [Int.toNat_natCast] at HOF HNEW
    have hn1 : Wn * Hn ≤ 32 * 32 := Nat.mul_le_mul w2 h2
    have hn2 : 1 * 1 ≤ Wn * Hn := Nat.mul_le_mul w1 h1
    have hmul : (Wn : Int) * (Hn : Int) = ((Wn * Hn : Nat) : Int) := by simp
    rw [hmul] at HOF
    obtain ⟨n, hn⟩ : ∃ n, n = Wn * Hn := ⟨_, rfl⟩
    rw [← hn] at hmul hn1 hn2 HOF
    have HNN := hid hn
    clear hn
    have hwm : IntKind.i64.wrap (n : Int) = (n : Int) := IntWalk.i64_in _ (by omega)
    go_wp2_with fail
    refine (HOF.out (by first | rfl | trivial) _ _ (HCR.out Z2.out) (by rw [← HL.out]; omega) (HE.out.same Z2.out.same)).mono ?_
    rintro r w3 hcase
    rcases hcase with ⟨hall, p, rfl, hX⟩ | ⟨⟨x0, hx0m, hbad⟩, rfl, hs3⟩
    · have HALL := hid hall
      have Z3 : Hid (Star w w3 [copyR gc cp bl, Blk q #[.int .i64 Wn, .int .i64 Hn, .int .i64 S, .int .i64 X, .int .i64 Y] 23, gndR 65 p (Gr.block Wn Hn bl)]) := hid (((Z2.out.lift hX).pull 1 rfl).pull 2 rfl |>.swap)
      clear hX hall Z2
      clear c0 c1 c2 c3 c4 hql
      go_wp2_with fail
      have HK := hid (Num.kept_any w gc cp _ bl _ (CP.out Z3.out) (HRL.out.same Z3.out.same) (by rw [← HL.out]; omega) hcm)
      rw [← HL.out] at HK
      refine HK.out.mono ?_
      rintro r wk1 ⟨rfl, hsk⟩
      have Zk := hid (Z3.out.go hsk)
      have hbk := (Zk.out.blk 1 rfl).1
      have hql := lt_of hbk
      have c0 := cell_of hbk 0
      have c1 := cell_of hbk 1
      have c2 := cell_of hbk 2
      have c3 := cell_of hbk 3
      have c4 := cell_of hbk 4
      simp only [List.getElem?_toArray, List.getElem?_cons_zero, List.getElem?_cons_succ] at c0 c1 c2 c3 c4
      clear hsk HK hbk
      go_wp2_with fail
      clear c0 c1 c2 c3 c4 hql
      refine (HR14.out _).mono ?_
      rintro r wk2 ⟨rfl, hsk⟩
      have Z4 := hid (Zk.out.go hsk)
      clear hsk
      go_wp2_with fail
      go_loopw [11, 45] (fun _ iv wr => ∃ j : Nat, j ≤ l ∧ iv = .int .i64 j ∧ (∀ y ∈ bl.take j, 0 ≤ y ∧ y < (n : Int)) ∧ Star w wr [copyR gc cp bl, Blk q #[.int .i64 Wn, .int .i64 Hn, .int .i64 S, .int .i64 X, .int .i64 Y] 23, gndR 65 p (Gr.block Wn Hn bl)]) (fun _ iv _ => l - (intOf iv).toNat)
      case atStart => exact ⟨0, by omega, rfl, by simp, Z4.out⟩
      case round =>
        obtain ⟨j, hj, rfl, hin, hX⟩ := hrel
        have Z5 := hid hX
        have HIN := hid hin
        clear hX hin Z4
        have hbk := (Z5.out.blk 1 rfl).1
        have hql := lt_of hbk
        have c0 := cell_of hbk 0
        have c1 := cell_of hbk 1
        have c2 := cell_of hbk 2
        have c3 := cell_of hbk 3
        have c4 := cell_of hbk 4
        simp only [List.getElem?_toArray, List.getElem?_cons_zero, List.getElem?_cons_succ] at c0 c1 c2 c3 c4
        clear hbk
        by_cases hjl : j < l
        · skip
          obtain ⟨b, off, cap, e1, hc⟩ := HB2.out j (by have := HL.out; omega)
          cases e1
          have hcj := Z5.out.same.keep hc
          have hjx : j < bl.length := by have := HL.out; omega
          obtain ⟨x, hxe⟩ : ∃ x, x = bl[j] := ⟨_, rfl⟩
          have hts : bl.take (j + 1) = bl.take j ++ [x] := by rw [List.take_succ_eq_append_getElem hjx, hxe]
          have hmem : x ∈ bl := by rw [hxe]; exact List.getElem_mem hjx
          rw [← hxe] at hcj
          have HTS := hid hts
          have HME := hid hmem
          clear hts hmem hxe hc
          by_cases hx0 : 0 ≤ x
          · have hb1 : decide (x < 0) = false := by simpa using hx0
            by_cases hxn : x < (n : Int)
            · have hb2 : decide ((n : Int) ≤ x) = false := by simpa using hxn
              go_wp2
              go_roundw
              case rel =>
                have hin2 : ∀ y ∈ bl.take (j + 1), 0 ≤ y ∧ y < (n : Int) := by
                  intro y hy
                  rw [HTS.out, List.mem_append] at hy
                  rcases hy with h | h
                  · exact HIN.out y h
                  · simp at h; rw [h]; exact ⟨hx0, hxn⟩
                have hrel : ∃ j' : Nat, j' ≤ l ∧ Value.int .i64 ((j : Int) + 1) = .int .i64 j' ∧ (∀ y ∈ bl.take j', 0 ≤ y ∧ y < (n : Int)) ∧ Star w _ [copyR gc cp bl, Blk q #[.int .i64 Wn, .int .i64 Hn, .int .i64 S, .int .i64 X, .int .i64 Y] 23, gndR 65 p (Gr.block Wn Hn bl)] := ⟨j + 1, by omega, by go_num, hin2, Z5.out⟩
                first | exact hrel | ((repeat apply Exists.intro); exact ⟨hrel, rfl⟩)
              case measure => simp [intOf]; omega
            · have hb2 : decide ((n : Int) ≤ x) = true := by simpa using hxn
              exact absurd ((HALL.out x HME.out)) (by omega)
          · have hb1 : decide (x < 0) = true := by simpa using hx0
            exact absurd ((HALL.out x HME.out)) (by omega)
        · skip
          obtain ⟨g1, cg1, h1, -⟩ := gnd_at Z5.out 2 rfl
          have hlen : (Gr.block Wn Hn bl).fs.length = n := by unfold Gr.block; rw [Gr.ofF_len]; exact HNN.out.symm
          have hnn : ((n : Int) != (n : Int)) = false := by simp
          have HLEN : Hid (∀ k : Nat, Calls Tryd.prog 12 #[.pointer (some ⟨p, 0, none⟩)] (wr.drewN k) fun r w' => r = .returned (.int .i64 n) ∧ w' = wr.drewN k) := hid (fun k => (len_any (h1.same ((Chg.refl _).drewN k))).mono (fun r w' h => ⟨by rw [h.1, hlen], h.2.symm⟩))
          have HLE := hid hlen
          clear h1 hlen
          go_wp2_with fail
          go_quiet ((go_at_call 12; exact Calls.quiet_of_same (HLEN.out _)))
          have Z6 := hid (Z5.out.go ((Chg.refl _).drewN nq))
          clear Z5 HLEN c0 c1 c2 c3 c4 hql
          generalize wr.drewN nq = w6 at *
          have hbk := (Z6.out.blk 1 rfl).1
          have hql := lt_of hbk
          have c0 := cell_of hbk 0
          have c1 := cell_of hbk 1
          have c2 := cell_of hbk 2
          have c3 := cell_of hbk 3
          have c4 := cell_of hbk 4
          simp only [List.getElem?_toArray, List.getElem?_cons_zero, List.getElem?_cons_succ] at c0 c1 c2 c3 c4
          clear hbk
          go_wp2_with fail
          clear c0 c1 c2 c3 c4 hql
          refine (HNEW.out (by first | rfl | trivial) _ _ (HRL.out.same Z6.out.same) (by rw [← HL.out]; omega)).mono ?_
          rintro r w7 ⟨mm, rfl, hX7⟩
          have Z7 : Hid (Star w w7 [gndR 63 mm (Gr.block Wn Hn bl), copyR gc cp bl, Blk q #[.int .i64 Wn, .int .i64 Hn, .int .i64 S, .int .i64 X, .int .i64 Y] 23, gndR 65 p (Gr.block Wn Hn bl)]) := hid (Z6.out.lift hX7)
          have Z8 := hid (Z7.out.add (w' := w7.alloc (.cells #[] 3)) ((Chg.refl _).alloc _) (R := Row 3 1 (.slice (some ⟨w7.heap.size, 0, none⟩) 0 0) 0 (nC [])) ⟨World.ownsRow_lit w7 #[] 0 (Nat.zero_le _) (by unfold maxLen; omega) rfl, rfl⟩ (fun i h => by have : w7.heap.size = i := Option.some.inj h; omega))
          clear hX7 Z6
          obtain ⟨gm, cm, hm1, -, -, -⟩ := gnd_at Z8.out 1 rfl
          have n2 := hm1.c2
          rw [HLE.out] at n2
          clear hm1 Z7
          go_wp2_with fail
          generalize w7.alloc _ = w8 at *
          go_loopw [13, 93] (fun lv iv wr3 => ∃ t : Nat, t ≤ n ∧ iv = .int .i64 t ∧ Star w wr3 [Row 3 1 lv (blockedTo (Gr.block Wn Hn bl) t).length (nC (blockedTo (Gr.block Wn Hn bl) t)), gndR 63 mm (Gr.block Wn Hn bl), copyR gc cp bl, Blk q #[.int .i64 Wn, .int .i64 Hn, .int .i64 S, .int .i64 X, .int .i64 Y] 23, gndR 65 p (Gr.block Wn Hn bl)] ∧ Hid (wr3.cell? ⟨mm, 2, none⟩ = some (.slice (some ⟨gm, 0, none⟩) n cm))) (fun _ iv _ => n - (intOf iv).toNat)
          case atStart => exact ⟨0, by omega, rfl, Z8.out, hid n2⟩
          case round =>
            obtain ⟨t, ht, rfl, hX, hn2⟩ := hrel
            have Z9 := hid hX
            clear hX Z8 n2
            obtain ⟨G, hG⟩ : ∃ G, G = Gr.block Wn Hn bl := ⟨_, rfl⟩
            rw [← hG] at Z9 HLE
            have HG := hid hG
            clear hG
            obtain ⟨al, cl, rfl, -⟩ := own_slice (Z9.out.row 0 rfl).1
            have hbl := blockedTo_len G t
            have hbs := blockedTo_succ G t
            by_cases htn : t < n
            · obtain ⟨gm', cm', hm2, -, -, -⟩ := gnd_at Z9.out 1 rfl
              have SAMEG : Hid (gm' = gm ∧ cm' = cm) := hid (by
                have h1 := hm2.c2
                rw [HLE.out, hn2.out] at h1
                simp only [Option.some.injEq, Value.slice.injEq, Addr.mk.injEq, and_true, true_and] at h1
                exact ⟨h1.1.symm, h1.2.symm⟩)
              have ng := hm2.get t (by rw [HLE.out]; exact htn)
              rw [SAMEG.out.1] at ng
              clear hm2
              obtain ⟨g1, cg1, h1, -⟩ := gnd_at Z9.out 4 rfl
              have hf1 := hid (free_any h1 t)
              rw [Gr.freeI_nat] at hf1
              clear h1
              have hgml := World.block_lt_of_cell? _ _ ng
              generalize hfb : G.free t = fb at *
              clear hfb
              go_wp2_with fail
              refine (hf1.out).mono ?_
              rintro r w9 ⟨rfl, rfl⟩
              clear hf1
              cases fb with
              | true =>
                rw [if_pos rfl] at hbs
                have HBS := hid hbs
                clear hbs
                go_wp2
                go_roundw
                case rel =>
                  have hrel : ∃ t' : Nat, t' ≤ n ∧ Value.int .i64 ((t : Int) + 1) = .int .i64 t' ∧ Star w _ [Row 3 1 (.slice al (blockedTo G t).length cl) (blockedTo G t').length (nC (blockedTo G t')), gndR 63 mm G, copyR gc cp bl, Blk q #[.int .i64 Wn, .int .i64 Hn, .int .i64 S, .int .i64 X, .int .i64 Y] 23, gndR 65 p G] ∧ Hid (World.cell? _ ⟨mm, 2, none⟩ = some (.slice (some ⟨gm, 0, none⟩) n cm)) := ⟨t + 1, by omega, by go_num, by rw [HBS.out]; exact Z9.out, hn2⟩
                  obtain rfl := HG.out
                  first | exact hrel | ((repeat apply Exists.intro); exact ⟨hrel, rfl⟩)
                case measure => simp [intOf]; omega
              | false =>
                rw [if_neg (by simp)] at hbs
                have HBS := hid hbs
                clear hbs
                have ZA := hid (Z9.out.alloc #[.int .i64 t] 3)
                clear Z9
                generalize hbt : blockedTo G t = bt at *
                clear hbt
                have HNEQ : Hid (∀ k, (Value.slice al bt.length cl).ownBlock = some k → k ≠ mm) := hid (fun k e1 e2 => by
                  obtain ⟨F, F', ⟨_, rfl⟩, ⟨_, _, _, rfl⟩, hd⟩ := ZA.out.apart 1 2 rfl rfl (by omega)
                  exact hd k e1 (.inl e2))
                have hn3 : (wr.alloc (.cells #[.int .i64 t] 3)).cell? ⟨mm, 2, none⟩ = some (.slice (some ⟨gm, 0, none⟩) n cm) := Chg.keep (((Chg.refl wr).alloc _ : Same wr _)) hn2.out
                have HN3 := hid hn3
                clear hn3
                go_wp2_with (at_builtin; refine wpList_app rfl (.tmp 105) (.tmp 107) 24 rfl 3 i0 (.int .i64 0) 1 8 Tryd.underlying24 hi0 hz0 hz1 hz2 rfl (by decide) _ bt.length (nC bt) rfl (ZA.out.row 1 rfl).1 (some ⟨wr.heap.size, 0, none⟩) 1 1 [.int .i64 t] rfl (reads_blk (ZA.out.blk 0 rfl).1 1 1 1 rfl) (by simp [Value.oneCell']) (by omega) (by omega) ?_; intro a3 c3 w3 ho3 hg3 hn3; have ZB := hid (ZA.out.grown 1 rfl ho3 hg3 hn3).drop; have HK3 := hid ((Chg.cell (Chg.grown (S := fun k => (Value.slice al bt.length cl).ownBlock = some k) (Chg.refl _) hg3 (fun k e _ => e)) (p := ⟨mm, 2, none⟩) (World.block_lt_of_cell? _ _ HN3.out) (fun e => HNEQ.out mm e rfl)).trans HN3.out); clear ho3 hg3 hn3)
                go_roundw
                case rel =>
                  have hrel : ∃ t' : Nat, t' ≤ n ∧ Value.int .i64 ((t : Int) + 1) = .int .i64 t' ∧ Star w w3 [Row 3 1 (.slice a3 (bt.length + 1) c3) (blockedTo G t').length (nC (blockedTo G t')), gndR 63 mm G, copyR gc cp bl, Blk q #[.int .i64 Wn, .int .i64 Hn, .int .i64 S, .int .i64 X, .int .i64 Y] 23, gndR 65 p G] ∧ Hid (w3.cell? ⟨mm, 2, none⟩ = some (.slice (some ⟨gm, 0, none⟩) n cm)) := ⟨t + 1, by omega, by go_num, by rw [HBS.out, nC_snoc, List.length_append]; exact ZB.out, HK3⟩
                  obtain rfl := HG.out
                  first | exact hrel | ((repeat apply Exists.intro); exact ⟨hrel, rfl⟩)
                case measure => simp [intOf]; omega
            · obtain rfl : t = n := by omega
              have hbe : blockedTo G t = G.blocked := by unfold Gr.blocked blockedTo; rw [HLE.out]
              rw [hbe] at Z9 ⊢
              clear hbl hbs hbe
              go_wp2_with fail
              obtain ⟨g1, cg1, h1, -⟩ := gnd_at Z9.out 4 rfl
              refine (blocked_any h1).mono ?_
              rintro r w9 ⟨vb, rfl, hA⟩
              have ZA := hid (Z9.out.lift hA)
              clear h1 hA Z9
              have hI1 := nC_reads (Reads.of_own (ZA.out.row 0 rfl).1)
              have hI2 := nC_reads (Reads.of_own (ZA.out.row 1 rfl).1)
              have hbm := own_max (ZA.out.row 0 rfl).1
              go_wp2_with fail
              refine (Num.sameInts _ _ _ _ _ hI1 hI2 (by rw [List.length_map]; exact hbm) (by rw [List.length_map]; exact hbm)).mono ?_
              rintro r w10 ⟨rfl, hs10⟩
              rw [decide_eq_true rfl]
              have ZB := hid (ZA.out.go hs10)
              clear hs10 hI1 hI2 ZA
              go_wp2_with fail
              obtain ⟨gm2, cm2, hm2, -⟩ := gnd_at ZB.out 2 rfl
              refine (rhas_any hm2 tt).mono ?_
              rintro r w11 ⟨rfl, rfl⟩
              clear hm2
              cases hht : G.has tt with
              | true =>
                go_wp2
                go_ret
                exact ⟨rfl, ZB.out.same⟩
              | false =>
                have hfi : G.freeI tt = false := by unfold Gr.freeI; rw [hht]; rfl
                go_wp2_with fail
                obtain ⟨g1, cg1, h1, -⟩ := gnd_at ZB.out 5 rfl
                refine (free_any h1 tt).mono ?_
                rintro r w12 ⟨rfl, rfl⟩
                clear h1
                rw [hfi]
                go_wp2
                go_ret
                exact ⟨rfl, ZB.out.same⟩
    · have e1v : errV ad 1 = .iface 98 (.pointer (some (ad 0))) := rfl
      have Z3 := hid (Z2.out.go hs3)
      clear hs3 Z2
      clear c0 c1 c2 c3 c4 hql
      go_wp2_with fail
      have HK := hid (Num.kept_any w gc cp _ bl _ (CP.out Z3.out) (HRL.out.same Z3.out.same) (by rw [← HL.out]; omega) hcm)
      rw [← HL.out] at HK
      refine HK.out.mono ?_
      rintro r wk1 ⟨rfl, hsk⟩
      have Zk := hid (Z3.out.go hsk)
      have hbk := (Zk.out.blk 1 rfl).1
      have hql := lt_of hbk
      have c0 := cell_of hbk 0
      have c1 := cell_of hbk 1
      have c2 := cell_of hbk 2
      have c3 := cell_of hbk 3
      have c4 := cell_of hbk 4
      simp only [List.getElem?_toArray, List.getElem?_cons_zero, List.getElem?_cons_succ] at c0 c1 c2 c3 c4
      clear hsk HK hbk
      go_wp2_with fail
      clear c0 c1 c2 c3 c4 hql
      refine (HR14.out _).mono ?_
      rintro r wk2 ⟨rfl, hsk⟩
      have Z4 := hid (Zk.out.go hsk)
      clear hsk
      go_wp2_with fail
      go_loopw [11, 45] (fun _ iv wr => ∃ j : Nat, j ≤ l ∧ iv = .int .i64 j ∧ (∀ y ∈ bl.take j, 0 ≤ y ∧ y < (n : Int)) ∧ Star w wr [copyR gc cp bl, Blk q #[.int .i64 Wn, .int .i64 Hn, .int .i64 S, .int .i64 X, .int .i64 Y] 23]) (fun _ iv _ => l - (intOf iv).toNat)
      case atStart => exact ⟨0, by omega, rfl, by simp, Z4.out⟩
      case round =>
        obtain ⟨j, hj, rfl, hin, hX⟩ := hrel
        have Z5 := hid hX
        have HIN := hid hin
        clear hX hin Z4
        have hbk := (Z5.out.blk 1 rfl).1
        have hql := lt_of hbk
        have c0 := cell_of hbk 0
        have c1 := cell_of hbk 1
        have c2 := cell_of hbk 2
        have c3 := cell_of hbk 3
        have c4 := cell_of hbk 4
        simp only [List.getElem?_toArray, List.getElem?_cons_zero, List.getElem?_cons_succ] at c0 c1 c2 c3 c4
        clear hbk
        by_cases hjl : j < l
        · skip
          obtain ⟨b, off, cap, e1, hc⟩ := HB2.out j (by have := HL.out; omega)
          cases e1
          have hcj := Z5.out.same.keep hc
          have hjx : j < bl.length := by have := HL.out; omega
          obtain ⟨x, hxe⟩ : ∃ x, x = bl[j] := ⟨_, rfl⟩
          have hts : bl.take (j + 1) = bl.take j ++ [x] := by rw [List.take_succ_eq_append_getElem hjx, hxe]
          have hmem : x ∈ bl := by rw [hxe]; exact List.getElem_mem hjx
          rw [← hxe] at hcj
          have HTS := hid hts
          have HME := hid hmem
          clear hts hmem hxe hc
          by_cases hx0 : 0 ≤ x
          · have hb1 : decide (x < 0) = false := by simpa using hx0
            by_cases hxn : x < (n : Int)
            · have hb2 : decide ((n : Int) ≤ x) = false := by simpa using hxn
              go_wp2
              go_roundw
              case rel =>
                have hin2 : ∀ y ∈ bl.take (j + 1), 0 ≤ y ∧ y < (n : Int) := by
                  intro y hy
                  rw [HTS.out, List.mem_append] at hy
                  rcases hy with h | h
                  · exact HIN.out y h
                  · simp at h; rw [h]; exact ⟨hx0, hxn⟩
                have hrel : ∃ j' : Nat, j' ≤ l ∧ Value.int .i64 ((j : Int) + 1) = .int .i64 j' ∧ (∀ y ∈ bl.take j', 0 ≤ y ∧ y < (n : Int)) ∧ Star w _ [copyR gc cp bl, Blk q #[.int .i64 Wn, .int .i64 Hn, .int .i64 S, .int .i64 X, .int .i64 Y] 23] := ⟨j + 1, by omega, by go_num, hin2, Z5.out⟩
                first | exact hrel | ((repeat apply Exists.intro); exact ⟨hrel, rfl⟩)
              case measure => simp [intOf]; omega
            · have hb2 : decide ((n : Int) ≤ x) = true := by simpa using hxn
              go_wp2_with fail
              refine (num ad 1 (by omega) _ (HE10.out.same Z5.out.same)).mono ?_
              rintro r wz9 ⟨rfl, hs9⟩
              have Z9 := hid (Z5.out.go hs9)
              clear hs9
              go_wp2
              go_ret
              exact ⟨rfl, Z9.out.same⟩
          · have hb1 : decide (x < 0) = true := by simpa using hx0
            go_wp2_with fail
            refine (num ad 1 (by omega) _ (HE10.out.same Z5.out.same)).mono ?_
            rintro r wz9 ⟨rfl, hs9⟩
            have Z9 := hid (Z5.out.go hs9)
            clear hs9
            go_wp2
            go_ret
            exact ⟨rfl, Z9.out.same⟩
        · skip
          have hbad2 := HIN.out x0 (by rw [List.take_of_length_le (by have := HL.out; omega)]; exact hx0m)
          exact absurd hbad2 hbad
end Go.Proofs.YtnfobdonmkefdaaDoor.StepsOf
