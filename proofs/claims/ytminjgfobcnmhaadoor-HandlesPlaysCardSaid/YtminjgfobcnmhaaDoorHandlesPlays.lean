/-
  HandlesPlays: the walk.
-/
import Derived.Test.YtminjgfobcnmhaaDoorPoolDo
import Derived.Test.YtminjgfobcnmhaaDoorRefForm
import Derived.Test.YtminjgfobcnmhaaDoorPoolClone
namespace Go.Proofs.YtminjgfobcnmhaaDoor.HandlesPlays
open Go Go.RowKit Go.Proofs.YtminjgfobcnmhaaDoor.Pool

abbrev copyR (g cp : Nat) (l : List Int) : Res := Row 3 1 (.slice (some ⟨g, 0, none⟩) (l.length + 4) cp) (l.length + 4) ((l ++ Num.marks).map (Value.int .i64))

set_option maxRecDepth 100000 in
set_option maxHeartbeats 4000000 in
theorem walk (S : List Slot) (fs : List Int) (os : List OpH) (vs vf vo : Value) (w : World) (hrs : Reads w vs S.length 2 (S.flatMap sl)) (hrf : Ints w vf fs) (hro : Ops w vo os) (hls : S.length ≤ 9223372036854775807) (hlf : fs.length ≤ 9223372036854775807) (hlo : os.length ≤ 9223372036854775807)
    (hcp : ∀ a n c, vf = .slice a n c → n ≤ c) (ad : Nat → Addr) (hE : Err.Errs w ad) :
    Calls Tryd.prog 12 #[vs, vf, vo] w fun r w' => r = .returned (.bool true) ∧ Same w w' := by
  obtain ⟨as0, cs0, rfl⟩ := hrs.slice
  obtain ⟨af0, cf0, rfl⟩ := hrf.slice
  obtain ⟨ao0, co0, rfl⟩ := hro.slice
  have HRS := hid hrs
  have HRF := hid hrf
  have HRO := hid hro
  have HE := hid hE
  have HCP := hid hcp
  obtain ⟨n, hn⟩ : ∃ n, n = S.length := ⟨_, rfl⟩
  obtain ⟨l, hl⟩ : ∃ l, l = fs.length := ⟨_, rfl⟩
  obtain ⟨m, hm⟩ : ∃ m, m = os.length := ⟨_, rfl⟩
  rw [← hn] at hls
  rw [← hl] at hlf
  rw [← hm] at hlo
  simp only [← hn, ← hl, ← hm] at HRS HRF HRO HCP ⊢
  have HN := hid hn
  have HL := hid hl
  have HM := hid hm
  clear hrs hrf hro hE hn hl hm hcp
  go_enter Tryd.func12, Tryd.ntmps12
  go_wp2_with fail
  refine (alive _).mono ?_
  rintro r w1 ⟨rfl, hs1⟩
  have X1 := hid ((Star.new w).go hs1)
  clear hs1
  by_cases h1 : 300 < n
  · go_wp2
    go_ret
    exact ⟨rfl, X1.out.same⟩
  by_cases h2 : 300 < l
  · go_wp2
    go_ret
    exact ⟨rfl, X1.out.same⟩
  by_cases h3 : 60 < m
  · go_wp2
    go_ret
    exact ⟨rfl, X1.out.same⟩
  have HRF' := hid (show Ints w (.slice af0 l cf0) fs by have h := HRF.out; rw [HL.out] at h ⊢; exact h)
  have hl8 : fs.length ≤ 300 := by rw [← HL.out]; omega
  have hn8 : S.length ≤ 300 := by rw [← HN.out]; omega
  go_wp2_with fail
  refine (Num.ints_any _ fs _ (HRF'.out.same X1.out.same) (by omega)).mono ?_
  rintro r w5 ⟨g, cp, rfl, hC, hs⟩
  have X5 : Hid (Star w w5 [copyR g cp fs]) := hid (X1.out.add hs (R := copyR g cp fs) ⟨hC.own, rfl⟩ (fun i h => by have e : g = i := Option.some.inj h; have := hC.new; omega))
  have hcm : cp ≤ 9223372036854775807 := by
    rcases hC.own.2 with ⟨h, _⟩ | ⟨g', cap, cur, h, _, _, _, h2, _⟩
    · cases h
    · cases h; unfold maxLen at h2; exact h2
  have HCI : Hid (∀ {w' : World} {L : List Res}, Star w w' (copyR g cp fs :: L) → Num.Copy w w' g cp fs) := hid (fun X => ⟨(X.row 0 rfl).1, (X.row 0 rfl).2 g rfl⟩)
  have HKEPT : Hid (∀ {w' : World} {L : List Res}, Star w w' (copyR g cp fs :: L) → Calls Tryd.prog 37 #[.slice (some ⟨g, 0, none⟩) l cp, .slice af0 l cf0] w' fun r w'' => r = .returned (.bool true) ∧ Same w' w'') := hid (fun X => by
    have h := HRF'.out.same X.same
    rw [HL.out] at h ⊢
    exact Num.kept_any w g cp _ fs _ (HCI.out X) h (by omega) hcm)
  clear hC hs X1
  rw [← HL.out]
  have HRSn := hid (show Reads w (.slice as0 n cs0) S.length 2 (S.flatMap sl) by have h := HRS.out; rw [HN.out] at h ⊢; exact h)
  go_wp2_with fail
  refine (from_any S fs _ _ _ (HRSn.out.same X5.out.same) ((by have h := (HCI.out X5.out).reads; rw [HL.out]; exact h : Ints w5 (.slice (some ⟨g, 0, none⟩) l cp) fs)) (by omega) (by omega) _ (X5.out.keepCell HE.out.c6)).mono ?_
  rintro r w6 hF
  have HF := hid hF
  clear hF
  rcases HF.out with ⟨hF, p, rfl, hP⟩ | ⟨hF, rfl, hs⟩
  · have X6 := hid (X5.out.lift hP)
    have FO := hid hF
    clear hF hP HF
    go_wp2_with fail
    refine (form_any S fs _ _ _ (HRSn.out.same X6.out.same) (HRF'.out.same X6.out.same) hn8 hl8 (fun a n c e => HCP.out a n c e)).mono ?_
    rintro r w7 ⟨B, rfl, hB, hs7⟩
    obtain rfl : B = true := hB.2 FO.out
    have X7 : Hid (Star w w7 [copyR g cp fs, PoolR p S (fs.map Int.toNat) (S.countP (·.2))]) := hid ((X6.out.go hs7).swap)
    clear hB hs7 X6 X5
    go_wp2_with fail
    refine (HKEPT.out X7.out).mono ?_
    rintro r w8 ⟨rfl, hs8⟩
    have X8 := hid ((X7.out.go hs8).drop.alloc #[.slice as0 n cs0, .slice af0 l cf0] 82)
    have HFN : Hid (∀ {w'}, Same w w' → Reads w' (.slice af0 l cf0) (fs.map Int.toNat).length 1 ((fs.map Int.toNat).map nv)) := hid (fun s => by
      have h := HRF'.out.same s
      rw [castL_toNat (fun x hx => (FO.out.free x hx).1), List.length_map]
      rw [HL.out] at h ⊢
      exact h)
    clear hs8 X7 HKEPT HCI
    go_wp2_with fail
    refine (rcopy_any X8.out w8.heap.size _ _ (X8.out.blk 0 rfl).1 (HRSn.out.same X8.out.same) (HFN.out X8.out.same) (by omega) (by rw [List.length_map]; omega)).mono ?_
    rintro r w9 ⟨q, rfl, hX⟩
    have X9 : Hid (Pool.Twin w w9 p q []) := hid ⟨S, _, _, FO.out.ok, ((hX.pull 1 rfl).drop).swap⟩
    clear hX X8 HFN
    go_wp2_with fail
    go_loopw [8, 70] (fun pv iv wr => ∃ (j p' : Nat), j ≤ m ∧ pv = .pointer (some ⟨p', 0, none⟩) ∧ iv = .int .i64 j ∧ Pool.Twin w wr p' q []) (fun _ iv _ => m - (intOf iv).toNat)
    case atStart => exact ⟨0, p, by omega, rfl, rfl, X9.out⟩
    case round =>
      obtain ⟨j, p', hj, rfl, rfl, S, f, c, hok, hX⟩ := hrel
      have X := hid hX
      have OK := hid hok
      clear hX hok X9
      by_cases hjm : j < m
      · obtain ⟨b, off, cap, e1, hb, hcl⟩ := HRO.out.open (by have := HM.out; omega)
        have hjo : j < os.length := by have := HM.out; omega
        obtain ⟨o, ho⟩ : ∃ o, os[j]? = some o := ⟨_, List.getElem?_eq_getElem hjo⟩
        have g0 := X.out.keepCell (hcl (j * 4 + 0) _ ((rows_get OpH.cells OpH.len os j 0 o ho (by omega)).trans rfl))
        have g1 := X.out.keepCell (hcl (j * 4 + 1) _ ((rows_get OpH.cells OpH.len os j 1 o ho (by omega)).trans rfl))
        have g2 := X.out.keepCell (hcl (j * 4 + 2) _ ((rows_get OpH.cells OpH.len os j 2 o ho (by omega)).trans rfl))
        have g3 := X.out.keepCell (hcl (j * 4 + 3) _ ((rows_get OpH.cells OpH.len os j 3 o ho (by omega)).trans rfl))
        rw [Nat.add_zero] at g0
        rw [← Nat.add_assoc] at g1 g2 g3
        obtain ⟨kind, on, oi, og⟩ := o
        cases e1
        clear hcl ho
        have X3 : Hid (Star w (wr.alloc (.cells #[.int .i64 kind, .int .i64 on, .int .i64 oi, .int .i64 og] 44)) [PoolR p' S f c, RefR q S f, Blk wr.heap.size #[.int .i64 kind, .int .i64 on, .int .i64 oi, .int .i64 og] 44]) := hid (((X.out.alloc #[.int .i64 kind, .int .i64 on, .int .i64 oi, .int .i64 og] 44).pull 2 rfl).pull 2 rfl)
        by_cases hk4 : kind = 4
        · subst hk4
          go_wp2_with fail
          refine (clone_any X3.out (by have := OK.out.len; omega) (by have := OK.out.flen; omega)).mono ?_
          rintro r w4 ⟨p2, rfl, hX⟩
          have X4 := hid (hX.pull 1 rfl)
          clear hX X3 X g0 g1 g2 g3
          obtain ⟨h, k, S', f', c', ht⟩ := takeA_ex S f c
          obtain ⟨hx, hg⟩ := h
          have T := hid ht
          clear ht
          go_wp2_with fail
          refine (take_a T.out X4.out OK.out ad HE.out).mono ?_
          rintro r w5' ⟨rfl, hX⟩
          have X5 := hid hX.drop
          clear hX X4
          go_wp2
          go_roundw
          case rel => exact ⟨j + 1, p2, by omega, rfl, by go_num, S, f, c, OK.out, ((X5.out.pull 2 rfl).drop)⟩
          case measure => simp [intOf]; omega
        · have hk4' : (kind == 4) = false := by simpa using hk4
          clear hk4
          go_wp2_with fail
          clear g0 g1 g2 g3 X
          have hb3 := (X3.out.blk 2 rfl).1
          have o0 := cell_of hb3 0
          have o1 := cell_of hb3 1
          have o2 := cell_of hb3 2
          have o3 := cell_of hb3 3
          have ol := lt_of hb3
          simp only [List.getElem?_toArray, List.getElem?_cons_zero, List.getElem?_cons_succ] at o0 o1 o2 o3
          clear hb3
          generalize wr.alloc _ = w3 at *
          generalize wr.heap.size = q3 at *
          go_region_held3 (fun w' => w'.cell? ⟨q3, 0, none⟩ = some (.int .i64 kind) ∧ w'.cell? ⟨q3, 1, none⟩ = some (.int .i64 on) ∧ w'.cell? ⟨q3, 2, none⟩ = some (.int .i64 oi) ∧ w'.cell? ⟨q3, 3, none⟩ = some (.int .i64 og)) (go_keep) (first
            | (go_at_call 39; refine (do_any (X3.out.go (w' := w3.drew) ((Chg.refl _).drew)) OK.out kind on oi og ad HE.out).mono ?_; rintro r wa ⟨rfl, Sa, fa, ca, hoka, hXa⟩; have XA := hid hXa; have OA := hid hoka; have a0 := cell_of (XA.out.blk 2 rfl).1 0; have a1 := cell_of (XA.out.blk 2 rfl).1 1; have a2 := cell_of (XA.out.blk 2 rfl).1 2; have a3 := cell_of (XA.out.blk 2 rfl).1 3; have al := lt_of (XA.out.blk 2 rfl).1; simp only [List.getElem?_toArray, List.getElem?_cons_zero, List.getElem?_cons_succ] at a0 a1 a2 a3; clear hXa hoka)
            | (go_at_call 30; refine (lives_any XA.out (oi, og)).mono ?_; rintro r wb ⟨rfl, hs⟩; have XB := hid (XA.out.go hs); have b0 := cell_of (XB.out.blk 2 rfl).1 0; have b1 := cell_of (XB.out.blk 2 rfl).1 1; have b2 := cell_of (XB.out.blk 2 rfl).1 2; have b3 := cell_of (XB.out.blk 2 rfl).1 3; have bl := lt_of (XB.out.blk 2 rfl).1; simp only [List.getElem?_toArray, List.getElem?_cons_zero, List.getElem?_cons_succ] at b0 b1 b2 b3; clear hs)
            | (go_at_call 40; refine (rlives_any (XB.out.swap) (oi, og)).mono ?_; rintro r wc ⟨rfl, hs⟩; have XC := hid (XB.out.go hs); have c0 := cell_of (XC.out.blk 2 rfl).1 0; have c1 := cell_of (XC.out.blk 2 rfl).1 1; have c2 := cell_of (XC.out.blk 2 rfl).1 2; have c3 := cell_of (XC.out.blk 2 rfl).1 3; have cl := lt_of (XC.out.blk 2 rfl).1; simp only [List.getElem?_toArray, List.getElem?_cons_zero, List.getElem?_cons_succ] at c0 c1 c2 c3; clear hs))
          all_goals
            have XD := hid ((XC.out.pull 2 rfl).drop)
            have hS8 := OA.out.len
            have hf8 := OA.out.flen
            have hcl : ca = ((live Sa).length : Int) := by
              have h1 := live_len Sa 0
              have h2 := OA.out.count
              unfold live
              omega
            have hll := live_len' Sa
            clear XC XB XA X3 OK a0 a1 a2 a3 al b0 b1 b2 b3 bl c0 c1 c2 c3 cl o0 o1 o2 o3 ol
            obtain ⟨nl, hnl⟩ : ∃ nl, nl = (live Sa).length := ⟨_, rfl⟩
            rw [← hnl] at hcl hll
            have HNL := hid hnl
            have HCL := hid hcl
            clear hnl hcl
            go_wp2_with fail
            refine (rlist_any (XD.out.swap) (by omega)).mono ?_
            rintro r w4 ⟨vl, rfl, hX⟩
            obtain ⟨al, cl, e, -⟩ := own_slice (hX.row 0 rfl).1
            rw [← HNL.out] at e
            subst e
            have X4 := hid hX
            clear hX XD
            go_wp2_with fail
            refine (slots_any (X4.out.pull 2 rfl) (by omega) (by omega)).mono ?_
            rintro r w5' ⟨vs5, vf5, rfl, hX⟩
            have X5 := hid (hX.pull 2 rfl)
            clear hX X4
            go_wp2_with fail
            refine (count_any X5.out).mono ?_
            rintro r w6' ⟨rfl, rfl⟩
            rw [HCL.out]
            go_wp2_with fail
            refine (list_any X5.out (by omega)).mono ?_
            rintro r w7' ⟨v2, rfl, hX⟩
            have X6 : Hid (Star w w7' [Row 42 2 v2 (live Sa).length ((live Sa).flatMap hl), PoolR p' Sa fa ca, freeR vf5 fa, slotsR vs5 Sa, Row 42 2 (.slice al nl cl) (live Sa).length ((live Sa).flatMap hl), RefR q Sa fa]) := hid hX
            clear hX X5
            go_wp2_with fail
            refine (sameHands _ _ (live Sa) _ (Reads.of_own (X6.out.row 0 rfl).1) (Reads.of_own (X6.out.row 4 rfl).1) (by rw [← HNL.out]; omega)).mono ?_
            rintro r w8' ⟨rfl, hs8⟩
            have X7 := hid ((X6.out.go hs8).pull 5 rfl)
            clear hs8 X6
            go_wp2_with fail
            refine (rsame_any X7.out _ _ (Reads.of_own (X7.out.row 4 rfl).1) (Reads.of_own (X7.out.row 3 rfl).1) (by omega) (by omega)).mono ?_
            rintro r w9' ⟨rfl, hs9⟩
            have X8 := hid (((X7.out.go hs9).pull 2 rfl).pull 1 rfl)
            clear hs9 X7
            go_wp2
            go_roundw
            case rel =>
              have hrel : ∃ (j' p'' : Nat), j' ≤ os.length ∧ Value.pointer (some ⟨p', 0, none⟩) = .pointer (some ⟨p'', 0, none⟩) ∧ Value.int .i64 ((j : Int) + 1) = .int .i64 j' ∧ Pool.Twin w w9' p'' q [] := ⟨j + 1, p', by omega, rfl, by go_num, Sa, fa, ca, OA.out, ((((((X8.out.pull 2 rfl).drop.pull 2 rfl).drop.pull 2 rfl).drop.pull 2 rfl).drop).swap)⟩
              first | exact hrel | ((repeat apply Exists.intro); exact ⟨hrel, rfl⟩)
            case measure => simp [intOf]; omega
      · go_wp2
        go_ret
        exact ⟨rfl, X.out.same⟩
  · have X6 := hid (X5.out.go hs)
    have FN := hid hF
    clear hF hs HF
    go_wp2_with fail
    refine (form_any S fs _ _ _ (HRSn.out.same X6.out.same) (HRF'.out.same X6.out.same) hn8 hl8 (fun a n c e => HCP.out a n c e)).mono ?_
    rintro r w7 ⟨B, rfl, hB, hs7⟩
    have hBf : B = false := by cases B; rfl; exact absurd (hB.1 rfl) FN.out
    subst hBf
    have X7 := hid (X6.out.go hs7)
    clear hB hs7 X6 X5
    go_wp2_with fail
    refine (Err.num ad 7 (by omega) _ (HE.out.same X7.out.same)).mono ?_
    rintro r w8 ⟨rfl, hs8⟩
    have X8 := hid (X7.out.go hs8)
    clear hs8
    go_wp2
    go_ret
    exact ⟨rfl, X8.out.same⟩
end Go.Proofs.YtminjgfobcnmhaaDoor.HandlesPlays
