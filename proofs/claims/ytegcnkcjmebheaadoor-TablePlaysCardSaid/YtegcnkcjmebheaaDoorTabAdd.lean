/-
  Package table: Add.
-/
import Derived.Test.YtegcnkcjmebheaaDoorTabNew
namespace Go.Proofs.YtegcnkcjmebheaaDoor.Tab
open Go Go.RowKit Go.Maps Go.Proofs.YtegcnkcjmebheaaDoor.Mask
section
variable {w0 w : World} {L : List Res} {R : Res} {t : Pl} {m : Nat} {kv : Value} {H : List Hd} {X : Nat → List Vl}
/-- Add takes a row. -/
def Takes (m : Nat) (vs : List Vl) : Prop := Right vs ∧ rowMask vs = m
set_option maxRecDepth 100000 in
set_option maxHeartbeats 8000000 in
theorem add_form (Y : Star w0 w (R :: tabL t m kv H X L)) (h : Hd) (v : Value) (vs : List Vl) (hr : Reads w v vs.length 3 (vs.flatMap vc)) (hn : vs.length ≤ 1000000) (ad : Nat → Addr) (hE : Err.ErrsT w0 ad) (hno : ¬ Takes m vs) :
    Calls Tryd.prog 9 #[.pointer (some ⟨t.p, 0, none⟩), hV h, v] w fun r w' => r = .returned (.tuple #[.int .i64 0, Err.errV ad 7]) ∧ Star w0 w' (R :: tabL t m kv H X L) := by
  obtain ⟨h1, h2⟩ := h
  have Y0 := hid ((Y.alloc #[.int .i64 h1, .int .i64 h2] 35))
  have HE := hid (hE.same Y0.out.same)
  have hbk := (Y0.out.blk 2 rfl).1
  have c1 := SameW.cell (show (w.alloc (.cells #[.int .i64 h1, .int .i64 h2] 35)).cell? ⟨t.p, 1, none⟩ = some (mk m) from cell_of hbk 1)
  have cl := lt_of hbk
  have HR := hid (hr.same ((Chg.refl w).alloc (.cells #[.int .i64 h1, .int .i64 h2] 35)))
  have HN := hid hn
  have HNO := hid hno
  have RA := hid (fun n : SameW (w.alloc (.cells #[.int .i64 h1, .int .i64 h2] 35)) => right_row vs v n.w (HR.out.same n.same) hn ad (HE.out.same n.same))
  have MA := hid (fun (hv : Right vs) (n : SameW (w.alloc (.cells #[.int .i64 h1, .int .i64 h2] 35))) => mask_row vs hv v n.w (HR.out.same n.same) hn ad (HE.out.same n.same))
  clear Y hr hE hbk hno hn
  go_enter Tryd.func9, Tryd.ntmps9
  go_upto_region 1 with (fail)
  generalize w.alloc _ = w1 at *
  generalize w.heap.size = q at *
  by_cases hright : Right vs
  · have RT : Hid (∀ n : SameW w1, Calls Tryd.prog 36 #[v] n.w fun r w' => r = .returned (.bool true) ∧ Same n.w w') := hid (fun n => (RA.out n).mono (by
      rintro r w' ⟨B, rfl, hB, hs⟩
      cases B with
      | true => exact ⟨rfl, hs⟩
      | false => exact absurd (hB.2 hright) (by simp)))
    have MT := hid (MA.out hright)
    have hne : (((rowMask vs : Nat) : Int) != (m : Int)) = true := by
      have : rowMask vs ≠ m := fun e => HNO.out ⟨hright, e⟩
      simp; omega
    clear hright
    refine wp_region_same (by kernel_rfl) (by kernel_rfl) ?_
    repeat (go_big_quiet_step (first | (go_at_call 36; with_reducible exact Calls.same_of (RT.out _)) | (go_at_call 37; with_reducible exact Calls.same_of (MT.out _))))
    with_reducible refine wpQuiet_nil ?_
    rintro w8 ⟨n8, rfl⟩
    have hE := (HE.out.same n8.same).c6
    have hEl := World.block_lt_of_cell? _ _ hE
    go_wp2_with fail
    go_quiet (fail)
    go_wp2
    go_ret2
    exact ⟨rfl, ((Y0.out.go n8.same).go ((Chg.refl _).drewN _)).drop⟩
  · have RT : Hid (∀ n : SameW w1, Calls Tryd.prog 36 #[v] n.w fun r w' => r = .returned (.bool false) ∧ Same n.w w') := hid (fun n => (RA.out n).mono (by
      rintro r w' ⟨B, rfl, hB, hs⟩
      cases B with
      | false => exact ⟨rfl, hs⟩
      | true => exact absurd (hB.1 rfl) hright))
    clear hright
    refine wp_region_same (by kernel_rfl) (by kernel_rfl) ?_
    repeat (go_big_quiet_step (first | (go_at_call 36; with_reducible exact Calls.same_of (RT.out _))))
    with_reducible refine wpQuiet_nil ?_
    rintro w8 ⟨n8, rfl⟩
    have hE := (HE.out.same n8.same).c6
    have hEl := World.block_lt_of_cell? _ _ hE
    go_wp2_with fail
    go_quiet (fail)
    go_wp2
    go_ret2
    exact ⟨rfl, ((Y0.out.go n8.same).go ((Chg.refl _).drewN _)).drop⟩
/-- What Add's first look tells of a row that it takes. -/
theorem takes_look (h : Hd) (hw : World) (v : Value) (vs : List Vl) (hr : Reads hw v vs.length 3 (vs.flatMap vc)) (hn : vs.length ≤ 1000000) (ad : Nat → Addr) (hE : Err.ErrsT hw ad) (ht : Takes m vs) :
    (∀ n : SameW hw, Calls Tryd.prog 36 #[v] n.w fun r w' => r = .returned (.bool true) ∧ Same n.w w') ∧ ∀ n : SameW hw, Calls Tryd.prog 37 #[v] n.w fun r w' => r = .returned (mk m) ∧ Same n.w w' :=
  ⟨fun n => (right_row vs v n.w (hr.same n.same) hn ad (hE.same n.same)).mono (by
      rintro r w' ⟨B, rfl, hB, hs⟩
      cases B with
      | true => exact ⟨rfl, hs⟩
      | false => exact absurd (hB.2 ht.1) (by simp)), fun n => by
    have h := mask_row vs ht.1 v n.w (hr.same n.same) hn ad (hE.same n.same)
    rw [ht.2] at h
    exact h⟩
set_option maxRecDepth 100000 in
set_option maxHeartbeats 8000000 in
theorem add_full (Y : Star w0 w (R :: tabL t m kv H X L)) (h : Hd) (v : Value) (vs : List Vl) (hr : Reads w v vs.length 3 (vs.flatMap vc)) (hn : vs.length ≤ 1000000) (ad : Nat → Addr) (hE : Err.ErrsT w0 ad) (ht : Takes m vs) (hH : H.length = 128) :
    Calls Tryd.prog 9 #[.pointer (some ⟨t.p, 0, none⟩), hV h, v] w fun r w' => r = .returned (.tuple #[.int .i64 0, Err.errV ad 2]) ∧ Star w0 w' (R :: tabL t m kv H X L) := by
  obtain ⟨h1, h2⟩ := h
  have Y0 := hid ((Y.alloc #[.int .i64 h1, .int .i64 h2] 35))
  have HE := hid (hE.same Y0.out.same)
  have HE0 := hid hE
  have hbk := (Y0.out.blk 2 rfl).1
  have c1 := SameW.cell (show (w.alloc (.cells #[.int .i64 h1, .int .i64 h2] 35)).cell? ⟨t.p, 1, none⟩ = some (mk m) from cell_of hbk 1)
  have cl := lt_of hbk
  have HL := hid (takes_look (h1, h2) _ v vs (hr.same ((Chg.refl w).alloc (.cells #[.int .i64 h1, .int .i64 h2] 35))) hn ad HE.out ht)
  have HH := hid hH
  clear Y hr hE hbk hn ht hH
  go_enter Tryd.func9, Tryd.ntmps9
  go_upto_region 1 with (fail)
  generalize w.alloc _ = w1 at *
  generalize w.heap.size = q at *
  have RT := hid HL.out.1
  have MT := hid HL.out.2
  clear HL
  refine wp_region_same (by kernel_rfl) (by kernel_rfl) ?_
  repeat (go_big_quiet_step (first | (go_at_call 36; with_reducible exact Calls.same_of (RT.out _)) | (go_at_call 37; with_reducible exact Calls.same_of (MT.out _))))
  with_reducible refine wpQuiet_nil ?_
  rintro w8 ⟨n8, rfl⟩
  have Y8 := hid (Y0.out.go n8.same)
  have hbk := (Y8.out.blk 2 rfl).1
  have b0 := cell_of hbk 0
  have bl := lt_of hbk
  simp only [List.getElem?_toArray, List.getElem?_cons_zero, List.getElem?_cons_succ] at b0
  have hbq := (Y8.out.blk 0 rfl).1
  have q0 := cell_of hbq 0
  have q1 := cell_of hbq 1
  have ql := lt_of hbq
  simp only [List.getElem?_toArray, List.getElem?_cons_zero, List.getElem?_cons_succ] at q0 q1
  have CHX := hid (Y8.out.pull 3 rfl)
  clear c1 cl hbk hbq RT MT Y0
  generalize n8.w = w8 at *
  go_wp2_with fail
  refine (CH.len_any CHX.out).mono ?_
  rintro r w' ⟨rfl, rfl⟩
  go_wp2_with fail
  have X9 := hid ((CHX.out.alloc #[.int .i64 h1, .int .i64 h2] 35).swap)
  have HF := hid (show (128 : Int) - (H.length : Int) < ((1 : Nat) : Int) by rw [HH.out]; decide)
  have HX := hid (show H.length ≤ 1000000 by rw [HH.out]; decide)
  go_region_with (go_at_call 38; refine (CH.push_full (X9.out.go ((Chg.refl _).drew)) _ 1 1 (by decide) HX.out (by decide) HF.out _ HE0.out.c1).mono ?_; rintro r w9 ⟨rfl, hs9⟩; have Y9 := hid (((Y8.out.go ((Chg.refl w8).alloc (.cells #[.int .i64 h1, .int .i64 h2] 35))).go ((Chg.refl _).drew)).go hs9); clear hs9)
  all_goals
    go_wp2
    go_ret2
    exact ⟨rfl, Y9.out.drop⟩
/-- A row's components of a kind. -/
def rowOf (vs : List Vl) (k : Nat) : List Vl := vs.filter (fun v => v.k == (k : Int))
theorem rowOf_snoc (vs : List Vl) (v : Vl) (k : Nat) : rowOf (vs ++ [v]) k = if v.k = (k : Int) then rowOf vs k ++ [v] else rowOf vs k := by
  unfold rowOf
  rw [List.filter_append]
  by_cases e : v.k = (k : Int)
  · rw [if_pos e]; simp [e]
  · rw [if_neg e]; simp [e]
set_option maxRecDepth 100000 in
set_option maxHeartbeats 16000000 in
theorem add_ok (Y : Star w0 w (R :: tabL t m kv H X L)) (h : Hd) (v : Value) (vs : List Vl) (hr : ∀ {w' : World} {M : List Res}, Star w0 w' (R :: M) → Reads w' v vs.length 3 (vs.flatMap vc)) (hn : vs.length ≤ 1000000) (ad : Nat → Addr) (hE : Err.ErrsT w0 ad) (ht : Takes m vs) (hH : H.length < 128)
    (hc : ∀ x ∈ vs, ∃ (k c : Nat), x.k = (k : Int) ∧ k < 10 ∧ t.cols k = some c) (hX : ∀ k, (X k).length ≤ 127) (hone : ∀ j k, ∀ x, vs[j]? = some x → x.k = ((k : Nat) : Int) → rowOf (vs.take j) k = []) :
    Calls Tryd.prog 9 #[.pointer (some ⟨t.p, 0, none⟩), hV h, v] w fun r w' => r = .returned (.tuple #[.int .i64 H.length, .nilIface]) ∧ Star w0 w' (R :: tabL t m kv (H ++ [h]) (fun k => X k ++ rowOf vs k) L) := by
  obtain ⟨h1, h2⟩ := h
  have Y0 := hid ((Y.alloc #[.int .i64 h1, .int .i64 h2] 35))
  have HE := hid (hE.same Y0.out.same)
  have HE0 := hid hE
  have hbk := (Y0.out.blk 2 rfl).1
  have c1 := SameW.cell (show (w.alloc (.cells #[.int .i64 h1, .int .i64 h2] 35)).cell? ⟨t.p, 1, none⟩ = some (mk m) from cell_of hbk 1)
  have cl := lt_of hbk
  obtain ⟨va, vcp, rfl⟩ := (hr Y).slice
  have HL := hid (takes_look (h1, h2) _ _ vs ((hr Y).same ((Chg.refl w).alloc (.cells #[.int .i64 h1, .int .i64 h2] 35))) hn ad HE.out ht)
  have HH := hid hH
  have HC := hid hc
  have HXL := hid hX
  have HONE := hid hone
  obtain ⟨n, hnn⟩ : ∃ n, n = vs.length := ⟨_, rfl⟩
  have HN := hid hnn
  have HR : Hid (∀ {w' : World} {M : List Res}, Star w0 w' (R :: M) → Reads w' (.slice va n vcp) n 3 (vs.flatMap vc)) := hid (fun h => by rw [hnn]; exact hr h)
  rw [← hnn] at HL hn ⊢
  clear Y hr hE hbk ht hH hc hX hone hnn
  go_enter Tryd.func9, Tryd.ntmps9
  go_upto_region 1 with (fail)
  generalize w.alloc _ = w1 at *
  generalize w.heap.size = q at *
  have RT := hid HL.out.1
  have MT := hid HL.out.2
  clear HL
  refine wp_region_same (by kernel_rfl) (by kernel_rfl) ?_
  repeat (go_big_quiet_step (first | (go_at_call 36; with_reducible exact Calls.same_of (RT.out _)) | (go_at_call 37; with_reducible exact Calls.same_of (MT.out _))))
  with_reducible refine wpQuiet_nil ?_
  rintro w8 ⟨n8, rfl⟩
  have Y8 := hid (Y0.out.go n8.same)
  have hbk := (Y8.out.blk 2 rfl).1
  have b0 := cell_of hbk 0
  have bl := lt_of hbk
  simp only [List.getElem?_toArray, List.getElem?_cons_zero, List.getElem?_cons_succ] at b0
  have hbq := (Y8.out.blk 0 rfl).1
  have q0 := cell_of hbq 0
  have q1 := cell_of hbq 1
  have ql := lt_of hbq
  simp only [List.getElem?_toArray, List.getElem?_cons_zero, List.getElem?_cons_succ] at q0 q1
  have CHX := hid (Y8.out.pull 3 rfl)
  clear c1 cl hbk hbq RT MT Y0
  generalize n8.w = w8 at *
  go_wp2_with fail
  refine (CH.len_any CHX.out).mono ?_
  rintro r w' ⟨rfl, rfl⟩
  go_wp2_with fail
  have X9 := hid ((CHX.out.alloc #[.int .i64 h1, .int .i64 h2] 35).swap)
  have HF := hid (show (([(h1, h2)] : List Hd).length : Int) ≤ (128 : Int) - (H.length : Int) by have := HH.out; simp; omega)
  have RD := hid (reads_blk (X9.out.blk 1 rfl).1 1 1 2 rfl)
  go_cut [9] (fun s9 wx => s9 = Value.nilIface ∧ Star w0 wx (R :: tabL t m kv (H ++ [(h1, h2)]) X L))
  case first =>
    go_region_with (go_at_call 38; refine (CH.push_ok (X9.out.go ((Chg.refl _).drew)) _ [(h1, h2)] (RD.out.same ((Chg.refl _).drew)) (by decide) HF.out).mono ?_; rintro r w9 ⟨rfl, hX9⟩; have Y9 := hid (show Star w0 w9 (R :: tabL t m kv (H ++ [(h1, h2)]) X L) from ((((hX9.pull 1 rfl).drop.pull 1 rfl).drop).pull 2 rfl).pull 2 rfl); clear hX9)
    all_goals
      go_wp2
      go_meet
      exact ⟨rfl, Y9.out⟩
  case rest =>
    obtain ⟨rfl, hX9⟩ := hcut
    have Y9 := hid hX9
    clear hX9 X9 RD CHX Y8 b0 bl q0 q1 ql
    go_wp2_with fail
    go_loopw [43] (fun iv wr => ∃ j : Nat, j ≤ n ∧ iv = .int .i64 j ∧ Star w0 wr (R :: tabL t m kv (H ++ [(h1, h2)]) (fun k => X k ++ rowOf (vs.take j) k) L)) (fun iv _ => n - (intOf iv).toNat)
    case atStart => exact ⟨0, by omega, rfl, by simpa [rowOf] using Y9.out⟩
    case round =>
      obtain ⟨j, hj, rfl, hX⟩ := hrel
      rename World => wz
      have XA := hid hX
      clear hX Y9
      by_cases hjn : j < n
      · obtain ⟨x, hx⟩ : ∃ x, vs[j]? = some x := ⟨_, List.getElem?_eq_getElem (by have := HN.out; omega)⟩
        obtain ⟨b, off, cap, e1, hb, hcl⟩ := (HR.out XA.out).open (by omega)
        cases e1
        have g0 := hcl (j * 3 + 0) _ ((rows_get vc vc_len vs j 0 x hx (by omega)).trans rfl)
        have g1 := hcl (j * 3 + 1) _ ((rows_get vc vc_len vs j 1 x hx (by omega)).trans rfl)
        have g2 := hcl (j * 3 + 2) _ ((rows_get vc vc_len vs j 2 x hx (by omega)).trans rfl)
        rw [Nat.add_zero] at g0
        rw [← Nat.add_assoc] at g1 g2
        obtain ⟨k, c, hxk, hk10, hcc⟩ := HC.out x (List.mem_of_getElem? hx)
        have HX := hid hx
        clear hcl hx
        obtain ⟨vk, va', vb⟩ := x
        dsimp only at hxk g0 g1 g2
        subst hxk
        have XB := hid (XA.out.alloc #[.int .i64 k, .int .i64 va', .int .i64 vb] 37)
        go_wp2_with fail
        generalize wz.alloc _ = wA at *
        generalize wz.heap.size = e at *
        have hbk := (XB.out.blk 2 rfl).1
        have b3 := cell_of hbk 3
        have bl := lt_of hbk
        have hbe := (XB.out.blk 0 rfl).1
        have e0 := cell_of hbe 0
        have e1 := cell_of hbe 1
        have e2 := cell_of hbe 2
        have el := lt_of hbe
        simp only [List.getElem?_toArray, List.getElem?_cons_zero, List.getElem?_cons_succ] at b3 e0 e1 e2
        have KY := hid (keyI k (by omega) (by omega))
        have hmc : mapC t.cols (.int .i64 (k : Int)) = some c := by rw [mapC_nat, hcc]
        have HM := hid hmc
        have M0 : ∀ W : World, Same wA W → (Instr.lookup 42 (.map (some t.mb)) (.int .i64 (k : Int)) false).run Tryd.prog W = .ok (.pointer (some ⟨c, 0, none⟩)) W := fun W hs => by
          have hm := ((XB.out.go hs).map 4 rfl).1
          have h := hm.look false keyed Tryd.underlying42 (zeroC W) KY.out
          rw [HM.out] at h
          exact h
        have look1 := M0 wA.drew ((Chg.refl _).drew)
        have look2 := M0 (wA.alloc (.cells #[.int .i64 k, .int .i64 va', .int .i64 vb] 37)).drew (((Chg.refl wA).alloc _).drew)
        have HM0 := hid @M0
        clear M0 hbk hbe hmc g0 g1 g2 hb
        have XC := hid ((colFirst hk10 hcc (tabIn XB.out.drop)).alloc #[.int .i64 k, .int .i64 va', .int .i64 vb] 37).swap
        have RC := hid (reads_blk (XC.out.blk 1 rfl).1 1 1 3 rfl)
        have hnil := HONE.out j k _ HX.out rfl
        have HF2 := hid (show (([⟨k, va', vb⟩] : List Vl).length : Int) ≤ (128 : Int) - ((X k ++ rowOf (vs.take j) k).length : Int) by rw [hnil]; have := HXL.out k; simp; omega)
        have HST := hid (show (fun i => X i ++ rowOf (vs.take (j + 1)) i) = updX (fun i => X i ++ rowOf (vs.take j) i) k ((X k ++ rowOf (vs.take j) k) ++ [⟨k, va', vb⟩]) from by
          funext i
          obtain ⟨h1, h2⟩ := List.getElem?_eq_some_iff.1 HX.out
          rw [List.take_succ_eq_append_getElem h1, h2, rowOf_snoc]
          by_cases e : i = k
          · subst e; rw [updX_same, if_pos rfl, List.append_assoc]
          · rw [updX_other _ _ e, if_neg (by show ¬ ((k : Nat) : Int) = ((i : Nat) : Int); omega)])
        clear hnil XA
        go_cut [12] (fun s12 wx => s12 = Value.nilIface ∧ Star w0 wx (R :: tabL t m kv (H ++ [(h1, h2)]) (fun i => X i ++ rowOf (vs.take (j + 1)) i) L))
        case first =>
         go_region_with (go_at_call 39; refine (CV.push_ok (XC.out.go ((Chg.refl _).drew)) _ [⟨k, va', vb⟩] (RC.out.same ((Chg.refl _).drew)) (by decide) HF2.out).mono ?_; rintro r w5 ⟨rfl, hX5⟩; have XD := hid (tabOut (colBack hk10 hcc (hX5.pull 1 rfl).drop)); clear hX5)
         all_goals
          go_wp2
          go_meet
          exact ⟨rfl, by rw [HST.out]; exact XD.out⟩
        case rest =>
          obtain ⟨rfl, hX9⟩ := hcut
          have XD := hid hX9
          clear hX9 XC RC look1 look2 b3 bl e0 e1 e2 el XB
          go_wp2
          go_roundw
          case rel => exact ⟨j + 1, by omega, by go_num, XD.out⟩
          case measure => simp [intOf]; omega
      · go_wp2
        go_ret2
        have h := XA.out
        rw [List.take_of_length_le (by have := HN.out; omega)] at h
        exact ⟨rfl, h⟩
end
end Go.Proofs.YtegcnkcjmebheaaDoor.Tab
