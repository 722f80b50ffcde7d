/-
  paddockref07: Set.
-/
import Derived.Test.YtegcnkcjmebheaaDoorRef07c
namespace Go.Proofs.YtegcnkcjmebheaaDoor.Tab
open Go Go.RowKit Go.Maps Go.Proofs.YtegcnkcjmebheaaDoor.Mask Go.Proofs.YtegcnkcjmebheaaDoor.TableSets
section
variable {w0 w : World} {L : List Res} {G : List En} {p m : Nat} {sl : Value} {es : List En}
set_option maxRecDepth 100000 in
theorem rset_no (X : Star w0 w (rfB p m sl :: rfE sl es :: L)) (i : Int) (v : Vl) (hi : i < 0 ∨ (es.length : Int) ≤ i) :
    Calls Tryd.prog 27 #[.pointer (some ⟨p, 0, none⟩), .int .i64 i, vV v] w fun r w' => r = .returned (.int .i64 1) ∧ Star w0 w' (rfB p m sl :: rfE sl es :: L) := by
  obtain ⟨vk, va, vb⟩ := v
  have Y0 := hid ((X.alloc #[.int .i64 vk, .int .i64 va, .int .i64 vb] 37).drop)
  have HI := hid hi
  clear X hi
  go_enter Tryd.func27, Tryd.ntmps27
  go_wp2_with fail
  refine (has_no Y0.out i HI.out).mono ?_
  rintro r w' ⟨rfl, rfl⟩
  go_wp2
  go_ret
  exact ⟨rfl, Y0.out⟩
set_option maxRecDepth 100000 in
set_option maxHeartbeats 8000000 in
theorem rset_in (X : Star w0 w (rfB p m sl :: rfE sl es :: poolR G :: L)) (i : Nat) (v : Vl) (e : En) (hi : es[i]? = some e) (hG : e ∈ G) (hx : es.length ≤ 1000000) (hv : e.vs.length ≤ 5000) (hok : (findK e.vs v.k).isSome = true → chkN v = 0 → (∀ y ∈ dropK e.vs v.k ++ [v], chkN y = 0) ∧ ∀ k, k < 10 → (rowOf (dropK e.vs v.k ++ [v]) k).length ≤ 1) :
    Calls Tryd.prog 27 #[.pointer (some ⟨p, 0, none⟩), .int .i64 i, vV v] w fun r w' => r = .returned (.int .i64 (setN (findK e.vs v.k) v : Nat)) ∧ (setN (findK e.vs v.k) v ≠ 0 → Star w0 w' (rfB p m sl :: rfE sl es :: poolR G :: L)) ∧
      (setN (findK e.vs v.k) v = 0 → ∃ (a' : Option Addr) (c' : Nat), Star w0 w' (rfB p m sl :: rfE sl (es.set i ⟨e.h, a', c', sortTo (dropK e.vs v.k ++ [v]) 10⟩) :: poolR (⟨e.h, a', c', sortTo (dropK e.vs v.k ++ [v]) 10⟩ :: G) :: L)) := by
  obtain ⟨vk, va, vb⟩ := v
  have X0 := hid ((X.alloc #[.int .i64 vk, .int .i64 va, .int .i64 vb] 37).pull 1 rfl |>.pull 2 rfl |>.swap)
  have HI := hid hi
  have hil := (List.getElem?_eq_some_iff.1 hi).1
  have HIL := hid hil
  have RP : Hid (∀ (W : World) (M : List Res), Star w0 W M → ∀ j : Nat, M[j]? = some (poolR G) → Reads W e.v e.vs.length 3 (e.vs.flatMap vc)) := hid (fun W M X j hj => pool_reads X j hj hG)
  obtain ⟨⟨x1, x2⟩, xa, xc, xv⟩ := e
  obtain ⟨xl, hxl⟩ : ∃ xl, xl = xv.length := ⟨_, rfl⟩
  obtain ⟨n, hn⟩ : ∃ n, n = es.length := ⟨_, rfl⟩
  have HN := hid hn
  have HXL := hid hxl
  obtain ⟨F, hF⟩ : ∃ F, F = findK xv vk := ⟨_, rfl⟩
  have HF := hid hF
  dsimp only at hv hok ⊢
  rw [← hF] at hok ⊢
  have hx2 : n ≤ 1000000 := by omega
  have HV := hid hv
  have HOK := hid hok
  obtain ⟨cn, hcn⟩ : ∃ cn, cn = chkN ⟨vk, va, vb⟩ := ⟨_, rfl⟩
  have HCN := hid hcn
  clear X hi hF hG hv hok hcn
  go_enter Tryd.func27, Tryd.ntmps27
  go_wp2_with fail
  refine (has_yes X0.out i HIL.out).mono ?_
  rintro r w' ⟨rfl, rfl⟩
  have X1 : Hid (Star w0 (w.alloc (.cells #[.int .i64 vk, .int .i64 va, .int .i64 vb] 37)) (Blk w.heap.size #[.int .i64 vk, .int .i64 va, .int .i64 vb] 37 :: rfB p m sl :: Row 46 3 sl n (es.flatMap ec) :: poolR G :: L)) := hid (by rw [HN.out]; exact X0.out.pull 2 rfl)
  generalize w.alloc _ = w1 at *
  generalize w.heap.size = q at *
  obtain ⟨g, cp, rfl⟩ := own_shape (X1.out.row 2 rfl).1 (by omega)
  obtain ⟨-, -, e2, hgl⟩ := ent_cells X1.out 2 rfl HN.out HI.out
  have hb := (X1.out.blk 1 rfl).1
  have b1 := cell_of hb 1
  have bl := lt_of hb
  have hbq := (X1.out.blk 0 rfl).1
  have q0 := cell_of hbq 0
  have q1 := cell_of hbq 1
  have q2 := cell_of hbq 2
  have ql := lt_of hbq
  simp only [List.getElem?_toArray, List.getElem?_cons_zero, List.getElem?_cons_succ] at b1 q0 q1 q2
  dsimp only [En.v] at e2
  rw [← hxl] at e2
  have hin : i < n := by omega
  have FD : Hid (∀ (W : World) (M : List Res), Star w0 W M → ∀ j : Nat, M[j]? = some (poolR G) → Calls Tryd.prog 18 #[.slice xa xl xc, .int .i64 vk] W fun r w' => r = .returned (match F with | some x => .tuple #[vV x, .bool true] | none => .tuple #[vV ⟨0, 0, 0⟩, .bool false]) ∧ Same W w') := hid (fun W M X j hj => by
    have RR := RP.out _ _ X j hj
    dsimp only [En.v] at RR
    refine (ref_find (w := W) (.slice xa xl xc) xv vk (by rw [← hxl] at RR; rw [← hxl]; exact RR) (by have := HV.out; omega)).mono ?_
    rintro r w2 ⟨hr, hs⟩
    rw [← HF.out] at hr
    refine ⟨?_, hs⟩
    cases F with
    | none => exact hr
    | some x => exact hr)
  clear hb hbq X0 hil hn hx hxl
  go_upto_region 3 with (fail)
  have m1 : ¬ w1.heap.size = p := by omega
  have m2 : ¬ p = w1.heap.size := by omega
  have m3 : ¬ w1.heap.size = g := by omega
  have m4 : ¬ g = w1.heap.size := by omega
  have m5 : ¬ w1.heap.size = q := by omega
  have m6 : ¬ q = w1.heap.size := by omega
  go_cut [8] (fun s8 wx => s8 = .bool F.isSome ∧ Star w0 wx (Blk q #[.int .i64 vk, .int .i64 va, .int .i64 vb] 37 :: rfB p m (.slice (some ⟨g, 0, none⟩) n cp) :: Row 46 3 (.slice (some ⟨g, 0, none⟩) n cp) n (es.flatMap ec) :: poolR G :: L))
  case first =>
    cases F with
    | none =>
      go_region_held3 (fun w' => w'.cell? ⟨p, 1, none⟩ = some (.slice (some ⟨g, 0, none⟩) n cp) ∧ w'.cell? ⟨g, i * 3 + 2, none⟩ = some (.slice xa xl xc) ∧ w'.cell? ⟨q, 0, none⟩ = some (.int .i64 vk)) (go_keep) (first
        | (go_at_call 18; refine (FD.out _ _ (X1.out.go ((Chg.refl _).drew)) 3 rfl).mono ?_; rintro r w5 ⟨rfl, hs5⟩; have k0 := (hs5.after' ((Chg.refl w1).drew)).keep b1; have k1 := (hs5.after' ((Chg.refl w1).drew)).keep e2; have k2 := (hs5.after' ((Chg.refl w1).drew)).keep q0; have X5 := hid ((X1.out.go ((Chg.refl _).drew)).go hs5); clear hs5)
        | (go_at_call 18; refine (FD.out _ _ ((X1.out.alloc #[.int .i64 0, .int .i64 0, .int .i64 0] 37).go ((Chg.refl _).drew)) 4 rfl).mono ?_; rintro r w5 ⟨rfl, hs5⟩; have k0 := (hs5.after' (((Chg.refl w1).alloc _).drew)).keep b1; have k1 := (hs5.after' (((Chg.refl w1).alloc _).drew)).keep e2; have k2 := (hs5.after' (((Chg.refl w1).alloc _).drew)).keep q0; have X5 := hid (((X1.out.alloc #[.int .i64 0, .int .i64 0, .int .i64 0] 37).go ((Chg.refl _).drew)).go hs5); clear hs5; have hb := (X5.out.blk 0 rfl).1; have z0 := cell_of hb 0; have z1 := cell_of hb 1; have z2 := cell_of hb 2; have y0 := free_of hb 0; have y1' := free_of hb 1; have y2' := free_of hb 2; have yl := lt_of hb; simp only [List.getElem?_toArray, List.getElem?_cons_zero, List.getElem?_cons_succ] at z0 z1 z2; clear hb))
      all_goals
        rename_i hHeld
        clear hHeld k0 k1 k2 m1 m2 m3 m4 m5 m6 b1 q0 q1 q2 e2 bl ql hgl X1
        first
          | (have X6 := hid (X5.out.alloc #[.int .i64 0, .int .i64 0, .int .i64 0] 37).drop
             clear X5
             go_wp2
             go_meet
             exact ⟨rfl, X6.out⟩)
          | (have X6 := hid (((X5.out.put 0 rfl 0 (.int .i64 0)).put 0 rfl 1 (.int .i64 0)).put 0 rfl 2 (.int .i64 0)).drop
             clear X5 z0 z1 z2 y0 y1' y2' yl
             go_wp2
             go_meet
             exact ⟨rfl, X6.out⟩)
    | some y =>
      obtain ⟨y1, y2, y3⟩ := y
      go_region_held3 (fun w' => w'.cell? ⟨p, 1, none⟩ = some (.slice (some ⟨g, 0, none⟩) n cp) ∧ w'.cell? ⟨g, i * 3 + 2, none⟩ = some (.slice xa xl xc) ∧ w'.cell? ⟨q, 0, none⟩ = some (.int .i64 vk)) (go_keep) (first
        | (go_at_call 18; refine (FD.out _ _ (X1.out.go ((Chg.refl _).drew)) 3 rfl).mono ?_; rintro r w5 ⟨rfl, hs5⟩; have k0 := (hs5.after' ((Chg.refl w1).drew)).keep b1; have k1 := (hs5.after' ((Chg.refl w1).drew)).keep e2; have k2 := (hs5.after' ((Chg.refl w1).drew)).keep q0; have X5 := hid ((X1.out.go ((Chg.refl _).drew)).go hs5); clear hs5)
        | (go_at_call 18; refine (FD.out _ _ ((X1.out.alloc #[.int .i64 0, .int .i64 0, .int .i64 0] 37).go ((Chg.refl _).drew)) 4 rfl).mono ?_; rintro r w5 ⟨rfl, hs5⟩; have k0 := (hs5.after' (((Chg.refl w1).alloc _).drew)).keep b1; have k1 := (hs5.after' (((Chg.refl w1).alloc _).drew)).keep e2; have k2 := (hs5.after' (((Chg.refl w1).alloc _).drew)).keep q0; have X5 := hid (((X1.out.alloc #[.int .i64 0, .int .i64 0, .int .i64 0] 37).go ((Chg.refl _).drew)).go hs5); clear hs5; have hb := (X5.out.blk 0 rfl).1; have z0 := cell_of hb 0; have z1 := cell_of hb 1; have z2 := cell_of hb 2; have y0 := free_of hb 0; have y1' := free_of hb 1; have y2' := free_of hb 2; have yl := lt_of hb; simp only [List.getElem?_toArray, List.getElem?_cons_zero, List.getElem?_cons_succ] at z0 z1 z2; clear hb))
      all_goals
        rename_i hHeld
        clear hHeld k0 k1 k2 m1 m2 m3 m4 m5 m6 b1 q0 q1 q2 e2 bl ql hgl X1
        first
          | (have X6 := hid (X5.out.alloc #[.int .i64 y1, .int .i64 y2, .int .i64 y3] 37).drop
             clear X5
             go_wp2
             go_meet
             exact ⟨rfl, X6.out⟩)
          | (have X6 := hid (((X5.out.put 0 rfl 0 (.int .i64 y1)).put 0 rfl 1 (.int .i64 y2)).put 0 rfl 2 (.int .i64 y3)).drop
             clear X5 z0 z1 z2 y0 y1' y2' yl
             go_wp2
             go_meet
             exact ⟨rfl, X6.out⟩)
  case rest =>
    obtain ⟨rfl, hX⟩ := hcut
    rename World => w2
    have X2 := hid hX
    have hb := (hX.blk 1 rfl).1
    have d1 := cell_of hb 1
    have dl := lt_of hb
    have hbq := (hX.blk 0 rfl).1
    have d2 := cell_of hbq 0
    have d3 := cell_of hbq 1
    have d4 := cell_of hbq 2
    have dq := lt_of hbq
    simp only [List.getElem?_toArray, List.getElem?_cons_zero, List.getElem?_cons_succ] at d1 d2 d3 d4
    clear hX hb hbq m1 m2 m3 m4 m5 m6 b1 q0 q1 q2 e2 bl ql hgl X1
    cases F with
    | none =>
      simp only [Option.isSome_none]
      go_wp2
      go_ret
      have h := X2.out.drop
      obtain rfl := HN.out
      exact ⟨rfl, fun _ => h, fun h0 => by cases h0⟩
    | some y =>
      simp only [Option.isSome_some]
      go_wp2_with fail
      refine (ref_check ⟨vk, va, vb⟩ _).mono ?_
      rintro r w3 ⟨rfl, hs3⟩
      rw [← HCN.out]
      have X3 := hid (X2.out.go hs3)
      clear hs3 d1 d2 d3 d4 dl dq X2
      by_cases h0 : cn = 0
      · subst h0
        obtain ⟨hk1, hk2⟩ := HOK.out rfl HCN.out.symm
        have PUT : Hid (∀ (W : World) (M : List Res), Star w0 W M → ∀ j : Nat, M[j]? = some (poolR G) → Calls Tryd.prog 19 #[.slice xa xl xc, vV ⟨vk, va, vb⟩] W fun r w' => ∃ v', r = .returned v' ∧ Star W w' [Row 37 3 v' (sortTo (dropK xv vk ++ [⟨vk, va, vb⟩]) 10).length ((sortTo (dropK xv vk ++ [⟨vk, va, vb⟩]) 10).flatMap vc)]) := hid (fun W M X j hj => by
          have RR := RP.out _ _ X j hj
          dsimp only [En.v] at RR
          exact ref_put (w := W) (.slice xa xl xc) xv ⟨vk, va, vb⟩ (by rw [← HXL.out] at RR; rw [← HXL.out]; exact RR) HV.out hk1 hk2)
        obtain ⟨out, hout⟩ : ∃ out, out = sortTo (dropK xv vk ++ [⟨vk, va, vb⟩]) 10 := ⟨_, rfl⟩
        have HOUT := hid hout
        rw [← hout] at PUT
        obtain ⟨-, -, e2, hgl⟩ := ent_cells X3.out 2 rfl HN.out HI.out
        have hb := (X3.out.blk 1 rfl).1
        have d1 := cell_of hb 1
        have dl := lt_of hb
        have hbq := (X3.out.blk 0 rfl).1
        have d2 := cell_of hbq 0
        have d3 := cell_of hbq 1
        have d4 := cell_of hbq 2
        have dq := lt_of hbq
        simp only [List.getElem?_toArray, List.getElem?_cons_zero, List.getElem?_cons_succ] at d1 d2 d3 d4
        dsimp only [En.v] at e2
        rw [← HXL.out] at e2
        obtain ⟨m1, m2⟩ := X3.out.neBR 1 2 rfl rfl (by omega)
        obtain ⟨m3, m4⟩ := X3.out.neBR 0 2 rfl rfl (by omega)
        clear hb hbq hk1 hk2 hout
        go_upto_region 9 with (fail)
        go_region_with (go_at_call 19; refine (PUT.out _ _ (X3.out.go ((Chg.refl _).drew)) 3 rfl).mono ?_; rintro r w5 ⟨v5, rfl, hX5⟩; obtain ⟨a5, c5, rfl, -⟩ := own_slice (hX5.row 0 rfl).1; have X5 := hid ((X3.out.go ((Chg.refl _).drew)).lift hX5); have k0 := (hX5.same.after' ((Chg.refl w3).drew)).keep d1; have k1 := (hX5.same.after' ((Chg.refl w3).drew)).keep d2; have k2 := (hX5.same.after' ((Chg.refl w3).drew)).keep d3; have k3 := (hX5.same.after' ((Chg.refl w3).drew)).keep d4; have k4 := (hX5.same.after' ((Chg.refl w3).drew)).keep e2; have k5 := (X5.out.row 3 rfl).1.frozenAt (i * 3 + 2); have k6 := Nat.lt_of_lt_of_le hgl hX5.same.size; clear hX5)
        all_goals
          have X6 := hid (X5.out.store 3 rfl (i * 3 + 2) (.slice a5 out.length c5))
          have hs := rows_set1 ec ec_len es i 2 _ ⟨(x1, x2), a5, c5, out⟩ (.slice a5 out.length c5) HI.out (by omega) rfl
          have X7 : Hid (Star w0 _ (Row 37 3 (.slice a5 out.length c5) out.length (out.flatMap vc) :: Blk q #[.int .i64 vk, .int .i64 va, .int .i64 vb] 37 :: rfB p m (.slice (some ⟨g, 0, none⟩) n cp) :: Row 46 3 (.slice (some ⟨g, 0, none⟩) n cp) n ((es.set i ⟨(x1, x2), a5, c5, out⟩).flatMap ec) :: poolR G :: L)) := hid (by rw [← hs]; exact X6.out)
          clear hs X6 X5 k0 k1 k2 k3 k4 k5 k6 m1 m2 m3 m4 e2 hgl d1 dl d2 d3 d4 dq PUT X3
          go_wp2
          go_ret
          have h := ((X7.out.pull 1 rfl).drop.pull 3 rfl).swap
          have h2 := pool_add (e := ⟨(x1, x2), a5, c5, out⟩) h
          have h3 := (h2.pull 2 rfl).pull 2 rfl
          have hl : n = (es.set i ⟨(x1, x2), a5, c5, out⟩).length := by rw [List.length_set]; exact HN.out
          rw [← HOUT.out]
          refine ⟨by show _ = Ending.returned (.int .i64 (chkN ⟨vk, va, vb⟩ : Nat)); rw [← HCN.out]; rfl, fun h1 => absurd HCN.out.symm h1, fun _ => ⟨a5, c5, ?_⟩⟩
          unfold rfE
          rw [← hl]
          exact h3
      · have hne : ((cn : Int) != 0) = true := by simp; omega
        have H0 := hid h0
        clear h0
        go_wp2
        go_ret
        have h := X3.out.drop
        obtain rfl := HN.out
        refine ⟨by show _ = Ending.returned (.int .i64 (chkN ⟨vk, va, vb⟩ : Nat)); rw [← HCN.out]; rfl, fun _ => h, fun h1 => absurd (HCN.out.trans h1) H0.out⟩
end
end Go.Proofs.YtegcnkcjmebheaaDoor.Tab
