/-
  The goal that a tile comes to.
-/
import Derived.Test.YtilobedihjkpjaaDoorFieldFlat
import Derived.Test.YtilobedihjkpjaaDoorRouteFind
namespace Go.Proofs.YtilobedihjkpjaaDoor
section
variable {G : Gr} {c : List Int} {gs : List Nat}
theorem dirOf_zero {t : Nat} (h : ¬ 0 < cAt c t) : G.dirOf c t = -1 := dirOf_none (fun s _ => by unfold Gr.dirB; rw [decide_eq_false h]; rfl)
/-- Around a tile that is reached every tile is reached. -/
theorem Least.near (hG : G.Ok) (h : Least G gs c) {t : Nat} {s : Gr.St} (h0 : 0 ≤ cAt c t) (hs : s ∈ G.around t) : 0 ≤ cAt c s.to ∧ cAt c s.to ≤ s.c + cAt c t :=
  h.min s.to _ (.step (Gr.go_back hG (Gr.mem_around.1 hs)) (h.real t h0))
theorem findCongr {α : Type} {p q : α → Bool} : ∀ {l : List α}, (∀ a ∈ l, p a = q a) → l.find? p = l.find? q := by
  intro l
  induction l with
  | nil => intro _; rfl
  | cons a l ih =>
    intro h
    rw [List.find?_cons, List.find?_cons, h a List.mem_cons_self, ih (fun b hb => h b (List.mem_cons_of_mem _ hb))]
theorem Least.dir (hG : G.Ok) (h : Least G gs c) {t : Nat} (hp : 0 < cAt c t) : ∃ x, G.nxt c t = some x ∧ G.dirOf c t = x.d := by
  obtain ⟨x, hx⟩ := h.nxt hG hp
  refine ⟨x, hx, ?_⟩
  have e : (G.around t).find? (Gr.dirB c t) = some x := by
    rw [← hx]
    unfold Gr.nxt
    refine findCongr (fun s hs => ?_)
    unfold Gr.dirB
    rw [decide_eq_true hp, decide_eq_true (h.near hG (by omega) hs).1]
  unfold Gr.dirOf
  rw [e]
end
end Go.Proofs.YtilobedihjkpjaaDoor
namespace Go.Proofs.YtilobedihjkpjaaDoor.Fld
open Go Go.RowKit Go.Proofs.YtilobedihjkpjaaDoor.Steps Go.Proofs.YtilobedihjkpjaaDoor.Ord Go.Proofs.YtilobedihjkpjaaDoor.Route
section
variable {w0 w : World} {L : List Res} {f : Nat} {G : Gr} {gl c : List Int}
set_option maxRecDepth 100000 in
set_option maxHeartbeats 4000000 in
theorem walk_out (X : Star w0 w (fldR f G gl c :: L)) (hF : FOk G gl c) (t : Int) (ht : t < 0 ∨ (G.fs.length : Int) ≤ t) (ad : Addr) (he : w0.cell? ⟨1, 0, none⟩ = some (.iface 205 (.pointer (some ad)))) :
    Calls Tryd.prog 37 #[.pointer (some ⟨f, 0, none⟩), .int .i64 t] w fun r w' => r = .returned (.tuple #[.slice none 0 0, .iface 205 (.pointer (some ad))]) ∧ Star w0 w' (fldR f G gl c :: L) := by
  have X0 := hid X
  have HF := hid hF
  have HE := hid he
  clear X hF he
  go_enter Tryd.func37, Tryd.ntmps37
  go_wp2_with fail
  refine (cell_out X0.out HF.out t ht _ HE.out).mono ?_
  rintro r w1 ⟨rfl, hX⟩
  have X1 := hid hX
  clear hX X0
  go_wp2_with fail
  go_ret2
  exact ⟨rfl, (X1.out.alloc _ _).drop⟩
set_option maxRecDepth 100000 in
set_option maxHeartbeats 4000000 in
theorem walk_no (X : Star w0 w (fldR f G gl c :: L)) (hF : FOk G gl c) (t : Nat) (ht : t < G.fs.length) (hc : cAt c t = -1) (ad : Addr) (he : w0.cell? ⟨9, 0, none⟩ = some (.iface 205 (.pointer (some ad)))) :
    Calls Tryd.prog 37 #[.pointer (some ⟨f, 0, none⟩), .int .i64 t] w fun r w' => r = .returned (.tuple #[.slice none 0 0, .iface 205 (.pointer (some ad))]) ∧ Star w0 w' (fldR f G gl c :: L) := by
  have X0 := hid X
  have HF := hid hF
  have HE := hid he
  clear X hF he
  go_enter Tryd.func37, Tryd.ntmps37
  go_wp2_with fail
  refine (cell_in X0.out HF.out t ht).mono ?_
  rintro r w1 ⟨rfl, x, hX⟩
  rw [hc]
  have X1 := hid ((openL.shut HF.out.ok.max.2 hX).alloc #[.int .i64 (-1), .int .i64 (G.dirOf c t)] 41)
  clear hX X0
  go_wp2_with fail
  have hE := X1.out.same.keep HE.out
  have hEl := World.block_lt_of_cell? _ _ hE
  generalize w1.alloc _ = w2 at *
  go_quiet (fail)
  go_wp2
  go_ret2
  exact ⟨rfl, (X1.out.go ((Chg.refl _).drewN _)).drop⟩
set_option maxRecDepth 100000 in
set_option maxHeartbeats 8000000 in
theorem walk_ok (X : Star w0 w (fldR f G gl c :: L)) (hF : FOk G gl c) (s : Nat) (hs : G.free s = true) (h0 : 0 ≤ cAt c s) (V : List Nat) (hV : Gr.Fol G c s (some V)) :
    Calls Tryd.prog 37 #[.pointer (some ⟨f, 0, none⟩), .int .i64 s] w fun r w' => ∃ v, r = .returned (.tuple #[v, .nilIface]) ∧ Star w0 w' (Row 3 1 v V.length (gC V) :: fldR f G gl c :: L) := by
  obtain ⟨i0, hi0, hz0, hz1, hz2⟩ := info_parts infoInt
  have X0 := hid X
  have HF := hid hF
  have HV := hid hV
  have HS := hid hs
  have hsl := Gr.free_in hs
  clear X hF hV hs
  go_enter Tryd.func37, Tryd.ntmps37
  go_wp2_with fail
  refine (cell_in X0.out HF.out s hsl).mono ?_
  rintro r w1 ⟨rfl, x, hX⟩
  have hne : (cAt c s == -1) = false := by rw [beq_eq_false_iff_ne]; omega
  obtain ⟨p, g, gc, cv, b⟩ := x
  have hN := HF.out.ok.max
  obtain ⟨n, hn⟩ : ∃ n, n = G.fs.length := ⟨_, rfl⟩
  have HN := hid hn
  rw [← hn] at hN hsl hX
  have hcl := Gr.cells_len G c n
  obtain ⟨l, hl⟩ : ∃ l, l = G.cells c n := ⟨_, rfl⟩
  have HL := hid hl
  rw [← hl] at hX hcl
  have hrow := (hX.row 3 rfl).1
  obtain ⟨va, vc, hv⟩ := own_shape hrow (by omega)
  dsimp only at hv
  subst hv
  rw [hcl] at hrow
  have hY := hX
  unfold openL cellR at hY
  rw [hcl] at hY
  dsimp only at hY
  clear hX hrow X0 hcl hl hn
  have X1 := hid (hY.alloc #[.int .i64 (cAt c s), .int .i64 (G.dirOf c s)] 41)
  clear hY
  go_wp2_with fail
  have X2 : Hid (Star w0 _ (Row 3 1 (.slice (some ⟨_, 0, none⟩) 1 1) 1 (gC ([] ++ [s])) :: Blk f (fldC p g gl.length gc (.slice (some ⟨va, 0, none⟩) n vc)) 89 :: gndR 92 p G :: numR g gl.length gc gl :: Row 41 2 (.slice (some ⟨va, 0, none⟩) n vc) n (ceCs l) :: L)) := hid (X1.out.drop.add (w' := (w1.alloc (.cells #[.int .i64 (cAt c s), .int .i64 (G.dirOf c s)] 41)).alloc (.cells #[.int .i64 s] 3)) ((Chg.refl _).alloc _) (R := Row 3 1 (.slice (some ⟨(w1.alloc (.cells #[.int .i64 (cAt c s), .int .i64 (G.dirOf c s)] 41)).heap.size, 0, none⟩) 1 1) 1 (gC ([] ++ [s]))) ⟨World.ownsRow_lit _ #[.int .i64 s] 1 (Nat.zero_le _) (by unfold maxLen; omega) rfl, rfl⟩ (fun k h => by have := Option.some.inj h; rw [← this]; exact Nat.le_refl _))
  rw [World.size_alloc] at X2
  clear X1
  go_loopw [1, 8] (fun sv wv wr => ∃ (pre : List Nat) (t : Nat), sv = .int .i64 t ∧ FolI G c s pre t ∧ 0 ≤ cAt c t ∧ Star w0 wr (Row 3 1 wv (pre.length + 1) (gC (pre ++ [t])) :: Blk f (fldC p g gl.length gc (.slice (some ⟨va, 0, none⟩) n vc)) 89 :: gndR 92 p G :: numR g gl.length gc gl :: Row 41 2 (.slice (some ⟨va, 0, none⟩) n vc) n (ceCs l) :: L)) (fun sv _ _ => (cAt c (intOf sv).toNat).toNat)
  case atStart => exact ⟨[], s, rfl, FolI.start HS.out, h0, X2.out⟩
  case round =>
    obtain ⟨pre, t, rfl, hI, ht0, hX⟩ := hrel
    have HI := hid hI
    have X := hid hX
    have htn : t < n := by have := Gr.free_in hI.here; rwa [← HN.out] at this
    have hpl : pre.length + 1 ≤ n := by have := hI.len; rwa [← HN.out] at this
    obtain ⟨wa, wc, rfl, -⟩ := own_slice (hX.row 0 rfl).1
    have hb := (hX.blk 1 rfl).1
    have d0 := cell_of hb 0
    have d2 := cell_of hb 2
    have dl := lt_of hb
    simp only [List.getElem?_toArray, List.getElem?_cons_zero, List.getElem?_cons_succ] at d0 d2
    have hrow := (hX.row 4 rfl).1
    have g1 : wr.cell? ⟨va, t * 2 + 1, none⟩ = some (.int .i64 (G.dirOf c t)) := (hrow.cellAt (t * 2 + 1) (by omega)).trans ((rows_get ceC ceC_len _ t 1 _ (by rw [HL.out]; exact Gr.cells_get G c htn) (by omega)).trans rfl)
    have gvl := (hrow.lt va rfl).2
    clear hI hX X2 hb hrow
    by_cases hp : 0 < cAt c t
    · obtain ⟨x1, hx, hd⟩ := HF.out.least.dir HF.out.ok hp
      have HX := hid hx
      rw [hd] at g1
      have hgo := Gr.mem_around.1 (Gr.nxt_some hx).1
      have HI2 := hid (HI.out.go HF.out.ok hp hx)
      have hless := Gr.nxt_less hx
      have hto0 := (Gr.nxt_some hx).2.1
      obtain ⟨xd, xto, xc⟩ := x1
      dsimp only at g1 hgo hless hto0
      have HGO := hid (show goV xd (G.goI t xd) = .tuple #[.agg #[.int .i64 xd, .int .i64 xto, .int .i64 xc], .bool true] by rw [Gr.goI_nat, hgo]; rfl)
      have hnd : ((xd : Int) != -1) = true := by rw [bne_iff_ne]; omega
      obtain ⟨pg, pc, hG, -⟩ := gnd_at X.out 2 rfl
      have HG := hid hG
      clear hx hd hgo hG
      go_wp2_with fail
      have XA := hid ((X.out.alloc #[.int .i64 0, .int .i64 0, .int .i64 0] 47).go ((Chg.refl _).drew))
      have SA := hid (show Same wr (wr.alloc (.cells #[.int .i64 0, .int .i64 0, .int .i64 0] 47)).drew from ((Chg.refl wr).alloc _).drew)
      have m1 : ¬ wr.heap.size = f := by omega
      have m2 : ¬ f = wr.heap.size := by omega
      have m3 : ¬ wr.heap.size = va := by omega
      have m4 : ¬ va = wr.heap.size := by omega
      go_region_held3 (fun w' => w'.cell? ⟨f, 0, none⟩ = some (.pointer (some ⟨p, 0, none⟩)) ∧ w'.cell? ⟨f, 2, none⟩ = some (.slice (some ⟨va, 0, none⟩) n vc) ∧ w'.cell? ⟨va, t * 2 + 1, none⟩ = some (.int .i64 xd)) (go_keep) (first
        | (go_at_call 16; refine (go_any (HG.out.same SA.out) t xd).mono ?_; rintro r w3 ⟨rfl, hs3⟩; rw [HGO.out]; have k0 := (hs3.after' SA.out).keep d0; have k1 := (hs3.after' SA.out).keep d2; have k2 := (hs3.after' SA.out).keep g1; have X3 := hid (XA.out.go hs3); clear hs3; have hb := (X3.out.blk 0 rfl).1; have q0 := cell_of hb 0; have q1 := cell_of hb 1; have q2 := cell_of hb 2; have f0 := free_of hb 0; have f1 := free_of hb 1; have f2 := free_of hb 2; have ql := lt_of hb; simp only [List.getElem?_toArray, List.getElem?_cons_zero, List.getElem?_cons_succ] at q0 q1 q2; clear hb)
        | (go_at_call 16; refine (go_any (HG.out.same ((Chg.refl _).drew)) t xd).mono ?_; rintro r w3 ⟨rfl, hs3⟩; rw [HGO.out]; have k0 := (hs3.after' ((Chg.refl wr).drew)).keep d0; have k1 := (hs3.after' ((Chg.refl wr).drew)).keep d2; have k2 := (hs3.after' ((Chg.refl wr).drew)).keep g1; have X3 := hid ((X.out.go ((Chg.refl _).drew)).go hs3); clear hs3))
      all_goals
        clear k0 k1 k2 m1 m2 m3 m4 d0 d2 dl gvl g1 XA SA hnd HGO
        first
          | (have X4 : Hid (Star w0 (w3.alloc (.cells #[.int .i64 xd, .int .i64 xto, .int .i64 xc] 47)) (Blk w3.heap.size #[.int .i64 xd, .int .i64 xto, .int .i64 xc] 47 :: Row 3 1 (.slice wa (pre.length + 1) wc) (pre.length + 1) (gC (pre ++ [t])) :: Blk f (fldC p g gl.length gc (.slice (some ⟨va, 0, none⟩) n vc)) 89 :: gndR 92 p G :: numR g gl.length gc gl :: Row 41 2 (.slice (some ⟨va, 0, none⟩) n vc) n (ceCs l) :: L)) := hid (X3.out.alloc #[.int .i64 xd, .int .i64 xto, .int .i64 xc] 47)
             clear X3 X
             generalize w3.alloc _ = w4 at *
             generalize w3.heap.size = q at *)
          | (have X4 : Hid (Star w0 (((w3.setCell ⟨wr.heap.size, 0, none⟩ (.int .i64 xd)).setCell ⟨wr.heap.size, 1, none⟩ (.int .i64 xto)).setCell ⟨wr.heap.size, 2, none⟩ (.int .i64 xc)) (Blk wr.heap.size #[.int .i64 xd, .int .i64 xto, .int .i64 xc] 47 :: Row 3 1 (.slice wa (pre.length + 1) wc) (pre.length + 1) (gC (pre ++ [t])) :: Blk f (fldC p g gl.length gc (.slice (some ⟨va, 0, none⟩) n vc)) 89 :: gndR 92 p G :: numR g gl.length gc gl :: Row 41 2 (.slice (some ⟨va, 0, none⟩) n vc) n (ceCs l) :: L)) := hid (((X3.out.put 0 rfl 0 (.int .i64 xd)).put 0 rfl 1 (.int .i64 xto)).put 0 rfl 2 (.int .i64 xc))
             clear X3 X f0 f1 f2 ql q0 q1 q2 
             generalize ((w3.setCell ⟨wr.heap.size, 0, none⟩ (.int .i64 xd)).setCell ⟨wr.heap.size, 1, none⟩ (.int .i64 xto)).setCell ⟨wr.heap.size, 2, none⟩ (.int .i64 xc) = w4 at *
             generalize wr.heap.size = q at *)
        have hbq := (X4.out.blk 0 rfl).1
        have q1 := cell_of hbq 1
        have ql := lt_of hbq
        simp only [List.getElem?_toArray, List.getElem?_cons_zero, List.getElem?_cons_succ] at q1
        clear hbq
        have XD := hid (X4.out.alloc #[.int .i64 xto] 3)
        go_wp2_with (at_builtin; refine wpList_app rfl (.tmp 59) (.tmp 61) 24 rfl 3 i0 (.int .i64 0) 1 8 Tryd.underlying24 hi0 hz0 hz1 hz2 rfl (by decide) _ (pre.length + 1) (gC (pre ++ [t])) rfl (XD.out.row 2 rfl).1 (some ⟨w4.heap.size, 0, none⟩) 1 1 [.int .i64 xto] rfl (reads_blk (XD.out.blk 0 rfl).1 1 1 1 rfl) (by simp [Value.oneCell']) (by omega) (by omega) ?_; intro a5 c5 w5 ho5 hg5 hn5; have X5 := hid (XD.out.grown 2 rfl ho5 hg5 hn5).drop.drop; clear ho5 hg5 hn5)
        go_roundw
        case rel => exact ⟨pre ++ [t], xto, rfl, HI2.out, hto0, by rw [gC_snoc, List.length_append]; exact X5.out⟩
        case measure => simp [intOf]; omega
    · have HFF : Hid (V = pre ++ [t]) := hid (Option.some.inj (HV.out.det (HI.out.back _ (.done hp))))
      rw [dirOf_zero hp] at g1
      go_wp2
      go_ret2
      have h := X.out
      have el : (pre ++ [t]).length = pre.length + 1 := by simp
      rw [HFF.out, el]
      have hsh : Star w0 wr (openL f ⟨p, g, gc, .slice (some ⟨va, 0, none⟩) n vc, true⟩ G gl (G.cells c G.fs.length) (Row 3 1 (.slice wa (pre.length + 1) wc) (pre.length + 1) (gC (pre ++ [t])) :: L)) := by
        unfold openL cellR
        rw [Gr.cells_len, ← HN.out, ← HL.out]
        exact (((h.pull 4 rfl).pull 4 rfl).pull 4 rfl).pull 4 rfl
      exact ⟨_, rfl, (openL.shut HF.out.ok.max.2 hsh).swap⟩
end
end Go.Proofs.YtilobedihjkpjaaDoor.Fld
namespace Go.Proofs.YtilobedihjkpjaaDoor.Fld
open Go Go.RowKit Go.Proofs.YtilobedihjkpjaaDoor.Steps Go.Proofs.YtilobedihjkpjaaDoor.Ord Go.Proofs.YtilobedihjkpjaaDoor.Route
section
variable {w0 w : World} {L : List Res} {f : Nat} {G : Gr} {gl c : List Int}
set_option maxRecDepth 100000 in
set_option maxHeartbeats 4000000 in
theorem nearest_out (X : Star w0 w (fldR f G gl c :: L)) (hF : FOk G gl c) (t : Int) (ht : t < 0 ∨ (G.fs.length : Int) ≤ t) (ad : Addr) (he : w0.cell? ⟨1, 0, none⟩ = some (.iface 205 (.pointer (some ad)))) :
    Calls Tryd.prog 39 #[.pointer (some ⟨f, 0, none⟩), .int .i64 t] w fun r w' => r = .returned (.tuple #[.int .i64 0, .iface 205 (.pointer (some ad))]) ∧ Star w0 w' (fldR f G gl c :: L) := by
  have X0 := hid X
  have HF := hid hF
  have HE := hid he
  clear X hF he
  go_enter Tryd.func39, Tryd.ntmps39
  go_wp2_with fail
  refine (walk_out X0.out HF.out t ht _ HE.out).mono ?_
  rintro r w1 ⟨rfl, hX⟩
  have X1 := hid hX
  clear hX X0
  go_wp2_with fail
  go_ret2
  exact ⟨rfl, X1.out⟩
set_option maxRecDepth 100000 in
set_option maxHeartbeats 4000000 in
theorem nearest_no (X : Star w0 w (fldR f G gl c :: L)) (hF : FOk G gl c) (t : Nat) (ht : t < G.fs.length) (hc : cAt c t = -1) (ad : Addr) (he : w0.cell? ⟨9, 0, none⟩ = some (.iface 205 (.pointer (some ad)))) :
    Calls Tryd.prog 39 #[.pointer (some ⟨f, 0, none⟩), .int .i64 t] w fun r w' => r = .returned (.tuple #[.int .i64 0, .iface 205 (.pointer (some ad))]) ∧ Star w0 w' (fldR f G gl c :: L) := by
  have X0 := hid X
  have HF := hid hF
  have HE := hid he
  clear X hF he
  go_enter Tryd.func39, Tryd.ntmps39
  go_wp2_with fail
  refine (walk_no X0.out HF.out t ht hc _ HE.out).mono ?_
  rintro r w1 ⟨rfl, hX⟩
  have X1 := hid hX
  clear hX X0
  go_wp2_with fail
  go_ret2
  exact ⟨rfl, X1.out⟩
set_option maxRecDepth 100000 in
set_option maxHeartbeats 4000000 in
theorem nearest_ok (X : Star w0 w (fldR f G gl c :: L)) (hF : FOk G gl c) (s : Nat) (hs : G.free s = true) (h0 : 0 ≤ cAt c s) (V : List Nat) (hV : Gr.Fol G c s (some V)) (e : Nat) (he : V.getLast? = some e) (hvl : V.length ≤ 4096) :
    Calls Tryd.prog 39 #[.pointer (some ⟨f, 0, none⟩), .int .i64 s] w fun r w' => r = .returned (.tuple #[.int .i64 e, .nilIface]) ∧ Star w0 w' (fldR f G gl c :: L) := by
  have X0 := hid X
  have HF := hid hF
  have HV := hid hV
  have HS := hid hs
  have hlen : 1 ≤ V.length := by cases V with | nil => cases he | cons a l => simp
  have he2 : (gC V)[V.length - 1]? = some (.int .i64 (e : Int)) := by
    rw [List.getLast?_eq_getElem?] at he
    unfold gC
    rw [List.getElem?_map, he]; rfl
  clear X hF hV hs he
  go_enter Tryd.func39, Tryd.ntmps39
  go_wp2_with fail
  refine (walk_ok X0.out HF.out s HS.out h0 V HV.out).mono ?_
  rintro r w1 ⟨v, rfl, hX⟩
  have hrow := (hX.row 0 rfl).1
  obtain ⟨va, vc, rfl⟩ := own_shape hrow hlen
  have X1 := hid hX
  obtain ⟨m, hm⟩ : ∃ m, m + 1 = V.length := ⟨V.length - 1, by omega⟩
  have g1 : w1.cell? ⟨va, m, none⟩ = some (.int .i64 (e : Int)) := (hrow.cellAt m (by omega)).trans (by rw [show m = V.length - 1 by omega]; exact he2)
  have gl1 := (hrow.lt va rfl).2
  rw [← hm] at hvl ⊢
  have hw : IntKind.i64.wrap (((m + 1 : Nat) : Int) - 1) = (m : Int) := by rw [show (((m + 1 : Nat) : Int) - 1) = (m : Int) by omega]; exact IntWalk.i64_in _ (by omega)
  have hw2 : IntKind.i64.wrap ((m : Int) + 1 - 1) = (m : Int) := by rw [show ((m : Int) + 1 - 1) = (m : Int) by omega]; exact IntWalk.i64_in _ (by omega)
  clear hX X0 hrow he2 hlen hm
  go_wp2_with fail
  go_ret2
  exact ⟨rfl, X1.out.drop⟩
end
end Go.Proofs.YtilobedihjkpjaaDoor.Fld
