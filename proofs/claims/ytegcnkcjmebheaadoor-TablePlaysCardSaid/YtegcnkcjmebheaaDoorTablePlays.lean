/-
  TablePlays: the walk.
-/
import Derived.Test.YtegcnkcjmebheaaDoorPlaysR
import Derived.Test.YtegcnkcjmebheaaDoorAlive07
namespace Go.Proofs.YtegcnkcjmebheaaDoor.TablePlays
open Go Go.RowKit Go.Maps Go.Proofs.YtegcnkcjmebheaaDoor.Mask Go.Proofs.YtegcnkcjmebheaaDoor.Tab
section
variable {w0 w : World} {L : List Res} {t : Pl} {m : Nat} {kv : Value} {H : List Hd} {X : Nat → List Vl} {A B C : Res}
theorem toM {Ns : List Res} (Y : Star w0 w (tabL t m kv H X (Ns ++ (A :: B :: C :: L)))) : Star w0 w (A :: B :: C :: tabL t m kv H X (Ns ++ L)) := by
  refine Y.perm ?_
  have h := List.perm_append_comm_assoc (tabB t.p t.hp m kv t.mb :: CH.R t.hp H 128 :: mapB t.mb t.n t.cols :: (colS t.cols X ++ Ns)) [A, B, C] L
  simpa only [List.cons_append, List.append_assoc, List.nil_append] using h
theorem toS {Ns : List Res} (Y : Star w0 w (A :: B :: C :: tabL t m kv H X (Ns ++ L))) : Star w0 w (tabL t m kv H X (Ns ++ (A :: B :: C :: L))) := by
  refine Y.perm ?_
  have h := List.perm_append_comm_assoc [A, B, C] (tabB t.p t.hp m kv t.mb :: CH.R t.hp H 128 :: mapB t.mb t.n t.cols :: (colS t.cols X ++ Ns)) L
  simpa only [List.cons_append, List.append_assoc, List.nil_append] using h
/-- A thing ahead of a table goes behind its kinds. -/
theorem tabPush {R N : Res} (Y : Star w0 w (R :: tabL t m kv H X (N :: L))) : Star w0 w (tabL t m kv H X (N :: R :: L)) := tabSwap (tabIn Y)
end
theorem star_dropL {w0 w : World} {L : List Res} : ∀ {M : List Res}, Star w0 w (M ++ L) → Star w0 w L
  | [], X => X
  | _ :: M, X => star_dropL (M := M) X.drop
section
variable {w0 w : World} {L : List Res} {t t' : Pl} {m : Nat} {kv : Value} {H H' : List Hd} {X X' : Nat → List Vl} {N : Res}
/-- The old table ahead of its clone, and the clone alone. -/
theorem cloneL (Y : Star w0 w (tabL t' m kv H' X' (tabL t m kv H X (N :: L)))) : Star w0 w (tabL t m kv H X (N :: tabL t' m kv H' X' L)) := by
  refine Y.perm ?_
  have h := List.perm_append_comm_assoc (tabB t'.p t'.hp m kv t'.mb :: CH.R t'.hp H' 128 :: mapB t'.mb t'.n t'.cols :: colS t'.cols X') (tabB t.p t.hp m kv t.mb :: CH.R t.hp H 128 :: mapB t.mb t.n t.cols :: (colS t.cols X ++ [N])) L
  simpa only [List.cons_append, List.append_assoc, List.nil_append] using h
theorem cloneR (Y : Star w0 w (tabL t m kv H X (N :: tabL t' m kv H' X' L))) : Star w0 w (tabL t' m kv H' X' (N :: L)) := by
  refine star_dropL (M := tabB t.p t.hp m kv t.mb :: CH.R t.hp H 128 :: mapB t.mb t.n t.cols :: colS t.cols X) (Y.perm ?_)
  have h := (List.perm_append_comm_assoc [N] (tabB t'.p t'.hp m kv t'.mb :: CH.R t'.hp H' 128 :: mapB t'.mb t'.n t'.cols :: colS t'.cols X') L).append_left (tabB t.p t.hp m kv t.mb :: CH.R t.hp H 128 :: mapB t.mb t.n t.cols :: colS t.cols X)
  simpa only [List.cons_append, List.append_assoc, List.nil_append] using h
end
/-- Both tables, the program's first. -/
abbrev stS (t : Pl) (m : Nat) (kv : Value) (es : List En) (q : Nat) (sl : Value) (G : List En) (L : List Res) : List Res := tabL t m kv (hE es) (colE es) (natRow kv (bitsOf m) :: rfB q m sl :: rfE sl es :: poolR G :: L)
set_option maxRecDepth 100000 in
set_option maxHeartbeats 16000000 in
theorem walk (m : Nat) (hm : m ≤ 18446744073709551615) (v : Value) (os : List OpT) (w : World) (hr : Reads w v os.length 9 (os.flatMap OpT.cells)) (hb : os.length ≤ 9223372036854775807) (hall : ∀ o ∈ os, Reads w o.rv o.row.length 3 (o.row.flatMap vc) ∧ o.row.length ≤ 9223372036854775807 ∧ (-9223372036854775808 ≤ o.v.k ∧ o.v.k ≤ 9223372036854775807)) (ad : Nat → Addr) (hE : Err.Errs w ad) (hT : Mask.Tab w) :
    Calls Tryd.prog 6 #[mk m, v] w fun r w' => r = .returned (.bool true) ∧ Same w w' := by
  obtain ⟨a, cb, rfl⟩ := hr.slice
  have HE := hid hE
  have HT := hid hT
  have HALL := hid hall
  obtain ⟨n, hn⟩ : ∃ n, n = os.length := ⟨_, rfl⟩
  have HN := hid hn
  have HR := hid hr
  rw [← hn] at HR hb ⊢
  clear hE hT hr hn hall
  go_enter Tryd.func6, Tryd.ntmps6
  go_wp2_with fail
  refine (alive_any ad HE.out.tab HT.out).mono ?_
  rintro r w1 ⟨rfl, hs1⟩
  have S1 := hid hs1
  clear hs1
  by_cases h60 : 60 < n
  · go_wp2_with fail
    go_ret
    exact ⟨rfl, S1.out⟩
  by_cases hm10 : 1024 ≤ m
  · have hK := (HE.out.same S1.out).c4
    go_wp2_with fail
    refine (new_bad m hm10 _ hK).mono ?_
    rintro r w2 ⟨rfl, hs2⟩
    have S2 := hid (S1.out.trans hs2 (fun _ _ f => f))
    clear hs2 hK
    go_wp2_with fail
    refine (Err.num_err ad 4 (by omega) _ (HE.out.same S2.out)).mono ?_
    rintro r w3 ⟨rfl, hs3⟩
    have S3 := hid (S2.out.trans hs3 (fun _ _ f => f))
    clear hs3
    go_wp2
    go_ret
    exact ⟨rfl, S3.out⟩
  · have hm2 : m < 1024 := by omega
    go_wp2_with fail
    refine (new_any ((Star.new w).go S1.out) m hm2 HT.out).mono ?_
    rintro r w2 ⟨t, kv, hok, rfl, hX⟩
    have HOK := hid hok
    have X2 := hid hX
    clear hok hX
    go_wp2_with fail
    refine (mask_any X2.out).mono ?_
    rintro r w' ⟨rfl, rfl⟩
    go_upto_region 11 with (fail)
    have X3 : Hid (Star w (w2.alloc (.cells #[mk m, .slice none 0 0] 68)) (stS t m kv [] w2.heap.size (.slice none 0 0) [] [])) := hid (by
      have h := pool_new X2.out
      have h2 := h.nilRow 46 3
      have h3 := h2.alloc #[mk m, .slice none 0 0] 68
      exact toS (Ns := [_]) h3)
    have HM2 := hid hm2
    clear X2 hm10 hm2
    generalize w2.alloc _ = w3 at *
    generalize w2.heap.size = q at *
    go_wp2_with fail
    go_loopw [5, 72] (fun pv iv wr => ∃ (j : Nat) (t : Pl) (sl : Value) (es G : List En), j ≤ n ∧ pv = .pointer (some ⟨t.p, 0, none⟩) ∧ iv = .int .i64 j ∧ TOk t (bitsOf m) ∧ Inv m es G ∧ Star w wr (stS t m kv es q sl G [])) (fun _ iv _ => n - (intOf iv).toNat)
    case atStart => exact ⟨0, t, .slice none 0 0, [], [], by omega, rfl, rfl, HOK.out, ⟨by simp, by simp, by simp⟩, X3.out⟩
    case round =>
      obtain ⟨j, t, sl, es, G, hj, rfl, rfl, hok, hinv, hX⟩ := hrel
      have X := hid hX
      have HTO := hid hok
      have HI := hid hinv
      clear hX X3 HOK hok hinv
      by_cases hjn : j < n
      · obtain ⟨b, off, cap, e1, hbl, hcl⟩ := HR.out.open (by have := HN.out; omega)
        have hjo : j < os.length := by have := HN.out; omega
        obtain ⟨o, ho⟩ : ∃ o, os[j]? = some o := ⟨_, List.getElem?_eq_getElem hjo⟩
        have g0 := X.out.keepCell (hcl (j * 9 + 0) _ ((rows_get OpT.cells OpT.len os j 0 o ho (by omega)).trans rfl))
        have g1 := X.out.keepCell (hcl (j * 9 + 1) _ ((rows_get OpT.cells OpT.len os j 1 o ho (by omega)).trans rfl))
        have g2 := X.out.keepCell (hcl (j * 9 + 2) _ ((rows_get OpT.cells OpT.len os j 2 o ho (by omega)).trans rfl))
        have g3 := X.out.keepCell (hcl (j * 9 + 3) _ ((rows_get OpT.cells OpT.len os j 3 o ho (by omega)).trans rfl))
        have g4 := X.out.keepCell (hcl (j * 9 + 4) _ ((rows_get OpT.cells OpT.len os j 4 o ho (by omega)).trans rfl))
        have g5 := X.out.keepCell (hcl (j * 9 + 5) _ ((rows_get OpT.cells OpT.len os j 5 o ho (by omega)).trans rfl))
        have g6 := X.out.keepCell (hcl (j * 9 + 6) _ ((rows_get OpT.cells OpT.len os j 6 o ho (by omega)).trans rfl))
        have g7 := X.out.keepCell (hcl (j * 9 + 7) _ ((rows_get OpT.cells OpT.len os j 7 o ho (by omega)).trans rfl))
        have g8 := X.out.keepCell (hcl (j * 9 + 8) _ ((rows_get OpT.cells OpT.len os j 8 o ho (by omega)).trans rfl))
        have gb : b < wr.heap.size := Nat.lt_of_lt_of_le hbl X.out.same.size
        obtain ⟨hil, hll, hvk⟩ := HALL.out o (List.mem_of_getElem? ho)
        rw [Nat.add_zero] at g0
        rw [← Nat.add_assoc] at g1 g2 g3 g4 g5 g6 g7 g8
        obtain ⟨kind, oi, on, ⟨oh1, oh2⟩, orv, row, ⟨vk, va, vb⟩⟩ := o
        obtain ⟨ar, cr, e2⟩ := hil.slice
        dsimp only at e2 hil hll hvk g0 g1 g2 g3 g4 g5 g6 g7 g8
        subst e2
        obtain ⟨rl, hrl⟩ : ∃ rl, rl = row.length := ⟨_, rfl⟩
        rw [← hrl] at hll g5
        have HRL := hid hrl
        have HIL : Hid (∀ {w' : World} {L : List Res}, Star w w' L → Reads w' (.slice ar rl cr) row.length 3 (row.flatMap vc)) := hid (fun X => by have h := X.reads hil; rw [hrl]; exact h)
        have HIL0 : Hid (Reads w (.slice ar rl cr) row.length 3 (row.flatMap vc)) := hid (by rw [hrl]; exact hil)
        have HVK := hid hvk
        cases e1
        clear hcl ho hil hrl hvk hbl
        by_cases h30 : 30 < rl
        · go_wp2
          go_ret
          exact ⟨rfl, X.out.same.alloc _⟩
        have XO : Hid (Star w (wr.alloc (.cells #[.int .i64 kind, .int .i64 oi, .int .i64 on, .int .i64 oh1, .int .i64 oh2, .slice ar rl cr, .int .i64 vk, .int .i64 va, .int .i64 vb] 70)) (Blk wr.heap.size #[.int .i64 kind, .int .i64 oi, .int .i64 on, .int .i64 oh1, .int .i64 oh2, .slice ar rl cr, .int .i64 vk, .int .i64 va, .int .i64 vb] 70 :: stS t m kv es q sl G [])) := hid (X.out.alloc #[.int .i64 kind, .int .i64 oi, .int .i64 on, .int .i64 oh1, .int .i64 oh2, .slice ar rl cr, .int .i64 vk, .int .i64 va, .int .i64 vb] 70)
        go_upto_block 2 with (fail)
        clear g0 g1 g2 g3 g4 g5 g6 g7 g8 gb X
        generalize wr.alloc _ = wo at *
        generalize wr.heap.size = qo at *
        go_cut [5, 10] (fun s5 s10 wx => ∃ (t6 : Pl) (sl6 : Value) (es6 G6 : List En), s5 = .pointer (some ⟨t6.p, 0, none⟩) ∧ s10 = .bool true ∧ TOk t6 (bitsOf m) ∧ Inv m es6 G6 ∧ Star w wx (stS t6 m kv es6 q sl6 G6 [Blk qo #[.int .i64 kind, .int .i64 oi, .int .i64 on, .int .i64 oh1, .int .i64 oh2, .slice ar rl cr, .int .i64 vk, .int .i64 va, .int .i64 vb] 70]))
        case rest =>
          obtain ⟨t6, sl6, es6, G6, rfl, rfl, hok6, hinv6, hX6⟩ := hcut
          rename World => wx
          clear XO HTO HI
          as_aux_lemma =>
            have XT := hid hX6
            have HT6 := hid hok6
            have HI6 := hid hinv6
            obtain ⟨a6, c6, rfl, -⟩ := own_slice (hX6.row 15 rfl).1
            obtain ⟨nx, hnx⟩ : ∃ nx, nx = es6.length := ⟨_, rfl⟩
            have HNX := hid hnx
            have hb0 := (hX6.blk 0 rfl).1
            have hb1 := (hX6.blk 14 rfl).1
            rw [← hnx] at hb1
            have c0 := SameW.cell (show wx.cell? ⟨t6.p, 0, none⟩ = some (.pointer (some ⟨t6.hp, 0, none⟩)) from cell_of hb0 0)
            have c1 := SameW.cell (show wx.cell? ⟨q, 1, none⟩ = some (.slice a6 nx c6) from cell_of hb1 1)
            have LEN := hid (fun n : SameW wx => (show Calls Tryd.prog 10 #[.pointer (some ⟨t6.hp, 0, none⟩)] n.w fun r w' => r = .returned (.int .i64 nx) ∧ n.w = w' from by
              have h := CH.len_any ((hX6.go n.same).pull 1 rfl)
              rw [List.length_map, ← hnx] at h
              exact h))
            have hl0 := lt_of hb0
            have hl1 := lt_of hb1
            clear hX6 hok6 hinv6 hnx hb0 hb1
            go_upto_region 49 with (fail)
            refine wp_region_same (by kernel_rfl) (by kernel_rfl) ?_
            repeat (go_big_quiet_step (first | (go_at_call 10; with_reducible exact Calls.same_of_eq (LEN.out _))))
            with_reducible refine wpQuiet_nil ?_
            rintro w8 ⟨n8, rfl⟩
            have X8 := hid (XT.out.go n8.same)
            clear XT c0 c1 LEN hl0 hl1
            generalize n8.w = w8 at *
            have YA := hid (handles_any X8.out (by rw [List.length_map]; have := HI6.out.len; omega))
            go_wp2_with fail
            refine YA.out.mono ?_
            rintro r w9 ⟨v9, rfl, hX9⟩
            obtain ⟨hl, hhl⟩ : ∃ hl, hl = (hE es6).length := ⟨_, rfl⟩
            rw [← hhl] at hX9
            have HHL := hid (show hl = es6.length by rw [hhl, List.length_map])
            obtain ⟨ah, ch, rfl, -⟩ := own_slice (hX9.row 0 rfl).1
            have X9 := hid hX9
            have hb := (hX9.blk 15 rfl).1
            have b1 := cell_of hb 1
            have bl := lt_of hb
            simp only [List.getElem?_toArray, List.getElem?_cons_zero, List.getElem?_cons_succ] at b1
            clear hb
            rw [← HNX.out] at b1
            clear YA X8 hX9 hhl
            have hnb : nx ≤ 128 := by have := HNX.out; have := HI6.out.len; omega
            go_wp2_with fail
            go_loopw [247] (fun iv wr => ∃ k : Nat, k ≤ nx ∧ iv = .int .i64 k ∧ Star w wr (Row 35 2 (.slice ah hl ch) hl ((hE es6).flatMap hc) :: stS t6 m kv es6 q (.slice a6 es6.length c6) G6 [Blk qo #[.int .i64 kind, .int .i64 oi, .int .i64 on, .int .i64 oh1, .int .i64 oh2, .slice ar rl cr, .int .i64 vk, .int .i64 va, .int .i64 vb] 70])) (fun iv _ => nx - (intOf iv).toNat)
            case atStart => exact ⟨0, by omega, rfl, X9.out⟩
            case round =>
              obtain ⟨k, hk, rfl, hX⟩ := hrel
              rename World => wz
              have XA := hid hX
              clear hX X9 b1 bl
              by_cases hkn : k < nx
              · obtain ⟨e, he⟩ : ∃ e, es6[k]? = some e := ⟨_, List.getElem?_eq_getElem (by have := HNX.out; omega)⟩
                obtain ⟨hgood, heG⟩ := HI6.out.get he
                have HE6 := hid he
                have HEG := hid heG
                have HEL := hid (hgood.len HM2.out)
                obtain ⟨g6, c6', hsl⟩ := own_shape (XA.out.row 16 rfl).1 (by have := HNX.out; omega)
                cases hsl
                obtain ⟨g9, c9, hs9⟩ := own_shape (XA.out.row 0 rfl).1 (by have := HNX.out; have := HHL.out; omega)
                cases hs9
                obtain ⟨e0, e1, e2, egl⟩ := ent_cells XA.out 16 rfl rfl he
                obtain ⟨⟨eh1, eh2⟩, ea, ec', evs⟩ := e
                obtain ⟨el, hel⟩ : ∃ el, el = evs.length := ⟨_, rfl⟩
                dsimp only [En.v] at e0 e1 e2
                rw [← hel] at e2
                have HEV := hid hel
                have hkl : k < hl := by have := HNX.out; have := HHL.out; omega
                clear he hgood heG hel
                go_wp2_with fail
                have XB := hid (tabPush ((tabPush XA.out).alloc #[.int .i64 eh1, .int .i64 eh2, .slice ea el ec'] 46))
                clear XA e0 e1 e2 egl
                generalize wz.alloc _ = wa at *
                generalize wz.heap.size = q29 at *
                refine (entity_any XB.out HT6.out HM2.out k HI6.out ad HE.out.tab).mono ?_
                rintro r wb ⟨vv, rfl, hXb⟩
                rw [getE_nat, HE6.out] at hXb ⊢
                dsimp only [hO, vsO] at hXb ⊢
                rw [show Err.errV ad (kO (some (En.mk (eh1, eh2) ea ec' evs))) = .nilIface from rfl]
                rw [← HEV.out] at hXb
                obtain ⟨va', vc', rfl, -⟩ := own_slice (hXb.row 0 rfl).1
                have XC := hid (tabPush ((tabPush hXb).alloc (enC eh1 eh2 (.slice va' el vc')) 46))
                dsimp only [enC] at XC ⊢
                clear hXb XB
                go_upto_region 56 with (fail)
                generalize wb.alloc _ = wc at *
                generalize wb.heap.size = q30 at *
                go_wp2_with fail
                refine (handle_in XC.out k (eh1, eh2) (by simp [HE6.out]) (by rw [List.length_map]; have := HI6.out.len; omega)).mono ?_
                rintro r wd ⟨rfl, hXd⟩
                have XD := hid (hXd.alloc #[.int .i64 eh1, .int .i64 eh2] 35)
                clear hXd XC
                go_upto_region 57 with (fail)
                generalize wd.alloc _ = we at *
                generalize wd.heap.size = q32 at *
                have hb0 := (XD.out.blk 0 rfl).1
                have hb30 := (XD.out.blk 15 rfl).1
                have hb29 := (XD.out.blk 17 rfl).1
                have hrh := (XD.out.row 18 rfl).1
                have s0 := SameW.cell (show we.cell? ⟨q32, 0, none⟩ = some (.int .i64 eh1) from cell_of hb0 0)
                have s1 := SameW.cell (show we.cell? ⟨q32, 1, none⟩ = some (.int .i64 eh2) from cell_of hb0 1)
                have s2 := SameW.cell (show we.cell? ⟨q30, 0, none⟩ = some (.int .i64 eh1) from cell_of hb30 0)
                have s3 := SameW.cell (show we.cell? ⟨q30, 1, none⟩ = some (.int .i64 eh2) from cell_of hb30 1)
                have s4 := SameW.cell (show we.cell? ⟨q30, 2, none⟩ = some (.slice va' el vc') from cell_of hb30 2)
                have s5 := SameW.cell (show we.cell? ⟨q29, 0, none⟩ = some (.int .i64 eh1) from cell_of hb29 0)
                have s6 := SameW.cell (show we.cell? ⟨q29, 1, none⟩ = some (.int .i64 eh2) from cell_of hb29 1)
                have s7 := SameW.cell (show we.cell? ⟨q29, 2, none⟩ = some (.slice ea el ec') from cell_of hb29 2)
                have hh : (hE es6)[k]? = some (eh1, eh2) := by simp [HE6.out]
                have s8 := SameW.cell (show we.cell? ⟨g9, k * 2, none⟩ = some (.int .i64 eh1) from (hrh.cellAt _ (by omega)).trans ((rows_get hc hc_len (hE es6) k 0 _ hh (by omega)).trans rfl))
                have s9 := SameW.cell (show we.cell? ⟨g9, k * 2 + 1, none⟩ = some (.int .i64 eh2) from (hrh.cellAt _ (by omega)).trans ((rows_get hc hc_len (hE es6) k 1 _ hh (by omega)).trans rfl))
                have l0 := lt_of hb0
                have l1 := lt_of hb30
                have l2 := lt_of hb29
                have l3 := (hrh.lt g9 rfl).2
                have SM := hid (fun n : SameW we => (show Calls Tryd.prog 24 #[.agg #[.int .i64 eh1, .int .i64 eh2, .slice va' el vc'], .agg #[.int .i64 eh1, .int .i64 eh2, .slice ea el ec']] n.w fun r w' => r = .returned (.bool true) ∧ Same n.w w' from by
                  have hA := Reads.of_own ((XD.out.go n.same).row 16 rfl).1
                  have hB := pool_reads (XD.out.go n.same) 21 rfl HEG.out
                  dsimp only [En.v] at hB
                  rw [← HEV.out] at hB
                  refine same_true eh1 eh2 (.slice va' el vc') (.slice ea el ec') evs n.w ?_ ?_ (by have := HEL.out; omega)
                  · rw [← HEV.out]; exact hA
                  · rw [← HEV.out]; exact hB))
                clear hb0 hb30 hb29 hrh hh
                refine wp_region_same (by kernel_rfl) (by kernel_rfl) ?_
                repeat (go_big_quiet_step (first | (go_at_call 24; with_reducible exact Calls.same_of (SM.out _))))
                with_reducible refine wpQuiet_nil ?_
                rintro wf ⟨nf, rfl⟩
                have XE : Hid (Star w nf.w (Row 35 2 (.slice (some ⟨g9, 0, none⟩) hl ch) hl ((hE es6).flatMap hc) :: stS t6 m kv es6 q (.slice (some ⟨g6, 0, none⟩) es6.length c6) G6 [Blk qo #[.int .i64 kind, .int .i64 oi, .int .i64 on, .int .i64 oh1, .int .i64 oh2, .slice ar rl cr, .int .i64 vk, .int .i64 va, .int .i64 vb] 70])) := hid ((((((((XD.out.go nf.same).drop.pull 14 rfl).drop).pull 14 rfl).drop).pull 14 rfl).drop).pull 14 rfl)
                clear s0 s1 s2 s3 s4 s5 s6 s7 s8 s9 l0 l1 l2 l3 SM XD
                generalize nf.w = wf at *
                go_wp2_with fail
                go_roundw
                case rel =>
                  have hrel : ∃ k' : Nat, k' ≤ nx ∧ Value.int .i64 ((k : Int) + 1) = .int .i64 k' ∧ Star w wf (Row 35 2 (.slice (some ⟨g9, 0, none⟩) hl ch) hl ((hE es6).flatMap hc) :: stS t6 m kv es6 q (.slice (some ⟨g6, 0, none⟩) es6.length c6) G6 [Blk qo #[.int .i64 kind, .int .i64 oi, .int .i64 on, .int .i64 oh1, .int .i64 oh2, .slice ar rl cr, .int .i64 vk, .int .i64 va, .int .i64 vb] 70]) := ⟨k + 1, by omega, by go_num, XE.out⟩
                  first | exact hrel | ((repeat apply Exists.intro); exact ⟨hrel, rfl⟩)
                case measure => simp [intOf]; omega
              · have XB := hid XA.out.drop
                have hb := (XB.out.blk 17 rfl).1
                have o1 : wz.cell? ⟨qo, 1, none⟩ = some (.int .i64 oi) := cell_of hb 1
                have ol := lt_of hb
                clear hb XA
                go_wp2_with fail
                refine (entity_any XB.out HT6.out HM2.out oi HI6.out ad HE.out.tab).mono ?_
                rintro r wb ⟨vv, rfl, hXb⟩
                obtain ⟨F, hF⟩ : ∃ F, F = getE es6 oi := ⟨_, rfl⟩
                rw [← hF] at hXb ⊢
                have HF := hid hF
                obtain ⟨va', vc', rfl, -⟩ := own_slice (hXb.row 0 rfl).1
                have XC := hid (tabPush ((tabPush hXb).alloc (enC (hO F).1 (hO F).2 (.slice va' (vsO F).length vc')) 46))
                dsimp only [enC] at XC ⊢
                clear hXb XB o1 ol hF
                go_upto_region 61 with (fail)
                generalize wb.alloc _ = wc at *
                generalize wb.heap.size = q34 at *
                have hb := (XC.out.blk 19 rfl).1
                have hb34 := (XC.out.blk 14 rfl).1
                have o1 : wc.cell? ⟨qo, 1, none⟩ = some (.int .i64 oi) := cell_of hb 1
                have ol := lt_of hb
                have e0 : wc.cell? ⟨q34, 0, none⟩ = some (.int .i64 (hO F).1) := cell_of hb34 0
                have e1 : wc.cell? ⟨q34, 1, none⟩ = some (.int .i64 (hO F).2) := cell_of hb34 1
                have e2 : wc.cell? ⟨q34, 2, none⟩ = some (.slice va' (vsO F).length vc') := cell_of hb34 2
                have el := lt_of hb34
                clear hb hb34
                have RH := hid (rhas_any (toM (Ns := [_, _, _]) XC.out) oi)
                rw [← HF.out] at RH
                have XD : Hid (Star w wc (stS t6 m kv es6 q (.slice a6 es6.length c6) G6 [Blk qo #[.int .i64 kind, .int .i64 oi, .int .i64 on, .int .i64 oh1, .int .i64 oh2, .slice ar rl cr, .int .i64 vk, .int .i64 va, .int .i64 vb] 70])) := hid ((((XC.out.pull 14 rfl).drop).pull 14 rfl).drop)
                clear XC
                cases F with
                | none =>
                  dsimp only [hO, vsO, kO, List.length_nil] at *
                  go_wp2_with fail
                  refine RH.out.mono ?_
                  rintro r w' ⟨rfl, rfl⟩
                  simp only [Option.isSome_none]
                  rw [show Err.errV ad 1 = .iface 143 (.pointer (some (ad 0))) from rfl]
                  clear RH
                  go_wp2_with fail
                  refine (Err.num_err ad 0 (by omega) _ (HE.out.same XD.out.same)).mono ?_
                  rintro r wd ⟨rfl, hsd⟩
                  have k0 := hsd.keep e0
                  have k1 := hsd.keep e1
                  have k2 := hsd.keep e2
                  have kl := Nat.lt_of_lt_of_le el hsd.size
                  have XE := hid (XD.out.go hsd)
                  clear hsd XD e0 e1 e2 el o1 ol
                  go_wp2_with fail
                  go_roundw
                  case rel =>
                    have hrel : ∃ (j' : Nat) (t' : Pl) (sl' : Value) (es' G' : List En), j' ≤ n ∧ Value.pointer (some ⟨t6.p, 0, none⟩) = .pointer (some ⟨t'.p, 0, none⟩) ∧ Value.int .i64 ((j : Int) + 1) = .int .i64 j' ∧ TOk t' (bitsOf m) ∧ Inv m es' G' ∧ Star w wd (stS t' m kv es' q sl' G' []) := ⟨j + 1, t6, _, es6, G6, by omega, rfl, by go_num, HT6.out, HI6.out, (XE.out.pull 17 rfl).drop⟩
                    first | exact hrel | ((repeat apply Exists.intro); exact ⟨hrel, rfl⟩)
                  case measure => simp [intOf]; omega
                | some e =>
                  go_wp2_with fail
                  refine RH.out.mono ?_
                  rintro r w' ⟨rfl, rfl⟩
                  simp only [Option.isSome_some]
                  clear RH
                  go_wp2_with fail
                  go_roundw
                  case rel =>
                    have hrel : ∃ (j' : Nat) (t' : Pl) (sl' : Value) (es' G' : List En), j' ≤ n ∧ Value.pointer (some ⟨t6.p, 0, none⟩) = .pointer (some ⟨t'.p, 0, none⟩) ∧ Value.int .i64 ((j : Int) + 1) = .int .i64 j' ∧ TOk t' (bitsOf m) ∧ Inv m es' G' ∧ Star w _ (stS t' m kv es' q sl' G' []) := ⟨j + 1, t6, _, es6, G6, by omega, rfl, by go_num, HT6.out, HI6.out, (XD.out.pull 17 rfl).drop⟩
                    first | exact hrel | ((repeat apply Exists.intro); exact ⟨hrel, rfl⟩)
                  case measure => simp [intOf]; omega
        case first =>
          have XP : Hid (Star w wo (stS t m kv es q sl G [Blk qo #[.int .i64 kind, .int .i64 oi, .int .i64 on, .int .i64 oh1, .int .i64 oh2, .slice ar rl cr, .int .i64 vk, .int .i64 va, .int .i64 vb] 70])) := hid (star_rot (M := [Blk qo #[.int .i64 kind, .int .i64 oi, .int .i64 on, .int .i64 oh1, .int .i64 oh2, .slice ar rl cr, .int .i64 vk, .int .i64 va, .int .i64 vb] 70]) (N := stS t m kv es q sl G []) XO.out)
          clear XO
          have hbo := (XP.out.blk 17 rfl).1
          have o0 : wo.cell? ⟨qo, 0, none⟩ = some (.int .i64 kind) := cell_of hbo 0
          have o1 : wo.cell? ⟨qo, 1, none⟩ = some (.int .i64 oi) := cell_of hbo 1
          have o2 : wo.cell? ⟨qo, 2, none⟩ = some (.int .i64 on) := cell_of hbo 2
          have o3 : wo.cell? ⟨qo, 3, none⟩ = some (.int .i64 oh1) := cell_of hbo 3
          have o4 : wo.cell? ⟨qo, 4, none⟩ = some (.int .i64 oh2) := cell_of hbo 4
          have o5 : wo.cell? ⟨qo, 5, none⟩ = some (.slice ar rl cr) := cell_of hbo 5
          have o6 : wo.cell? ⟨qo, 6, none⟩ = some (.int .i64 vk) := cell_of hbo 6
          have o7 : wo.cell? ⟨qo, 7, none⟩ = some (.int .i64 va) := cell_of hbo 7
          have o8 : wo.cell? ⟨qo, 8, none⟩ = some (.int .i64 vb) := cell_of hbo 8
          have ol := lt_of hbo
          clear hbo
          by_cases k1 : kind = 1
          · skip
            as_aux_lemma =>
              subst k1
              go_wp2_with fail
              go_loopw [10, 94] (fun s10 iv wr => ∃ (k : Nat) (sl : Value) (es G : List En), k ≤ 1 ∧ s10 = .bool true ∧ iv = .int .i64 k ∧ Inv m es G ∧ Star w wr (stS t m kv es q sl G [Blk qo #[.int .i64 1, .int .i64 oi, .int .i64 on, .int .i64 oh1, .int .i64 oh2, .slice ar rl cr, .int .i64 vk, .int .i64 va, .int .i64 vb] 70])) (fun _ iv _ => 1 - (intOf iv).toNat)
              case atStart => exact ⟨0, sl, es, G, by omega, rfl, rfl, HI.out, XP.out⟩
              case round =>
                obtain ⟨k, sl, es, G, hk, rfl, rfl, hinv, hX⟩ := hrel
                rename World => wz
                have XA := hid hX
                have HI2 := hid hinv
                clear hX XP hinv HI
                by_cases hkT : k < 1
                · have HIL2 : Hid (Reads w (.slice ar rl cr) rl 3 (row.flatMap vc)) := hid (by have h := HIL0.out; rw [← HRL.out] at h; exact h)
                  obtain ⟨i0, hi0, hz0, hz1, hz2⟩ := info_parts CV.info
                  obtain ⟨K, hK⟩ : ∃ K, K = addK m es.length row := ⟨_, rfl⟩
                  obtain ⟨Ad, hAd⟩ : ∃ Ad, Ad = addA m es.length row := ⟨_, rfl⟩
                  have HK := hid hK.symm
                  have HA := hid hAd.symm
                  have HK10 := hid (show K ≤ 10 by rw [hK]; exact addK_le m es.length row)
                  have XB : Hid (Star w (wz.alloc (.cells #[] 37)) (Row 37 3 (.slice (some ⟨wz.heap.size, 0, none⟩) 0 0) 0 [] :: stS t m kv es q sl G [Blk qo #[.int .i64 1, .int .i64 oi, .int .i64 on, .int .i64 oh1, .int .i64 oh2, .slice ar rl cr, .int .i64 vk, .int .i64 va, .int .i64 vb] 70])) := hid (XA.out.add (w' := wz.alloc (.cells #[] 37)) ((Chg.refl _).alloc _) (R := Row 37 3 (.slice (some ⟨wz.heap.size, 0, none⟩) 0 0) 0 []) ⟨World.ownsRow_lit wz #[] 0 (Nat.zero_le _) (by unfold maxLen; omega) rfl, rfl⟩ (fun k h => by simp [Value.ownBlock] at h; omega))
                  have hbo := (XA.out.blk 17 rfl).1
                  have o5 : wz.cell? ⟨qo, 5, none⟩ = some (.slice ar rl cr) := cell_of hbo 5
                  have ol := lt_of hbo
                  clear hbo
                  clear hK hAd XA
                  go_wp2_with (at_builtin; refine wpList_app rfl (.tmp 96) (.tmp 98) 38 rfl 37 i0 (.agg #[.int .i64 0, .int .i64 0, .int .i64 0]) 3 24 Tryd.underlying38 hi0 hz0 hz1 hz2 rfl (by decide) _ 0 [] rfl (XB.out.row 0 rfl).1 ar rl cr (row.flatMap vc) rfl (XB.out.reads HIL2.out) (fun u hu => by obtain ⟨x, _, hx⟩ := List.mem_flatMap.1 hu; exact vc_one x u hx) (by omega) (by omega) ?_; intro a' c' w6 ho hg hn'; rw [Nat.zero_add, List.nil_append] at ho; rw [Nat.zero_add] at hn' ⊢; have XC := hid (XB.out.grown 0 rfl ho hg hn'); clear ho hg hn' XB o5 ol; have hbo := (XC.out.blk 18 rfl).1; have p3 : w6.cell? ⟨qo, 3, none⟩ = some (.int .i64 oh1) := cell_of hbo 3; have p4 : w6.cell? ⟨qo, 4, none⟩ = some (.int .i64 oh2) := cell_of hbo 4; have pl := lt_of hbo; clear hbo)
                  have XD : Hid (Star w w6 (Row 37 3 (.slice a' rl c') row.length (row.flatMap vc) :: stS t m kv es q sl G [Blk qo #[.int .i64 1, .int .i64 oi, .int .i64 on, .int .i64 oh1, .int .i64 oh2, .slice ar rl cr, .int .i64 vk, .int .i64 va, .int .i64 vb] 70])) := hid (by rw [← HRL.out]; exact XC.out)
                  refine (add_any XD.out HTO.out (oh1, oh2) (by have := HRL.out; omega) ad HE.out.tab HI2.out.len).mono ?_
                  rintro r w7 ⟨rfl, hX7⟩
                  rw [HK.out, HA.out]
                  have XE := hid (tabIn hX7)
                  clear hX7 XC XD p3 p4 pl
                  have hbo := (XE.out.blk 18 rfl).1
                  have p3 : w7.cell? ⟨qo, 3, none⟩ = some (.int .i64 oh1) := cell_of hbo 3
                  have p4 : w7.cell? ⟨qo, 4, none⟩ = some (.int .i64 oh2) := cell_of hbo 4
                  have p5 : w7.cell? ⟨qo, 5, none⟩ = some (.slice ar rl cr) := cell_of hbo 5
                  have pl := lt_of hbo
                  clear hbo
                  have XM := hid (toM (Ns := [_, _]) XE.out)
                  go_wp2_with fail
                  refine (radd_any XM.out (oh1, oh2) (.slice ar rl cr) row HIL0.out (by have := HRL.out; omega)).mono ?_
                  rintro r w8 ⟨rfl, sl2, es2, G2, hadd, hX8⟩
                  rw [HK.out, HA.out]
                  have HI3 := hid (HI2.out.add hadd)
                  have XF : Hid (Star w w8 (Row 37 3 (.slice a' rl c') row.length (row.flatMap vc) :: stS t m kv es2 q sl2 G2 [Blk qo #[.int .i64 1, .int .i64 oi, .int .i64 on, .int .i64 oh1, .int .i64 oh2, .slice ar rl cr, .int .i64 vk, .int .i64 va, .int .i64 vb] 70])) := hid (by
                    have h := tabOut (toS (Ns := [_, _]) hX8)
                    rw [add_fit HTO.out hadd] at h
                    exact h)
                  clear hX8 XM XE p3 p4 p5 pl hadd
                  go_wp2_with fail
                  refine (Err.num ad K HK10.out _ (HE.out.same XF.out.same)).mono ?_
                  rintro r w9 ⟨rfl, hs9⟩
                  have XG := hid (XF.out.go hs9)
                  clear hs9 XF
                  have hbo := (XG.out.blk 18 rfl).1
                  have p5 : w9.cell? ⟨qo, 5, none⟩ = some (.slice ar rl cr) := cell_of hbo 5
                  have pl := lt_of hbo
                  clear hbo
                  have R1 : Hid (Reads w9 (.slice a' rl c') row.length 3 (row.flatMap vc)) := hid (Reads.of_own (XG.out.row 0 rfl).1)
                  go_wp2_with fail
                  refine (sameRow _ _ row row _ R1.out (XG.out.reads HIL0.out) (by have := HRL.out; omega) (by have := HRL.out; omega)).mono ?_
                  rintro r wA ⟨hrA, hsA⟩
                  obtain rfl : r = .returned (.bool true) := hrA.trans (by simp)
                  have XH := hid (XG.out.go hsA)
                  clear hsA XG R1 p5 pl
                  go_wp2_with fail
                  go_loopw [137] (fun iv wr => ∃ (i : Nat) (xs : List Value), i ≤ rl ∧ iv = .int .i64 i ∧ xs.length = rl * 3 ∧ Star w wr (Row 37 3 (.slice a' rl c') rl xs :: stS t m kv es2 q sl2 G2 [Blk qo #[.int .i64 1, .int .i64 oi, .int .i64 on, .int .i64 oh1, .int .i64 oh2, .slice ar rl cr, .int .i64 vk, .int .i64 va, .int .i64 vb] 70])) (fun iv _ => rl - (intOf iv).toNat)
                  case atStart => exact ⟨0, row.flatMap vc, by omega, rfl, by
                    have h := (XH.out.row 0 rfl).1.1
                    rw [← HRL.out] at h
                    exact h, by rw [HRL.out]; have h := XH.out; rw [HRL.out] at h; exact h⟩
                  case round =>
                    obtain ⟨i, xs, hi, rfl, hxs, hX⟩ := hrel
                    rename World => wB
                    have XI := hid hX
                    have HXS := hid hxs
                    clear hX XH hxs
                    by_cases hil : i < rl
                    · obtain ⟨g, cg, hg⟩ := own_shape (XI.out.row 0 rfl).1 (by omega)
                      cases hg
                      have hrow := (XI.out.row 0 rfl).1
                      have hxl := HXS.out
                      obtain ⟨u0, hu0⟩ : ∃ u0, wB.cell? ⟨g, i * 3, none⟩ = some u0 := ⟨_, (hrow.cellAt _ (by omega)).trans (List.getElem?_eq_getElem (by omega))⟩
                      obtain ⟨u1, hu1⟩ : ∃ u1, wB.cell? ⟨g, i * 3 + 1, none⟩ = some u1 := ⟨_, (hrow.cellAt _ (by omega)).trans (List.getElem?_eq_getElem (by omega))⟩
                      obtain ⟨u2, hu2⟩ : ∃ u2, wB.cell? ⟨g, i * 3 + 2, none⟩ = some u2 := ⟨_, (hrow.cellAt _ (by omega)).trans (List.getElem?_eq_getElem (by omega))⟩
                      have hf0 := hrow.frozenAt (i * 3)
                      have hf1 := hrow.frozenAt (i * 3 + 1)
                      have hf2 := hrow.frozenAt (i * 3 + 2)
                      have hgl := (hrow.lt g rfl).2
                      have XJ := hid (((XI.out.store 0 rfl (i * 3) (.int .i64 99)).store 0 rfl (i * 3 + 1) (.int .i64 0)).store 0 rfl (i * 3 + 2) (.int .i64 0))
                      clear hrow hxl XI
                      go_wp2_with fail
                      go_roundw
                      case rel =>
                        have hrel : ∃ (i' : Nat) (xs' : List Value), i' ≤ rl ∧ Value.int .i64 ((i : Int) + 1) = .int .i64 i' ∧ xs'.length = rl * 3 ∧ Star w _ (Row 37 3 (.slice (some ⟨g, 0, none⟩) rl c') rl xs' :: stS t m kv es2 q sl2 G2 [Blk qo #[.int .i64 1, .int .i64 oi, .int .i64 on, .int .i64 oh1, .int .i64 oh2, .slice ar rl cr, .int .i64 vk, .int .i64 va, .int .i64 vb] 70]) := ⟨i + 1, _, by omega, by go_num, by rw [List.length_set, List.length_set, List.length_set]; exact HXS.out, XJ.out⟩
                        first | exact hrel | ((repeat apply Exists.intro); exact ⟨hrel, rfl⟩)
                      case measure => simp [intOf]; omega
                    · have XJ := hid XI.out.drop
                      clear XI
                      go_wp2_with fail
                      go_roundw
                      case rel =>
                        have hrel : ∃ (k' : Nat) (sl' : Value) (es' G' : List En), k' ≤ 1 ∧ Value.bool true = .bool true ∧ Value.int .i64 ((k : Int) + 1) = .int .i64 k' ∧ Inv m es' G' ∧ Star w _ (stS t m kv es' q sl' G' [Blk qo #[.int .i64 1, .int .i64 oi, .int .i64 on, .int .i64 oh1, .int .i64 oh2, .slice ar rl cr, .int .i64 vk, .int .i64 va, .int .i64 vb] 70]) := ⟨k + 1, sl2, es2, G2, by omega, rfl, by go_num, HI3.out, XJ.out⟩
                        first | exact hrel | ((repeat apply Exists.intro); exact ⟨hrel, rfl⟩)
                      case measure => simp [intOf]; omega
                · go_wp2
                  go_meet
                  exact ⟨t, sl, es, G, rfl, rfl, HTO.out, HI2.out, XA.out⟩
          by_cases k6 : kind = 6
          · skip
            as_aux_lemma =>
              subst k6
              obtain ⟨mm, hmm, hmod0⟩ := mod_small on 140 (by omega) (by omega)
              have hmod : wrap64 ((IntKind.u64.wrap on).tmod 140) = (mm : Int) := hmod0
              clear hmod0
              go_wp2_with fail
              rw [hmod]
              clear hmod
              go_loopw [10, 94] (fun s10 iv wr => ∃ (k : Nat) (sl : Value) (es G : List En), k ≤ mm ∧ s10 = .bool true ∧ iv = .int .i64 k ∧ Inv m es G ∧ Star w wr (stS t m kv es q sl G [Blk qo #[.int .i64 6, .int .i64 oi, .int .i64 on, .int .i64 oh1, .int .i64 oh2, .slice ar rl cr, .int .i64 vk, .int .i64 va, .int .i64 vb] 70])) (fun _ iv _ => mm - (intOf iv).toNat)
              case atStart => exact ⟨0, sl, es, G, by omega, rfl, rfl, HI.out, XP.out⟩
              case round =>
                obtain ⟨k, sl, es, G, hk, rfl, rfl, hinv, hX⟩ := hrel
                rename World => wz
                have XA := hid hX
                have HI2 := hid hinv
                clear hX XP hinv HI
                by_cases hkT : k < mm
                · have HIL2 : Hid (Reads w (.slice ar rl cr) rl 3 (row.flatMap vc)) := hid (by have h := HIL0.out; rw [← HRL.out] at h; exact h)
                  obtain ⟨i0, hi0, hz0, hz1, hz2⟩ := info_parts CV.info
                  obtain ⟨K, hK⟩ : ∃ K, K = addK m es.length row := ⟨_, rfl⟩
                  obtain ⟨Ad, hAd⟩ : ∃ Ad, Ad = addA m es.length row := ⟨_, rfl⟩
                  have HK := hid hK.symm
                  have HA := hid hAd.symm
                  have HK10 := hid (show K ≤ 10 by rw [hK]; exact addK_le m es.length row)
                  have XB : Hid (Star w (wz.alloc (.cells #[] 37)) (Row 37 3 (.slice (some ⟨wz.heap.size, 0, none⟩) 0 0) 0 [] :: stS t m kv es q sl G [Blk qo #[.int .i64 6, .int .i64 oi, .int .i64 on, .int .i64 oh1, .int .i64 oh2, .slice ar rl cr, .int .i64 vk, .int .i64 va, .int .i64 vb] 70])) := hid (XA.out.add (w' := wz.alloc (.cells #[] 37)) ((Chg.refl _).alloc _) (R := Row 37 3 (.slice (some ⟨wz.heap.size, 0, none⟩) 0 0) 0 []) ⟨World.ownsRow_lit wz #[] 0 (Nat.zero_le _) (by unfold maxLen; omega) rfl, rfl⟩ (fun k h => by simp [Value.ownBlock] at h; omega))
                  have hbo := (XA.out.blk 17 rfl).1
                  have o5 : wz.cell? ⟨qo, 5, none⟩ = some (.slice ar rl cr) := cell_of hbo 5
                  have ol := lt_of hbo
                  clear hbo
                  clear hK hAd XA
                  go_wp2_with (at_builtin; refine wpList_app rfl (.tmp 96) (.tmp 98) 38 rfl 37 i0 (.agg #[.int .i64 0, .int .i64 0, .int .i64 0]) 3 24 Tryd.underlying38 hi0 hz0 hz1 hz2 rfl (by decide) _ 0 [] rfl (XB.out.row 0 rfl).1 ar rl cr (row.flatMap vc) rfl (XB.out.reads HIL2.out) (fun u hu => by obtain ⟨x, _, hx⟩ := List.mem_flatMap.1 hu; exact vc_one x u hx) (by omega) (by omega) ?_; intro a' c' w6 ho hg hn'; rw [Nat.zero_add, List.nil_append] at ho; rw [Nat.zero_add] at hn' ⊢; have XC := hid (XB.out.grown 0 rfl ho hg hn'); clear ho hg hn' XB o5 ol; have hbo := (XC.out.blk 18 rfl).1; have p3 : w6.cell? ⟨qo, 3, none⟩ = some (.int .i64 oh1) := cell_of hbo 3; have p4 : w6.cell? ⟨qo, 4, none⟩ = some (.int .i64 oh2) := cell_of hbo 4; have pl := lt_of hbo; clear hbo)
                  have XD : Hid (Star w w6 (Row 37 3 (.slice a' rl c') row.length (row.flatMap vc) :: stS t m kv es q sl G [Blk qo #[.int .i64 6, .int .i64 oi, .int .i64 on, .int .i64 oh1, .int .i64 oh2, .slice ar rl cr, .int .i64 vk, .int .i64 va, .int .i64 vb] 70])) := hid (by rw [← HRL.out]; exact XC.out)
                  refine (add_any XD.out HTO.out (oh1, oh2) (by have := HRL.out; omega) ad HE.out.tab HI2.out.len).mono ?_
                  rintro r w7 ⟨rfl, hX7⟩
                  rw [HK.out, HA.out]
                  have XE := hid (tabIn hX7)
                  clear hX7 XC XD p3 p4 pl
                  have hbo := (XE.out.blk 18 rfl).1
                  have p3 : w7.cell? ⟨qo, 3, none⟩ = some (.int .i64 oh1) := cell_of hbo 3
                  have p4 : w7.cell? ⟨qo, 4, none⟩ = some (.int .i64 oh2) := cell_of hbo 4
                  have p5 : w7.cell? ⟨qo, 5, none⟩ = some (.slice ar rl cr) := cell_of hbo 5
                  have pl := lt_of hbo
                  clear hbo
                  have XM := hid (toM (Ns := [_, _]) XE.out)
                  go_wp2_with fail
                  refine (radd_any XM.out (oh1, oh2) (.slice ar rl cr) row HIL0.out (by have := HRL.out; omega)).mono ?_
                  rintro r w8 ⟨rfl, sl2, es2, G2, hadd, hX8⟩
                  rw [HK.out, HA.out]
                  have HI3 := hid (HI2.out.add hadd)
                  have XF : Hid (Star w w8 (Row 37 3 (.slice a' rl c') row.length (row.flatMap vc) :: stS t m kv es2 q sl2 G2 [Blk qo #[.int .i64 6, .int .i64 oi, .int .i64 on, .int .i64 oh1, .int .i64 oh2, .slice ar rl cr, .int .i64 vk, .int .i64 va, .int .i64 vb] 70])) := hid (by
                    have h := tabOut (toS (Ns := [_, _]) hX8)
                    rw [add_fit HTO.out hadd] at h
                    exact h)
                  clear hX8 XM XE p3 p4 p5 pl hadd
                  go_wp2_with fail
                  refine (Err.num ad K HK10.out _ (HE.out.same XF.out.same)).mono ?_
                  rintro r w9 ⟨rfl, hs9⟩
                  have XG := hid (XF.out.go hs9)
                  clear hs9 XF
                  have hbo := (XG.out.blk 18 rfl).1
                  have p5 : w9.cell? ⟨qo, 5, none⟩ = some (.slice ar rl cr) := cell_of hbo 5
                  have pl := lt_of hbo
                  clear hbo
                  have R1 : Hid (Reads w9 (.slice a' rl c') row.length 3 (row.flatMap vc)) := hid (Reads.of_own (XG.out.row 0 rfl).1)
                  go_wp2_with fail
                  refine (sameRow _ _ row row _ R1.out (XG.out.reads HIL0.out) (by have := HRL.out; omega) (by have := HRL.out; omega)).mono ?_
                  rintro r wA ⟨hrA, hsA⟩
                  obtain rfl : r = .returned (.bool true) := hrA.trans (by simp)
                  have XH := hid (XG.out.go hsA)
                  clear hsA XG R1 p5 pl
                  go_wp2_with fail
                  go_loopw [137] (fun iv wr => ∃ (i : Nat) (xs : List Value), i ≤ rl ∧ iv = .int .i64 i ∧ xs.length = rl * 3 ∧ Star w wr (Row 37 3 (.slice a' rl c') rl xs :: stS t m kv es2 q sl2 G2 [Blk qo #[.int .i64 6, .int .i64 oi, .int .i64 on, .int .i64 oh1, .int .i64 oh2, .slice ar rl cr, .int .i64 vk, .int .i64 va, .int .i64 vb] 70])) (fun iv _ => rl - (intOf iv).toNat)
                  case atStart => exact ⟨0, row.flatMap vc, by omega, rfl, by
                    have h := (XH.out.row 0 rfl).1.1
                    rw [← HRL.out] at h
                    exact h, by rw [HRL.out]; have h := XH.out; rw [HRL.out] at h; exact h⟩
                  case round =>
                    obtain ⟨i, xs, hi, rfl, hxs, hX⟩ := hrel
                    rename World => wB
                    have XI := hid hX
                    have HXS := hid hxs
                    clear hX XH hxs
                    by_cases hil : i < rl
                    · obtain ⟨g, cg, hg⟩ := own_shape (XI.out.row 0 rfl).1 (by omega)
                      cases hg
                      have hrow := (XI.out.row 0 rfl).1
                      have hxl := HXS.out
                      obtain ⟨u0, hu0⟩ : ∃ u0, wB.cell? ⟨g, i * 3, none⟩ = some u0 := ⟨_, (hrow.cellAt _ (by omega)).trans (List.getElem?_eq_getElem (by omega))⟩
                      obtain ⟨u1, hu1⟩ : ∃ u1, wB.cell? ⟨g, i * 3 + 1, none⟩ = some u1 := ⟨_, (hrow.cellAt _ (by omega)).trans (List.getElem?_eq_getElem (by omega))⟩
                      obtain ⟨u2, hu2⟩ : ∃ u2, wB.cell? ⟨g, i * 3 + 2, none⟩ = some u2 := ⟨_, (hrow.cellAt _ (by omega)).trans (List.getElem?_eq_getElem (by omega))⟩
                      have hf0 := hrow.frozenAt (i * 3)
                      have hf1 := hrow.frozenAt (i * 3 + 1)
                      have hf2 := hrow.frozenAt (i * 3 + 2)
                      have hgl := (hrow.lt g rfl).2
                      have XJ := hid (((XI.out.store 0 rfl (i * 3) (.int .i64 99)).store 0 rfl (i * 3 + 1) (.int .i64 0)).store 0 rfl (i * 3 + 2) (.int .i64 0))
                      clear hrow hxl XI
                      go_wp2_with fail
                      go_roundw
                      case rel =>
                        have hrel : ∃ (i' : Nat) (xs' : List Value), i' ≤ rl ∧ Value.int .i64 ((i : Int) + 1) = .int .i64 i' ∧ xs'.length = rl * 3 ∧ Star w _ (Row 37 3 (.slice (some ⟨g, 0, none⟩) rl c') rl xs' :: stS t m kv es2 q sl2 G2 [Blk qo #[.int .i64 6, .int .i64 oi, .int .i64 on, .int .i64 oh1, .int .i64 oh2, .slice ar rl cr, .int .i64 vk, .int .i64 va, .int .i64 vb] 70]) := ⟨i + 1, _, by omega, by go_num, by rw [List.length_set, List.length_set, List.length_set]; exact HXS.out, XJ.out⟩
                        first | exact hrel | ((repeat apply Exists.intro); exact ⟨hrel, rfl⟩)
                      case measure => simp [intOf]; omega
                    · have XJ := hid XI.out.drop
                      clear XI
                      go_wp2_with fail
                      go_roundw
                      case rel =>
                        have hrel : ∃ (k' : Nat) (sl' : Value) (es' G' : List En), k' ≤ mm ∧ Value.bool true = .bool true ∧ Value.int .i64 ((k : Int) + 1) = .int .i64 k' ∧ Inv m es' G' ∧ Star w _ (stS t m kv es' q sl' G' [Blk qo #[.int .i64 6, .int .i64 oi, .int .i64 on, .int .i64 oh1, .int .i64 oh2, .slice ar rl cr, .int .i64 vk, .int .i64 va, .int .i64 vb] 70]) := ⟨k + 1, sl2, es2, G2, by omega, rfl, by go_num, HI3.out, XJ.out⟩
                        first | exact hrel | ((repeat apply Exists.intro); exact ⟨hrel, rfl⟩)
                      case measure => simp [intOf]; omega
                · go_wp2
                  go_meet
                  exact ⟨t, sl, es, G, rfl, rfl, HTO.out, HI2.out, XA.out⟩
          by_cases k2 : kind = 2
          · skip
            as_aux_lemma =>
              subst k2
              go_wp2_with fail
              refine (take_any XP.out HTO.out HM2.out oi HI.out ad HE.out.tab).mono ?_
              rintro r wa ⟨v, rfl, hXa⟩
              obtain ⟨F, hF⟩ : ∃ F, F = getE es oi := ⟨_, rfl⟩
              obtain ⟨es', hes'⟩ : ∃ es', es' = outE es oi := ⟨_, rfl⟩
              rw [← hF, ← hes'] at hXa
              rw [← hF]
              have HF := hid hF
              have HES := hid hes'
              have HI' := hid (show Inv m es' G by rw [hes']; exact HI.out.out oi)
              obtain ⟨va', vc', rfl, -⟩ := own_slice (hXa.row 0 rfl).1
              have XA := hid (tabPush ((tabPush hXa).alloc (enC (hO F).1 (hO F).2 (.slice va' (vsO F).length vc')) 46))
              dsimp only [enC] at XA ⊢
              clear hXa XP hF hes'
              clear o0 o1 o2 o3 o4 o5 o6 o7 o8 ol
              go_upto_region 37 with (fail)
              generalize wa.alloc _ = wb at *
              generalize wa.heap.size = q18 at *
              have hbo := (XA.out.blk 19 rfl).1
              have o1 : wb.cell? ⟨qo, 1, none⟩ = some (.int .i64 oi) := cell_of hbo 1
              have ol := lt_of hbo
              clear hbo
              have XM := hid (toM (Ns := [_, _, _]) XA.out)
              go_wp2_with fail
              refine (rtake_any XM.out oi HI.out).mono ?_
              rintro r wc ⟨v2, sl', rfl, hrd, hXc⟩
              rw [← HF.out] at hrd ⊢
              rw [← HES.out] at hXc
              obtain ⟨va2, vc2, rfl⟩ := hrd.slice
              have XC := hid ((toS (Ns := [_, _, _]) hXc).alloc (enC (hO F).1 (hO F).2 (.slice va2 (vsO F).length vc2)) 46)
              have R2 := hid (hrd.same ((Chg.refl (S := fun _ => False) wc).alloc (.cells (enC (hO F).1 (hO F).2 (.slice va2 (vsO F).length vc2)) 46)))
              dsimp only [enC] at XC R2 ⊢
              have HVL := hid (show (vsO F).length ≤ 10 by
                cases F with
                | none => simp [vsO]
                | some e =>
                  obtain ⟨jj, -, hjj⟩ := getE_some HF.out.symm
                  exact (HI.out.get hjj).1.len HM2.out)
              have HKO := hid (show kO F ≤ 10 by cases F <;> simp [kO])
              clear hXc hrd XM XA o1 ol
              go_upto_region 38 with (fail)
              generalize wc.alloc _ = wd at *
              generalize wc.heap.size = q20 at *
              have hb0 := (XC.out.blk 0 rfl).1
              have hb1 := (XC.out.blk 15 rfl).1
              have e0 : wd.cell? ⟨q20, 0, none⟩ = some (.int .i64 (hO F).1) := cell_of hb0 0
              have e1 : wd.cell? ⟨q20, 1, none⟩ = some (.int .i64 (hO F).2) := cell_of hb0 1
              have e2 : wd.cell? ⟨q20, 2, none⟩ = some (.slice va2 (vsO F).length vc2) := cell_of hb0 2
              have el := lt_of hb0
              have f0 : wd.cell? ⟨q18, 0, none⟩ = some (.int .i64 (hO F).1) := cell_of hb1 0
              have f1 : wd.cell? ⟨q18, 1, none⟩ = some (.int .i64 (hO F).2) := cell_of hb1 1
              have f2 : wd.cell? ⟨q18, 2, none⟩ = some (.slice va' (vsO F).length vc') := cell_of hb1 2
              have fl := lt_of hb1
              have R1 := hid (Reads.of_own (XC.out.row 16 rfl).1)
              clear hb0 hb1
              go_wp2_with fail
              refine (same_true (hO F).1 (hO F).2 _ _ (vsO F) _ R1.out R2.out (by have := HVL.out; omega)).mono ?_
              rintro r we ⟨rfl, hse⟩
              have XD := hid (((((XC.out.go hse).drop).pull 14 rfl).drop.pull 14 rfl).drop)
              clear hse XC R1 R2 e0 e1 e2 el f0 f1 f2 fl
              obtain ⟨K, hK⟩ : ∃ K, K = kO F := ⟨_, rfl⟩
              have HK := hid (show K ≤ 10 by rw [hK]; exact HKO.out)
              rw [← hK]
              clear hK HKO
              go_wp2_with fail
              refine (Err.num ad K HK.out _ (HE.out.same XD.out.same)).mono ?_
              rintro r wf ⟨rfl, hsf⟩
              have XE := hid (XD.out.go hsf)
              clear hsf XD
              go_wp2
              go_meet
              exact ⟨t, sl', es', G, rfl, rfl, HTO.out, HI'.out, XE.out⟩
          by_cases k3 : kind = 3
          · skip
            as_aux_lemma =>
              subst k3
              go_wp2_with fail
              refine (get_any XP.out HTO.out HM2.out oi vk HVK.out.1 HVK.out.2 HI.out ad HE.out.tab).mono ?_
              rintro r wa ⟨rfl, hXa⟩
              obtain ⟨x, hx⟩ : ∃ x, x = (getG es oi vk).1 := ⟨_, rfl⟩
              obtain ⟨K, hK⟩ : ∃ K, K = (getG es oi vk).2 := ⟨_, rfl⟩
              rw [← hx, ← hK]
              have HX := hid hx
              have HK := hid hK
              have HK10 := hid (show K ≤ 10 by
                rw [hK]
                unfold getG
                cases getE es oi with
                | none => simp
                | some e => dsimp only; cases findK e.vs vk <;> simp)
              obtain ⟨x1, x2, x3⟩ := x
              dsimp only at hx ⊢
              have XA := hid (tabPush (hXa.alloc #[.int .i64 x1, .int .i64 x2, .int .i64 x3] 37))
              clear hXa XP hx hK
              clear o0 o1 o2 o3 o4 o5 o6 o7 o8 ol
              go_upto_region 41 with (fail)
              generalize wa.alloc _ = wb at *
              generalize wa.heap.size = q22 at *
              have hbo := (XA.out.blk 18 rfl).1
              have o1 : wb.cell? ⟨qo, 1, none⟩ = some (.int .i64 oi) := cell_of hbo 1
              have o6 : wb.cell? ⟨qo, 6, none⟩ = some (.int .i64 vk) := cell_of hbo 6
              have ol := lt_of hbo
              clear hbo
              have XM := hid (toM (Ns := [_, _]) XA.out)
              go_wp2_with fail
              refine (rget_any XM.out oi vk HI.out HM2.out).mono ?_
              rintro r wc ⟨rfl, hXc⟩
              rw [← HX.out, ← HK.out]
              have XC := hid ((toS (Ns := [_, _]) hXc).alloc #[.int .i64 x1, .int .i64 x2, .int .i64 x3] 37)
              clear hXc XM XA o1 o6 ol
              dsimp only
              go_upto_region 42 with (fail)
              generalize wc.alloc _ = wd at *
              generalize wc.heap.size = q24 at *
              have hb0 := (XC.out.blk 0 rfl).1
              have hb1 := (XC.out.blk 15 rfl).1
              have e0 : wd.cell? ⟨q24, 0, none⟩ = some (.int .i64 x1) := cell_of hb0 0
              have e1 : wd.cell? ⟨q24, 1, none⟩ = some (.int .i64 x2) := cell_of hb0 1
              have e2 : wd.cell? ⟨q24, 2, none⟩ = some (.int .i64 x3) := cell_of hb0 2
              have el := lt_of hb0
              have f0 : wd.cell? ⟨q22, 0, none⟩ = some (.int .i64 x1) := cell_of hb1 0
              have f1 : wd.cell? ⟨q22, 1, none⟩ = some (.int .i64 x2) := cell_of hb1 1
              have f2 : wd.cell? ⟨q22, 2, none⟩ = some (.int .i64 x3) := cell_of hb1 2
              have fl := lt_of hb1
              have XD := hid (((XC.out.drop).pull 14 rfl).drop)
              clear hb0 hb1 XC
              go_wp2_with fail
              refine (Err.num ad K HK10.out _ (HE.out.same XD.out.same)).mono ?_
              rintro r wf ⟨rfl, hsf⟩
              have XE := hid (XD.out.go hsf)
              clear hsf XD e0 e1 e2 el f0 f1 f2 fl
              go_wp2
              go_meet
              exact ⟨t, sl, es, G, rfl, rfl, HTO.out, HI.out, XE.out⟩
          by_cases k4 : kind = 4
          · skip
            as_aux_lemma =>
              subst k4
              obtain ⟨K, hK⟩ : ∃ K, K = setK es oi ⟨vk, va, vb⟩ := ⟨_, rfl⟩
              have HK := hid hK.symm
              have HK10 := hid (show K ≤ 10 by
                rw [hK]
                unfold setK
                cases getE es oi with
                | none => simp
                | some e =>
                  dsimp only
                  unfold setN
                  cases findK e.vs vk with
                  | none => simp
                  | some x =>
                    dsimp only
                    rcases chk_cases ⟨vk, va, vb⟩ with h | h | h <;> omega)
              clear hK o0 o2 o3 o4 o5
              go_upto_region 44 with (fail)
              go_region_held3 (fun w' => w'.cell? ⟨qo, 1, none⟩ = some (.int .i64 oi) ∧ w'.cell? ⟨qo, 6, none⟩ = some (.int .i64 vk) ∧ w'.cell? ⟨qo, 7, none⟩ = some (.int .i64 va) ∧ w'.cell? ⟨qo, 8, none⟩ = some (.int .i64 vb)) (go_keep) (first
                | (go_at_call 17; with_reducible refine (set_any (es := es) (G := G) (XP.out.go ((Chg.refl _).drew)) HTO.out HM2.out oi ⟨vk, va, vb⟩ HVK.out.1 HVK.out.2 HI.out ad HE.out.tab).mono ?_; rintro r wa ⟨rfl, hXa⟩; rw [HK.out] at hXa ⊢; have XA := hid hXa; clear hXa; have hbo := (XA.out.blk 17 rfl).1; have ka1 := cell_of hbo 1; have ka6 := cell_of hbo 6; have ka7 := cell_of hbo 7; have ka8 := cell_of hbo 8; have kal := lt_of hbo; simp only [List.getElem?_toArray, List.getElem?_cons_zero, List.getElem?_cons_succ] at ka1 ka6 ka7 ka8; clear hbo)
                | (go_at_call 20; with_reducible refine (Err.num ad K HK10.out _ (HE.out.same XB.out.same)).mono ?_; rintro r wc ⟨rfl, hsc⟩; have XB := hid (XB.out.go hsc); clear hsc; have hbo := (XB.out.blk 17 rfl).1; have kc1 := cell_of hbo 1; have kc6 := cell_of hbo 6; have kc7 := cell_of hbo 7; have kc8 := cell_of hbo 8; have kcl := lt_of hbo; simp only [List.getElem?_toArray, List.getElem?_cons_zero, List.getElem?_cons_succ] at kc1 kc6 kc7 kc8; clear hbo)
                | (go_at_call 20; with_reducible refine (Err.num ad K HK10.out _ (HE.out.same XA.out.same)).mono ?_; rintro r wc ⟨rfl, hsc⟩; have XA := hid (XA.out.go hsc); clear hsc; have hbo := (XA.out.blk 17 rfl).1; have kc1 := cell_of hbo 1; have kc6 := cell_of hbo 6; have kc7 := cell_of hbo 7; have kc8 := cell_of hbo 8; have kcl := lt_of hbo; simp only [List.getElem?_toArray, List.getElem?_cons_zero, List.getElem?_cons_succ] at kc1 kc6 kc7 kc8; clear hbo)
                | (go_at_call 27; with_reducible refine (rset_any (toM (Ns := [_]) (XP.out.go ((Chg.refl _).drew))) oi ⟨vk, va, vb⟩ HI.out HM2.out).mono ?_; rintro r wb ⟨rfl, es', G', hse, hXb⟩; rw [HK.out] at hse ⊢; have HSE := hid hse; have XB := hid (toS (Ns := [_]) hXb); clear hXb hse; have hbo := (XB.out.blk 17 rfl).1; have kb1 := cell_of hbo 1; have kb6 := cell_of hbo 6; have kb7 := cell_of hbo 7; have kb8 := cell_of hbo 8; have kbl := lt_of hbo; simp only [List.getElem?_toArray, List.getElem?_cons_zero, List.getElem?_cons_succ] at kb1 kb6 kb7 kb8; clear hbo)
                | (go_at_call 27; with_reducible refine (rset_any (toM (Ns := [_]) XA.out) oi ⟨vk, va, vb⟩ HI.out HM2.out).mono ?_; rintro r wb ⟨rfl, es', G', hse, hXb⟩; rw [HK.out] at hse ⊢; have HSE := hid hse; have XB := hid (toS (Ns := [_]) hXb); clear hXb hse; have hbo := (XB.out.blk 17 rfl).1; have kb1 := cell_of hbo 1; have kb6 := cell_of hbo 6; have kb7 := cell_of hbo 7; have kb8 := cell_of hbo 8; have kbl := lt_of hbo; simp only [List.getElem?_toArray, List.getElem?_cons_zero, List.getElem?_cons_succ] at kb1 kb6 kb7 kb8; clear hbo)
                | (go_at_call 17; with_reducible refine (set_any (es := es) (G := G) XB.out HTO.out HM2.out oi ⟨vk, va, vb⟩ HVK.out.1 HVK.out.2 HI.out ad HE.out.tab).mono ?_; rintro r wa ⟨rfl, hXa⟩; rw [HK.out] at hXa ⊢; have XA := hid hXa; clear hXa; have hbo := (XA.out.blk 17 rfl).1; have ka1 := cell_of hbo 1; have ka6 := cell_of hbo 6; have ka7 := cell_of hbo 7; have ka8 := cell_of hbo 8; have kal := lt_of hbo; simp only [List.getElem?_toArray, List.getElem?_cons_zero, List.getElem?_cons_succ] at ka1 ka6 ka7 ka8; clear hbo))
              all_goals
                rename_i hHeld
                clear hHeld o1 o6 o7 o8 ol kb1 kb6 kb7 kb8 kbl ka1 ka6 ka7 ka8 kal kc1 kc6 kc7 kc8 kcl
                go_wp2
                go_meet
                have hfit := set_fit (L := natRow kv (bitsOf m) :: rfB q m sl :: rfE sl es' :: poolR G' :: [Blk qo #[.int .i64 4, .int .i64 oi, .int .i64 on, .int .i64 oh1, .int .i64 oh2, .slice ar rl cr, .int .i64 vk, .int .i64 va, .int .i64 vb] 70]) (kv := kv) HTO.out HI.out HSE.out
                refine ⟨t, sl, es', G', rfl, rfl, HTO.out, HI.out.setE HSE.out, ?_⟩
                show Star w _ (tabL t m kv (hE es') (colE es') (natRow kv (bitsOf m) :: rfB q m sl :: rfE sl es' :: poolR G' :: [Blk qo #[.int .i64 4, .int .i64 oi, .int .i64 on, .int .i64 oh1, .int .i64 oh2, .slice ar rl cr, .int .i64 vk, .int .i64 va, .int .i64 vb] 70]))
                rw [← hfit]
                first | exact XB.out | exact XA.out
          by_cases k5 : kind = 5
          · skip
            as_aux_lemma =>
              subst k5
              clear o0 o1 o2 o3 o4 o5 o6 o7 o8 ol
              go_wp2_with fail
              refine (clone_all XP.out HTO.out HM2.out HI.out).mono ?_
              rintro r wa ⟨t', hok', rfl, hXa⟩
              have XA := hid (cloneL hXa)
              have HT' := hid hok'
              clear hXa XP hok'
              go_wp2_with fail
              refine (take_any XA.out HTO.out HM2.out 0 HI.out ad HE.out.tab).mono ?_
              rintro r wb ⟨v, rfl, hXb⟩
              have XB := hid (cloneR hXb.drop)
              clear hXb XA
              go_wp2
              go_meet
              exact ⟨t', sl, es, G, rfl, rfl, HT'.out, HI.out, XB.out⟩
          as_aux_lemma =>
            clear o0 o1 o2 o3 o4 o5 o6 o7 o8 ol
            go_wp2
            go_meet
            exact ⟨t, sl, es, G, rfl, rfl, HTO.out, HI.out, XP.out⟩
      · go_wp2
        go_ret
        exact ⟨rfl, X.out.same⟩
end Go.Proofs.YtegcnkcjmebheaaDoor.TablePlays
