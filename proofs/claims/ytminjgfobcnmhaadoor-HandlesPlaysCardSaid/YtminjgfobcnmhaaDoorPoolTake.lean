/-
  Package handles: Take.
-/
import Derived.Test.YtminjgfobcnmhaaDoorPool
namespace Go.Proofs.YtminjgfobcnmhaaDoor.Pool
open Go Go.RowKit

set_option maxRecDepth 100000 in
theorem take_free {w0 w : World} {L : List Res} {p : Nat} {S : List Slot} {f : List Nat} {c : Int} (X : Star w0 w (PoolR p S f c :: L)) (f0 : List Nat) (i : Nat) (hf : f = f0 ++ [i]) (s : Slot) (hi : S[i]? = some s) (hc : 0 ≤ c ∧ c ≤ 1000) :
    Calls Tryd.prog 23 #[.pointer (some ⟨p, 0, none⟩)] w fun r w' => r = .returned (.tuple #[hv (i, s.1), .nilIface]) ∧ Star w0 w' (PoolR p (S.set i (s.1, true)) f0 (c + 1) :: L) := by
  have X0 := hid ((X.alloc #[.int .i64 0, .int .i64 0] 42).swap)
  have HF := hid hf
  have HI := hid hi
  have hlt := (List.getElem?_eq_some_iff.1 hi).1
  clear X hf hi
  obtain ⟨g, b⟩ := s
  go_enter Tryd.func23, Tryd.ntmps23
  go_wp2_with fail
  refine (next_free X0.out f0 i HF.out (g, b) HI.out).mono ?_
  rintro r w1 ⟨rfl, hX⟩
  have X1 := hid hX
  clear hX X0
  obtain ⟨vs, vf, hY⟩ := PoolR.open X1.out
  obtain ⟨h0, h1, h2, hfr, hp⟩ := blk_facts hY



  obtain ⟨gs, cs, m, rfl, ⟨hm, hmc, hmx⟩, e0, e1, hfs, hgs, hgp⟩ := slot_facts hY i (g, b) HI.out
  obtain ⟨gf, cf, n', rfl, ⟨hn, hcap, hnx⟩, e2, hgf⟩ := free_facts hY f0.length i (by rw [HF.out]; simp)
  have hn' : n' = f0.length + 1 := by rw [hn, HF.out]; simp
  have Y := hid hY
  have hb := hY.blk 3 rfl
  have q0 := cell_of hb.1 0
  have q1 := cell_of hb.1 1
  have k0 := free_of hb.1 0
  have k1 := free_of hb.1 1
  have hql := lt_of hb.1
  have him : i < m := by omega
  have HM := hid hm
  obtain ⟨n, hn0⟩ : ∃ n, n = f0.length := ⟨_, rfl⟩
  rw [← hn0] at hn' e2
  subst hn'
  have HN := hid hn0
  clear hY hfr hfs X1 hb hm hn hn0
  simp only at e0 e1
  have hpg : ¬ p = gs := fun e => hgp e.symm
  generalize w.heap.size = q at *
  go_wp2
  go_quiet (fail)
  go_wp2
  have hw1 : IntKind.i64.wrap (n : Int) = (n : Int) := IntWalk.i64_in _ (by omega)
  have hw2 : (n : Int) ≤ (cf : Int) := by omega
  have Y6 := hid ((Y.out.alloc #[.int .i64 i, .int .i64 g] 42).go ((Chg.refl _).drewN nq))
  clear Y h0 h1 h2 e0 e1 q0 q1 k0 k1 e2 hp hgs hgf hql
  generalize (w1.alloc _).drewN nq = w6 at *
  generalize w1.heap.size = q4 at *
  have hb6 := Y6.out.blk 1 rfl
  have h0 := cell_of hb6.1 0
  have h1 := cell_of hb6.1 1
  have f1' := free_of hb6.1 1
  clear hb6
  go_region
  go_wp2
  have hY7 := ((Y6.out.put 1 rfl 1 (.slice (some ⟨gf, 0, none⟩) n cf)).set 3 (R' := freeR (.slice (some ⟨gf, 0, none⟩) n cf) f0) rfl (by
    rintro F ⟨h, rfl⟩
    have hl : f.length = n + 1 := by have := HF.out; have := HN.out; subst f; simp; omega
    rw [hl] at h
    have h' := own_take h n (by omega)
    rw [Nat.mul_one, ← List.map_take, HF.out, HN.out, List.take_left] at h'
    rw [HN.out]
    exact ⟨h', rfl⟩)).go ((Chg.refl _).drew)
  have Y7 := hid hY7
  clear Y6 h0 h1 f1' hY7
  generalize (w6.setCell _ _).drew = w7 at *
  have hb := Y7.out.blk 1 rfl
  have h0 := cell_of hb.1 0
  have h2 := cell_of hb.1 2
  have f2' := free_of hb.1 2
  have hpl := lt_of hb.1
  have ha := Y7.out.blk 0 rfl
  have a0 := cell_of ha.1 0
  have a1 := cell_of ha.1 1
  have hal := lt_of ha.1
  have hr := Y7.out.row 2 rfl
  rw [← HM.out] at hr
  have e1 : w7.cell? ⟨gs, i * 2 + 1, none⟩ = some (.bool b) := (hr.1.cellAt (i * 2 + 1) (by omega)).trans ((rows_get sl sl_len S i 1 (g, b) HI.out (by omega)).trans rfl)
  have f1' := hr.1.frozenAt (i * 2 + 1)
  have hgl := (hr.1.lt gs rfl).2
  clear hb ha hr
  go_region
  have Y8 := hid ((Y7.out.store 2 rfl (i * 2 + 1) (.bool true)).go (w' := (w7.setCell ⟨gs, i * 2 + 1, none⟩ (.bool true)).drew) ((Chg.refl _).drew))
  clear Y7 h0 h2 f2' hpl a0 a1 hal e1 f1' hgl
  generalize (w7.setCell _ _).drew = w8 at *
  have hb := Y8.out.blk 1 rfl
  have h2 : w8.cell? ⟨p, 2, none⟩ = some (.int .i64 c) := cell_of hb.1 2
  have f2' := free_of hb.1 2
  have ha := Y8.out.blk 0 rfl
  have a0 : w8.cell? ⟨q4, 0, none⟩ = some (.int .i64 i) := cell_of ha.1 0
  have a1 : w8.cell? ⟨q4, 1, none⟩ = some (.int .i64 g) := cell_of ha.1 1
  have hq := Y8.out.blk 4 rfl
  have b0 : w8.cell? ⟨q, 0, none⟩ = some (.int .i64 0) := cell_of hq.1 0
  have b1 : w8.cell? ⟨q, 1, none⟩ = some (.int .i64 0) := cell_of hq.1 1
  have d0 := free_of hq.1 0
  have d1 := free_of hq.1 1
  have n1 := Y8.out.neBB 0 1 rfl rfl (by omega)
  have n2 := Y8.out.neBB 1 4 rfl rfl (by omega)
  obtain ⟨n3, n4⟩ := n1
  obtain ⟨n5, n6⟩ := n2
  clear hb ha hq
  go_wp2
  refine bodyPost_ret (v := .tuple #[hv (i, g), .nilIface]) (by simp [results, Tryd.results23, go_sem, hv, *]) rfl ⟨rfl, ?_⟩
  have h := ((Y8.out.put 1 rfl 2 (.int .i64 (c + 1))).put 4 rfl 0 (.int .i64 i)).put 4 rfl 1 (.int .i64 g)
  have h3 : Star w0 _ (blkR p (.slice (some ⟨gs, 0, none⟩) m cs) (.slice (some ⟨gf, 0, none⟩) n cf) (c + 1) :: Row 58 2 (.slice (some ⟨gs, 0, none⟩) m cs) S.length ((S.flatMap sl).set (i * 2 + 1) (.bool true)) :: freeR (.slice (some ⟨gf, 0, none⟩) n cf) f0 :: L) := ((h.drop).pull 3 rfl).drop
  have hl : (S.set i (g, true)).length = S.length := List.length_set
  rw [rows_set1 sl sl_len S i 1 (g, b) (g, true) (.bool true) HI.out (by omega) rfl, ← hl] at h3
  exact PoolR.close h3
/- MORE -/

theorem info : (Tryd.prog.info? 58).map (fun i => (i.zero, i.size, i.bytes)) = some (some (.agg #[.int .i64 0, .bool false]), 2, 16) := by kernel_rfl
theorem infoI : (Tryd.prog.info? 3).map (fun i => (i.zero, i.size, i.bytes)) = some (some (.int .i64 0), 1, 8) := by kernel_rfl

set_option maxRecDepth 100000 in
theorem take_new {w0 w : World} {L : List Res} {p : Nat} {S : List Slot} {c : Int} (X : Star w0 w (PoolR p S [] c :: L)) (hS : S.length < 128) (hc : 0 ≤ c ∧ c ≤ 1000) :
    Calls Tryd.prog 23 #[.pointer (some ⟨p, 0, none⟩)] w fun r w' => r = .returned (.tuple #[hv (S.length, 1), .nilIface]) ∧ Star w0 w' (PoolR p (S ++ [(1, true)]) [] (c + 1) :: L) := by
  obtain ⟨i0, hi, hz0, hz1, hz2⟩ := info_parts info
  have X0 := hid ((X.alloc #[.int .i64 0, .int .i64 0] 42).swap)
  have HS := hid hS
  clear X hS
  go_enter Tryd.func23, Tryd.ntmps23
  go_wp2_with fail
  refine (next_new X0.out HS.out).mono ?_
  rintro r w1 ⟨rfl, hX⟩
  have X1 := hid hX
  clear hX X0
  obtain ⟨vs, vf, hY⟩ := PoolR.open X1.out
  have Y := hid hY
  obtain ⟨av, cs, m, rfl, hm, hmc, hmx⟩ := slots_shape hY
  have HM := hid hm
  have hm128 : m < 128 := by have := HS.out; omega
  rw [← HM.out]
  clear hY X1 hm
  have hbk1 := Y.out.blk 0 rfl
  have h0 : w1.cell? ⟨p, 0, none⟩ = some (.slice av m cs) := cell_of hbk1.1 0
  have hl : p < w1.heap.size := lt_of hbk1.1
  clear hbk1
  have hbk2 := Y.out.blk 3 rfl
  have b0 : w1.cell? ⟨w.heap.size, 0, none⟩ = some (.int .i64 0) := cell_of hbk2.1 0
  have b1 : w1.cell? ⟨w.heap.size, 1, none⟩ = some (.int .i64 0) := cell_of hbk2.1 1
  have bf0 : w1.frozen? ⟨w.heap.size, 0, none⟩ = false := free_of hbk2.1 0
  have bf1 : w1.frozen? ⟨w.heap.size, 1, none⟩ = false := free_of hbk2.1 1
  have bl : w.heap.size < w1.heap.size := lt_of hbk2.1
  clear hbk2

  generalize w.heap.size = q at *
  go_wp2
  go_quiet (fail)
  have Y6 := hid ((Y.out.alloc #[.int .i64 m, .int .i64 1] 42).go ((Chg.refl _).drewN nq))
  clear Y h0 hl b0 b1 bf0 bf1 bl
  generalize (w1.alloc _).drewN nq = w6 at *
  generalize w1.heap.size = q4 at *
  have hbk3 := Y6.out.blk 1 rfl
  have h0 : w6.cell? ⟨p, 0, none⟩ = some (.slice av m cs) := cell_of hbk3.1 0
  have h1 : w6.cell? ⟨p, 1, none⟩ = some (vf) := cell_of hbk3.1 1
  have h2 : w6.cell? ⟨p, 2, none⟩ = some (.int .i64 c) := cell_of hbk3.1 2
  have hf0 : w6.frozen? ⟨p, 0, none⟩ = false := free_of hbk3.1 0
  have hl : p < w6.heap.size := lt_of hbk3.1
  clear hbk3

  have hrow := hid (Y6.out.row 2 rfl).1
  rw [← HM.out] at hrow
  go_wp2_with (at_builtin; refine wpList_app rfl _ _ 52 rfl 58 i0 (.agg #[.int .i64 0, .bool false]) 2 16 Tryd.underlying52 hi hz0 hz1 hz2 rfl (by decide) _ m (S.flatMap sl) rfl (own_chg (S := fun _ => False) hrow.out ((Chg.refl _).alloc _) (fun _ _ f => f)) (some _) 1 1 [.int .i64 1, .bool false] rfl (reads_blk (cs := #[.int .i64 1, .bool false]) (E := 58) (f := (0, 0)) (alloc_new _ _) 1 1 2 rfl) (by intro u hu; simp at hu; rcases hu with rfl | rfl <;> rfl) (by omega) (by omega) ?_)
  intro a7 c7 w7 ho7 hg7 hn7
  have hY7 := (Y6.out.alloc #[.int .i64 1, .bool false] 58).grown 3 rfl ho7 hg7 hn7
  have Y7 := hid hY7
  obtain ⟨g7, c7', e7⟩ := own_shape ho7 (by omega)
  cases e7
  have hcap7 := own_cap ho7
  clear Y6 h0 h1 h2 hf0 hl hrow ho7 hg7 hn7 hY7
  have hbk4 := Y7.out.blk 2 rfl
  have h0 : w7.cell? ⟨p, 0, none⟩ = some (.slice av m cs) := cell_of hbk4.1 0
  have h1 : w7.cell? ⟨p, 1, none⟩ = some (vf) := cell_of hbk4.1 1
  have h2 : w7.cell? ⟨p, 2, none⟩ = some (.int .i64 c) := cell_of hbk4.1 2
  have hf0 : w7.frozen? ⟨p, 0, none⟩ = false := free_of hbk4.1 0
  have hf2 : w7.frozen? ⟨p, 2, none⟩ = false := free_of hbk4.1 2
  have hl : p < w7.heap.size := lt_of hbk4.1
  clear hbk4
  have hbk5 := Y7.out.blk 1 rfl
  have a0 : w7.cell? ⟨q4, 0, none⟩ = some (.int .i64 m) := cell_of hbk5.1 0
  have a1 : w7.cell? ⟨q4, 1, none⟩ = some (.int .i64 1) := cell_of hbk5.1 1
  have al : q4 < w7.heap.size := lt_of hbk5.1
  clear hbk5

  have hr := Y7.out.row 3 rfl
  have e1 : w7.cell? ⟨g7, m * 2 + 1, none⟩ = some (.bool false) := (hr.1.cellAt (m * 2 + 1) (by omega)).trans (by
    have hl := rows_len sl sl_len S
    rw [List.getElem?_append_right (by rw [hl, HM.out]; omega), hl, HM.out, show S.length * 2 + 1 - S.length * 2 = 1 by omega]; rfl)
  have e1f := hr.1.frozenAt (m * 2 + 1)
  have hgl := (hr.1.lt g7 rfl).2
  clear hr
  obtain ⟨n1a, n1b⟩ := Y7.out.neBB 1 2 rfl rfl (by omega)
  obtain ⟨n2a, n2b⟩ := Y7.out.neBR 2 3 rfl rfl (by omega)
  obtain ⟨n3a, n3b⟩ := Y7.out.neBR 1 3 rfl rfl (by omega)

  go_wp2
  have Y8 := hid (Y7.out.put 2 rfl 0 (.slice (some ⟨g7, 0, none⟩) (m + 1) c7))
  clear Y7 h0 h1 h2 hf0 hf2 hl a0 a1 al e1 e1f hgl
  generalize w7.setCell _ _ = w8 at *
  have hbk6 := Y8.out.blk 2 rfl
  have h0 : w8.cell? ⟨p, 0, none⟩ = some (.slice (some ⟨g7, 0, none⟩) (m + 1) c7) := cell_of hbk6.1 0
  have h1 : w8.cell? ⟨p, 1, none⟩ = some (vf) := cell_of hbk6.1 1
  have h2 : w8.cell? ⟨p, 2, none⟩ = some (.int .i64 c) := cell_of hbk6.1 2
  have hf0 : w8.frozen? ⟨p, 0, none⟩ = false := free_of hbk6.1 0
  have hf2 : w8.frozen? ⟨p, 2, none⟩ = false := free_of hbk6.1 2
  have hl : p < w8.heap.size := lt_of hbk6.1
  clear hbk6
  have hbk7 := Y8.out.blk 1 rfl
  have a0 : w8.cell? ⟨q4, 0, none⟩ = some (.int .i64 m) := cell_of hbk7.1 0
  have a1 : w8.cell? ⟨q4, 1, none⟩ = some (.int .i64 1) := cell_of hbk7.1 1
  have al : q4 < w8.heap.size := lt_of hbk7.1
  clear hbk7

  have hr := Y8.out.row 3 rfl
  have e1 : w8.cell? ⟨g7, m * 2 + 1, none⟩ = some (.bool false) := (hr.1.cellAt (m * 2 + 1) (by omega)).trans (by
    have hl := rows_len sl sl_len S
    rw [List.getElem?_append_right (by rw [hl, HM.out]; omega), hl, HM.out, show S.length * 2 + 1 - S.length * 2 = 1 by omega]; rfl)
  have e1f := hr.1.frozenAt (m * 2 + 1)
  have hgl := (hr.1.lt g7 rfl).2
  clear hr
  go_region
  have Y9 := hid ((Y8.out.store 3 rfl (m * 2 + 1) (.bool true)).go (w' := (w8.setCell ⟨g7, m * 2 + 1, none⟩ (.bool true)).drew) ((Chg.refl _).drew))
  clear Y8 h0 h1 h2 hf0 hf2 hl a0 a1 al e1 e1f hgl
  generalize (w8.setCell _ _).drew = w9 at *
  have hbk8 := Y9.out.blk 2 rfl
  have h2 : w9.cell? ⟨p, 2, none⟩ = some (.int .i64 c) := cell_of hbk8.1 2
  have hf2 : w9.frozen? ⟨p, 2, none⟩ = false := free_of hbk8.1 2
  have hl : p < w9.heap.size := lt_of hbk8.1
  clear hbk8
  have hbk9 := Y9.out.blk 1 rfl
  have a0 : w9.cell? ⟨q4, 0, none⟩ = some (.int .i64 m) := cell_of hbk9.1 0
  have a1 : w9.cell? ⟨q4, 1, none⟩ = some (.int .i64 1) := cell_of hbk9.1 1
  have al : q4 < w9.heap.size := lt_of hbk9.1
  clear hbk9
  have hbk10 := Y9.out.blk 5 rfl
  have b0 : w9.cell? ⟨q, 0, none⟩ = some (.int .i64 0) := cell_of hbk10.1 0
  have b1 : w9.cell? ⟨q, 1, none⟩ = some (.int .i64 0) := cell_of hbk10.1 1
  have bf0 : w9.frozen? ⟨q, 0, none⟩ = false := free_of hbk10.1 0
  have bf1 : w9.frozen? ⟨q, 1, none⟩ = false := free_of hbk10.1 1
  have bl : q < w9.heap.size := lt_of hbk10.1
  clear hbk10
  obtain ⟨n4a, n4b⟩ := Y9.out.neBB 2 5 rfl rfl (by omega)

  go_wp2
  refine bodyPost_ret (v := .tuple #[hv (m, 1), .nilIface]) (by simp [results, Tryd.results23, go_sem, *]) rfl ⟨by rw [HM.out], ?_⟩
  have h := ((Y9.out.put 2 rfl 2 (.int .i64 (c + 1))).put 5 rfl 0 (.int .i64 m)).put 5 rfl 1 (.int .i64 1)
  have h3 : Star w0 _ (blkR p (.slice (some ⟨g7, 0, none⟩) (m + 1) c7) vf (c + 1) :: Row 58 2 (.slice (some ⟨g7, 0, none⟩) (m + 1) c7) (m + 1) ((S.flatMap sl ++ [Value.int .i64 1, Value.bool false]).set (m * 2 + 1) (.bool true)) :: freeR vf [] :: L) := (((h.drop).drop).pull 3 rfl).drop
  have e : S.flatMap sl ++ [Value.int .i64 1, Value.bool false] = (S ++ [(1, false)]).flatMap sl := by simp [sl]
  have hset : (S ++ [(1, false)]).set m (1, true) = S ++ [(1, true)] := by rw [HM.out, List.set_append_right _ _ (Nat.le_refl _)]; simp
  have hlen : m + 1 = (S ++ [((1 : Int), true)]).length := by rw [HM.out]; simp
  rw [e, rows_set1 sl sl_len (S ++ [(1, false)]) m 1 (1, false) (1, true) (.bool true) (by rw [HM.out]; simp) (by omega) rfl, hset] at h3
  generalize m + 1 = m1 at *
  subst hlen
  exact PoolR.close h3

set_option maxRecDepth 100000 in
theorem take_full {w0 w : World} {L : List Res} {p : Nat} {S : List Slot} {c : Int} (X : Star w0 w (PoolR p S [] c :: L)) (hS : 128 ≤ S.length) (e : Value) (he : w0.cell? ⟨0, 0, none⟩ = some e) (het : ∃ T u, e = .iface T (.pointer (some u))) :
    Calls Tryd.prog 23 #[.pointer (some ⟨p, 0, none⟩)] w fun r w' => r = .returned (.tuple #[hv (0, 0), e]) ∧ Star w0 w' (PoolR p S [] c :: L) := by
  have X0 := hid ((X.alloc #[.int .i64 0, .int .i64 0] 42).swap)
  have HS := hid hS
  have HE := hid he
  obtain ⟨T, u, rfl⟩ := het
  clear X hS he
  go_enter Tryd.func23, Tryd.ntmps23
  go_wp2_with fail
  refine (next_full X0.out HS.out _ HE.out).mono ?_
  rintro r w1 ⟨rfl, hX⟩
  have X1 := hid hX
  clear hX X0
  have hbk11 := X1.out.blk 1 rfl
  have b0 : w1.cell? ⟨w.heap.size, 0, none⟩ = some (.int .i64 0) := cell_of hbk11.1 0
  have b1 : w1.cell? ⟨w.heap.size, 1, none⟩ = some (.int .i64 0) := cell_of hbk11.1 1
  have bf0 : w1.frozen? ⟨w.heap.size, 0, none⟩ = false := free_of hbk11.1 0
  have bf1 : w1.frozen? ⟨w.heap.size, 1, none⟩ = false := free_of hbk11.1 1
  have bl : w.heap.size < w1.heap.size := lt_of hbk11.1
  clear hbk11

  generalize w.heap.size = q at *
  go_wp2
  refine bodyPost_ret (v := .tuple #[hv (0, 0), .iface T (.pointer (some u))]) (by simp [results, Tryd.results23, go_sem, *]) rfl ⟨rfl, ?_⟩
  have h := ((((X1.out.swap).put 0 rfl 0 (.int .i64 0)).put 0 rfl 1 (.int .i64 0)).drop)
  exact h.go ((Chg.refl _).alloc _)
end Go.Proofs.YtminjgfobcnmhaaDoor.Pool
