/-
  StepsSets: the walk.
-/
import Derived.Test.YtnfobdonmkefdaaDoorAlive16
import Derived.Test.YtnfobdonmkefdaaDoorStepBlocked
import Derived.Test.YtnfobdonmkefdaaDoorStepClone
import Derived.Test.YtnfobdonmkefdaaDoorRefIs
import Derived.Test.YtnfobdonmkefdaaDoorNum
namespace Go.Proofs.YtnfobdonmkefdaaDoor.StepsSets
open Go Go.RowKit Go.Proofs.YtnfobdonmkefdaaDoor.Err Go.Proofs.YtnfobdonmkefdaaDoor.Steps

theorem nC_reads {w : World} {v : Value} {l : List Nat} (h : Reads w v l.length 1 (nC l)) : Ints w v (l.map Int.ofNat) := by
  show Reads w v (l.map Int.ofNat).length 1 ((l.map Int.ofNat).map (Value.int .i64))
  rw [List.length_map, ← nC_ints]
  exact h

set_option maxRecDepth 100000 in
set_option maxHeartbeats 8000000 in
theorem walk (g : Grd) (bl : List Int) (v : Value) (tv : Value) (ts : List Int) (w : World) (hr : Ints w v bl) (hbl : bl.length ≤ 9223372036854775807) (hrt : Ints w tv ts) (htl : ts.length ≤ 9223372036854775807) (ad : Nat → Addr) (hE : Errs w ad) :
    Calls Tryd.prog 9 #[g.v, v, tv] w fun r w' => r = .returned (.bool true) ∧ Same w w' := by
  have HE10 := hid hE
  replace hE := hE.five
  obtain ⟨ta, tc, rfl⟩ := hrt.slice
  obtain ⟨l, hl⟩ : ∃ l, l = ts.length := ⟨_, rfl⟩
  have HT : Hid (∀ j (hj : j < ts.length), ∃ b off cap, Value.slice ta l tc = .slice (some ⟨b, off, none⟩) l cap ∧ w.cell? ⟨b, off + j, none⟩ = some (.int .i64 ts[j])) := hid (fun j hj => by
    obtain ⟨b, off, cap, e, _, hc⟩ := hrt.cells (by omega)
    rw [← hl] at e
    exact ⟨b, off, cap, e, hc j hj⟩)
  have HL := hid hl
  rw [← hl] at htl ⊢
  clear hrt hl
  obtain ⟨a, cb, rfl⟩ := hr.slice
  have HE := hid hE
  have HYES := hid (fun (hg : g.right = true ∧ bl.length ≤ 500) (w' : World) (hs : Same w w') => made_yes g bl _ (hr.same hs) hg.2 hg.1 ad (hE.same hs))
  have HNO := hid (fun (hg : ¬ (g.right = true ∧ bl.length ≤ 500)) (w' : World) (hs : Same w w') => made_no g bl _ (hr.same hs) hbl hg)
  have hcase : (g.right = true ∧ bl.length ≤ 500) ∨ ¬ (g.right = true ∧ bl.length ≤ 500) := Classical.em _
  have HC := hid hcase
  obtain ⟨W, H, S, X, Y⟩ := g
  unfold Grd.v at *
  simp only at HYES HNO ⊢
  have Z := hid ((Star.new w).alloc #[.int .i64 W, .int .i64 H, .int .i64 S, .int .i64 X, .int .i64 Y] 23)
  clear hE hr hcase hbl
  go_enter Tryd.func9, Tryd.ntmps9
  go_wp2_with fail
  generalize w.alloc _ = wz at *
  generalize w.heap.size = q at *
  refine (alive_any ad (HE.out.same Z.out.same)).mono ?_
  rintro r w1 ⟨rfl, hs⟩
  have Z1 := hid (Z.out.go hs)
  have hbk := (Z1.out.blk 0 rfl).1
  have hql := lt_of hbk
  have c0 := cell_of hbk 0
  have c1 := cell_of hbk 1
  have c2 := cell_of hbk 2
  have c3 := cell_of hbk 3
  have c4 := cell_of hbk 4
  simp only [List.getElem?_toArray, List.getElem?_cons_zero, List.getElem?_cons_succ] at c0 c1 c2 c3 c4
  clear hs Z hbk
  go_wp2_with fail
  rcases HC.out with hg | hg
  case inr =>
    refine (HNO.out hg w1 Z1.out.same).mono ?_
    rintro r w2 ⟨rfl, hs2⟩
    have S2 := hid (Z1.out.same.trans hs2 (fun _ _ f => f))
    clear hs2
    go_wp2
    go_ret
    exact ⟨rfl, S2.out⟩
  refine (HYES.out hg w1 Z1.out.same).mono ?_
  rintro r w2 ⟨p, mm, G, hok, hGW, hGH, rfl, hX⟩
  have X2 : Hid (Star w w2 [gndR 63 mm G, gndR 65 p G]) := hid (((Star.new w).go Z1.out.same).lift hX)
  have OK := hid hok
  have hmax := hok.max
  clear hX hok hGW hGH Z1 HYES HNO HC hg c0 c1 c2 c3 c4 hql
  have X3 := hid X2.out.swap
  clear X2
  by_cases h200 : 200 < l
  · go_wp2
    go_ret
    exact ⟨rfl, X3.out.same⟩
  obtain ⟨n, hn⟩ : ∃ n, n = G.fs.length := ⟨_, rfl⟩
  rw [← hn] at hmax
  have HN := hid hn
  clear hn
  go_wp2_with fail
  refine (clone_any X3.out).mono ?_
  rintro r w3 ⟨qq, rfl, hX⟩
  have X4 := hid hX
  clear hX X3
  go_wp2_with fail
  obtain ⟨g1, cg1, h1, -⟩ := gnd_at X4.out 0 rfl
  refine (blocked_any h1).mono ?_
  rintro r w4 ⟨va, rfl, hA⟩
  have X5 : Hid (Star w w4 [gndR 65 p G, gndR 63 mm G, Row 3 1 va G.blocked.length (nC G.blocked), gndR 65 qq G]) := hid (((X4.out.lift hA).pull 3 rfl).pull 3 rfl)
  obtain ⟨aa, ca, rfl, -⟩ := own_slice (X5.out.row 2 rfl).1
  clear hA h1 X4
  go_wp2_with fail
  go_loopw [39] (fun iv wr => ∃ (i : Nat) (Gi : Gr), i ≤ l ∧ iv = .int .i64 i ∧ Gi.fs.length = n ∧ Star w wr [gndR 65 p Gi, gndR 63 mm Gi, Row 3 1 (.slice aa G.blocked.length ca) G.blocked.length (nC G.blocked), gndR 65 qq G]) (fun iv _ => l - (intOf iv).toNat)
  case atStart => exact ⟨0, G, by omega, rfl, HN.out.symm, X5.out⟩
  case round =>
    obtain ⟨i, Gi, hi, rfl, hgn, hX⟩ := hrel
    have X6 := hid hX
    have GN := hid hgn
    clear hX X5 hgn
    by_cases hil : i < l
    · obtain ⟨b, off, cap, e1, hc⟩ := HT.out i (by have := HL.out; omega)
      cases e1
      have hcj := X6.out.same.keep hc
      clear hc
      generalize ts[i] = x at *
      obtain ⟨bb, hbb⟩ : ∃ bb, ((i : Int) % 2 == 0) = bb := ⟨_, rfl⟩
      by_cases hx : 0 ≤ x ∧ x < (n : Int)
      · obtain ⟨t, rfl⟩ := Int.eq_ofNat_of_zero_le hx.1
        have htn : t < n := by omega
        have hht : Gi.has (t : Int) = true := by unfold Gr.has; rw [GN.out]; exact decide_eq_true hx
        go_wp2_with fail
        refine (set_in X6.out t bb (by rw [GN.out]; exact htn)).mono ?_
        rintro r w6 ⟨rfl, hX⟩
        have X7 := hid hX
        have HBB := hid hbb
        clear hX X6 hcj hbb
        obtain ⟨gm, cm, hm1, -, -, -⟩ := gnd_at X7.out 1 rfl
        have HHAS : Hid (∀ n : SameW w6, Calls Tryd.prog 25 #[.pointer (some ⟨mm, 0, none⟩), .int .i64 t] n.w fun r w' => r = .returned (.bool true) ∧ n.w = w') := hid (fun n => by have h := rhas_any (hm1.same n.same) t; rw [hht] at h; exact h)
        have HNUM : Hid (∀ n : SameW w6, Calls Tryd.prog 23 #[.nilIface] n.w fun r w' => r = .returned (.int .i64 0) ∧ Same n.w w') := hid (fun n => (num_nil n.w).mono (fun r w' h => ⟨h.1, h.2 ▸ Chg.refl _⟩))
        clear hm1
        go_wp2_with fail
        refine wp_region_same (by kernel_rfl) (by kernel_rfl) ?_
        repeat (go_big_quiet_step (first
          | (go_at_call 25; with_reducible exact Calls.same_of_eq (HHAS.out _))
          | (go_at_call 23; with_reducible exact Calls.same_of (HNUM.out _))))
        with_reducible refine wpQuiet_nil ?_
        intro w8 hw8
        obtain ⟨m8, rfl⟩ := hw8
        have X8 := hid (X7.out.go m8.same)
        obtain ⟨gm, cm, hm1, -, -, hset⟩ := gnd_at X8.out 1 rfl
        have X9 := hid (hset t bb)
        have n2 := hm1.c2
        have nf := hm1.frozen t
        have ng := hm1.get t (by rw [GN.out]; exact htn)
        rw [GN.out] at n2
        have hbb := HBB.out
        have hh2 := hid (rhas_any hm1 t)
        rw [hht] at hh2
        clear hm1 hset X7 HHAS HNUM X8
        go_wp2_with fail
        refine (hh2.out).mono ?_
        rintro r w9 ⟨rfl, rfl⟩
        clear hh2
        go_wp2
        go_roundw
        case rel =>
          have hrel : ∃ (i' : Nat) (Gj : Gr), i' ≤ l ∧ Value.int .i64 ((i : Int) + 1) = .int .i64 i' ∧ Gj.fs.length = n ∧ Star w _ [gndR 65 p Gj, gndR 63 mm Gj, Row 3 1 (.slice aa G.blocked.length ca) G.blocked.length (nC G.blocked), gndR 65 qq G] := ⟨i + 1, Gi.set t bb, by omega, by go_num, by simp [Gr.set, GN.out], X9.out⟩
          first | exact hrel | ((repeat apply Exists.intro); exact ⟨hrel, rfl⟩)
        case measure => simp [intOf]; omega
      · have hht : Gi.has x = false := by unfold Gr.has; rw [GN.out]; exact decide_eq_false hx
        obtain ⟨g1, cg1, h1, -⟩ := gnd_at X6.out 0 rfl
        have e0 := (HE10.out.same X6.out.same).c0
        go_wp2_with fail
        refine (set_out h1 x bb hht _ e0).mono ?_
        rintro r w6 ⟨rfl, rfl⟩
        clear h1
        obtain ⟨gm, cm, hm1, -, -, -⟩ := gnd_at X6.out 1 rfl
        have HHAS : Hid (∀ n : SameW wr, Calls Tryd.prog 25 #[.pointer (some ⟨mm, 0, none⟩), .int .i64 x] n.w fun r w' => r = .returned (.bool false) ∧ n.w = w') := hid (fun n => by have h := rhas_any (hm1.same n.same) x; rw [hht] at h; exact h)
        have HNUM : Hid (∀ n : SameW wr, Calls Tryd.prog 23 #[.iface 98 (.pointer (some (ad 0)))] n.w fun r w' => r = .returned (.int .i64 1) ∧ Same n.w w') := hid (fun n => num ad 1 (by omega) n.w ((HE10.out.same X6.out.same).same n.same))
        clear hm1 e0 hcj
        go_wp2_with fail
        refine wp_region_same (by kernel_rfl) (by kernel_rfl) ?_
        repeat (go_big_quiet_step (first
          | (go_at_call 25; with_reducible exact Calls.same_of_eq (HHAS.out _))
          | (go_at_call 23; with_reducible exact Calls.same_of (HNUM.out _))))
        with_reducible refine wpQuiet_nil ?_
        intro w8 hw8
        obtain ⟨m8, rfl⟩ := hw8
        have X8 := hid (X6.out.go m8.same)
        obtain ⟨gm, cm, hm1, -, -, -⟩ := gnd_at X8.out 1 rfl
        have hh2 := hid (rhas_any hm1 x)
        rw [hht] at hh2
        clear hm1 X6 HHAS HNUM
        go_wp2_with fail
        refine (hh2.out).mono ?_
        rintro r w9 ⟨rfl, rfl⟩
        clear hh2
        go_wp2
        go_roundw
        case rel =>
          have hrel : ∃ (i' : Nat) (Gj : Gr), i' ≤ l ∧ Value.int .i64 ((i : Int) + 1) = .int .i64 i' ∧ Gj.fs.length = n ∧ Star w _ [gndR 65 p Gj, gndR 63 mm Gj, Row 3 1 (.slice aa G.blocked.length ca) G.blocked.length (nC G.blocked), gndR 65 qq G] := ⟨i + 1, Gi, by omega, by go_num, GN.out, X8.out⟩
          first | exact hrel | ((repeat apply Exists.intro); exact ⟨hrel, rfl⟩)
        case measure => simp [intOf]; omega
    · obtain ⟨gm, cm, hm1, -, -, -⟩ := gnd_at X6.out 1 rfl
      have n2 := hm1.c2
      rw [GN.out] at n2
      clear hm1
      go_wp2_with fail
      go_loopw [83] (fun iv wr3 => ∃ t : Nat, t ≤ n ∧ iv = .int .i64 t ∧ Star w wr3 [gndR 65 p Gi, gndR 63 mm Gi, Row 3 1 (.slice aa G.blocked.length ca) G.blocked.length (nC G.blocked), gndR 65 qq G] ∧ Hid (wr3.cell? ⟨mm, 2, none⟩ = some (.slice (some ⟨gm, 0, none⟩) n cm))) (fun iv _ => n - (intOf iv).toNat)
      case atStart => exact ⟨0, by omega, rfl, X6.out, hid n2⟩
      case round =>
        obtain ⟨t, ht, rfl, hX, hn2⟩ := hrel
        have X7 := hid hX
        clear hX X6 n2
        by_cases htn : t < n
        · obtain ⟨gm', cm', hm2, -, -, -⟩ := gnd_at X7.out 1 rfl
          have SAMEG : Hid (gm' = gm ∧ cm' = cm) := hid (by
            have h1 := hm2.c2
            rw [GN.out, hn2.out] at h1
            simp only [Option.some.injEq, Value.slice.injEq, Addr.mk.injEq, and_true, true_and] at h1
            exact ⟨h1.1.symm, h1.2.symm⟩)
          have ng := hm2.get t (by rw [GN.out]; exact htn)
          rw [SAMEG.out.1] at ng
          clear hm2
          obtain ⟨g1, cg1, h1, -⟩ := gnd_at X7.out 0 rfl
          have hf1 := hid (free_any h1 t)
          rw [Gr.freeI_nat] at hf1
          clear h1
          generalize Gi.free t = fb at *
          go_wp2_with fail
          refine (hf1.out).mono ?_
          rintro r w9 ⟨rfl, rfl⟩
          clear hf1
          have hbb2 : (fb != fb) = false := by simp
          go_wp2
          go_roundw
          case rel =>
            have hrel : ∃ t' : Nat, t' ≤ n ∧ Value.int .i64 ((t : Int) + 1) = .int .i64 t' ∧ Star w _ [gndR 65 p Gi, gndR 63 mm Gi, Row 3 1 (.slice aa G.blocked.length ca) G.blocked.length (nC G.blocked), gndR 65 qq G] ∧ Hid (World.cell? _ ⟨mm, 2, none⟩ = some (.slice (some ⟨gm, 0, none⟩) n cm)) := ⟨t + 1, by omega, by go_num, X7.out, hn2⟩
            first | exact hrel | ((repeat apply Exists.intro); exact ⟨hrel, rfl⟩)
          case measure => simp [intOf]; omega
        · obtain ⟨g1, cg1, h1, -⟩ := gnd_at X7.out 3 rfl
          go_wp2_with fail
          refine (blocked_any h1).mono ?_
          rintro r w9 ⟨vb, rfl, hA⟩
          have X8 := hid (X7.out.lift hA)
          clear h1 hA X7
          have hI1 := nC_reads (Reads.of_own (X8.out.row 0 rfl).1)
          have hI2 := nC_reads (Reads.of_own (X8.out.row 3 rfl).1)
          have hbl := (X8.out.row 0 rfl).1
          have hbm := own_max hbl
          go_wp2_with fail
          refine (Num.sameInts _ _ _ _ _ hI1 hI2 (by rw [List.length_map]; exact hbm) (by rw [List.length_map]; exact hbm)).mono ?_
          rintro r w10 ⟨rfl, hs10⟩
          rw [decide_eq_true rfl]
          have X9 := hid (X8.out.go hs10)
          clear hs10 hI1 hI2 hbl
          go_wp2
          go_ret
          exact ⟨rfl, X9.out.same⟩
end Go.Proofs.YtnfobdonmkefdaaDoor.StepsSets
