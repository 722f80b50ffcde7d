/-
  StepsFreed: the walk.
-/
import Derived.Test.YtnfobdonmkefdaaDoorAlive16
import Derived.Test.YtnfobdonmkefdaaDoorStepBlocked
import Derived.Test.YtnfobdonmkefdaaDoorStepClone
namespace Go.Proofs.YtnfobdonmkefdaaDoor.StepsFreed
open Go Go.RowKit Go.Proofs.YtnfobdonmkefdaaDoor.Err Go.Proofs.YtnfobdonmkefdaaDoor.Steps

set_option maxRecDepth 100000 in
set_option maxHeartbeats 8000000 in
theorem walk (g : Grd) (bl : List Int) (v : Value) (tt : Int) (w : World) (hr : Ints w v bl) (hbl : bl.length ≤ 9223372036854775807) (ad : Nat → Addr) (hE : Errs5 w ad) :
    Calls Tryd.prog 5 #[g.v, v, .int .i64 tt] w fun r w' => r = .returned (.bool true) ∧ Same w w' := by
  obtain ⟨a, cb, rfl⟩ := hr.slice
  have HE := hid hE
  have HYES := hid (fun (hg : g.right = true ∧ bl.length ≤ 500) (w' : World) (hs : Same w w') => made_yes g bl _ (hr.same hs) hg.2 hg.1 ad (hE.same hs))
  have HNO := hid (fun (hg : ¬ (g.right = true ∧ bl.length ≤ 500)) (w' : World) (hs : Same w w') => made_no g bl _ (hr.same hs) hbl hg)
  have hcase : (g.right = true ∧ bl.length ≤ 500) ∨ ¬ (g.right = true ∧ bl.length ≤ 500) := Classical.em _
  have HC := hid hcase
  obtain ⟨W, H, S, X, Y⟩ := g
  unfold Grd.v at *
  simp only at HYES HNO ⊢
  have Z := hid ((Star.new w).alloc #[.int .i64 W, .int .i64 H, .int .i64 S, .int .i64 X, .int .i64 Y] 23)
  clear hE hr hcase hbl
  go_enter Tryd.func5, Tryd.ntmps5
  go_wp2_with fail
  generalize w.alloc _ = wz at *
  generalize w.heap.size = q at *
  refine (alive_any ad (HE.out.same Z.out.same)).mono ?_
  rintro r w1 ⟨rfl, hs⟩
  have Z1 := hid (Z.out.go hs)
  have hbk := (Z1.out.blk 0 rfl).1
  have hql := lt_of hbk
  have c0 := cell_of hbk 0
  have c1 := cell_of hbk 1
  have c2 := cell_of hbk 2
  have c3 := cell_of hbk 3
  have c4 := cell_of hbk 4
  simp only [List.getElem?_toArray, List.getElem?_cons_zero, List.getElem?_cons_succ] at c0 c1 c2 c3 c4
  clear hs Z hbk
  go_wp2_with fail
  rcases HC.out with hg | hg
  case inr =>
    refine (HNO.out hg w1 Z1.out.same).mono ?_
    rintro r w2 ⟨rfl, hs2⟩
    have S2 := hid (Z1.out.same.trans hs2 (fun _ _ f => f))
    clear hs2
    go_wp2
    go_ret
    exact ⟨rfl, S2.out⟩
  refine (HYES.out hg w1 Z1.out.same).mono ?_
  rintro r w2 ⟨p, mm, G, hok, hGW, hGH, rfl, hX⟩
  have X2 : Hid (Star w w2 [gndR 63 mm G, gndR 65 p G]) := hid (((Star.new w).go Z1.out.same).lift hX)
  have OK := hid hok
  have hmax := hok.max
  clear hX hok hGW hGH Z1 HYES HNO HC hg c0 c1 c2 c3 c4 hql
  have X3 := hid X2.out.drop
  clear X2
  go_wp2_with fail
  refine (clone_any X3.out).mono ?_
  rintro r w3 ⟨qq, rfl, hX⟩
  have X4 := hid hX
  clear hX X3
  go_wp2_with fail
  obtain ⟨g1, cg1, h1, -⟩ := gnd_at X4.out 1 rfl
  refine (len_any h1).mono ?_
  rintro r w3 ⟨rfl, rfl⟩
  clear h1
  obtain ⟨n, hn⟩ : ∃ n, n = G.fs.length := ⟨_, rfl⟩
  rw [← hn] at hmax ⊢
  have HN := hid hn
  clear hn
  obtain ⟨tn, htn, hmod⟩ := mod_small tt n (by omega) (by omega)
  have hwu : IntKind.u64.wrap (n : Int) = (n : Int) := by simp only [IntKind.wrap, IntKind.bits, IntKind.signed]; simp; omega
  go_wp2_with fail
  refine (set_in X4.out tn true (by rw [← HN.out]; exact htn)).mono ?_
  rintro r w4 ⟨rfl, hX⟩
  have X5 := hid hX
  clear hX X4 hmod hwu
  go_wp2_with fail
  obtain ⟨g1, cg1, h1, -⟩ := gnd_at X5.out 1 rfl
  refine (len_any h1).mono ?_
  rintro r w5 ⟨rfl, rfl⟩
  clear h1
  rw [← HN.out]
  go_wp2_with fail
  go_loopw [41] (fun iv wr => ∃ t : Nat, t ≤ n ∧ iv = .int .i64 t ∧ Star w wr [gndR 65 qq (G.set tn true), gndR 65 p G]) (fun iv _ => n - (intOf iv).toNat)
  case atStart => exact ⟨0, by omega, rfl, X5.out⟩
  case round =>
    obtain ⟨t, ht, rfl, hX⟩ := hrel
    have X4 := hid hX
    clear hX X5
    by_cases htn2 : t < n
    · obtain ⟨g1, cg1, h1, -⟩ := gnd_at X4.out 1 rfl
      go_wp2_with fail
      refine (around_any h1 t).mono ?_
      rintro r w4 ⟨va, rfl, hA⟩
      have X5 : Hid (Star w w4 [Row 34 3 va (G.aroundI t).length (stCs (G.aroundI t)), gndR 65 qq (G.set tn true), gndR 65 p G]) := hid (X4.out.lift hA)
      rw [Gr.aroundI_nat] at X5
      obtain ⟨aa, ca, rfl, -⟩ := own_slice (X5.out.row 0 rfl).1
      obtain ⟨m, hm⟩ : ∃ m, m = (G.around t).length := ⟨_, rfl⟩
      have hm8 : m ≤ 8 := by rw [hm, ← Gr.aroundI_nat]; exact G.aroundTo_len t 8
      rw [← hm] at X5 ⊢
      have HM := hid hm
      clear hA h1 X4 hm
      go_wp2_with fail
      go_loopw [48] (fun iv wr2 => ∃ i : Nat, i ≤ m ∧ iv = .int .i64 i ∧ Star w wr2 [Row 34 3 (.slice aa m ca) m (stCs (G.around t)), gndR 65 qq (G.set tn true), gndR 65 p G]) (fun iv _ => m - (intOf iv).toNat)
      case atStart => exact ⟨0, by omega, rfl, X5.out⟩
      case round =>
        obtain ⟨i, hi, rfl, hX⟩ := hrel
        have X6 := hid hX
        clear hX X5
        by_cases him : i < m
        · obtain ⟨gr, cr, e1⟩ := own_shape (X6.out.row 0 rfl).1 (by omega)
          cases e1
          have hrow := (X6.out.row 0 rfl).1
          obtain ⟨s, hs⟩ : ∃ s, (G.around t)[i]? = some s := ⟨_, List.getElem?_eq_getElem (by have := HM.out; omega)⟩
          obtain ⟨r0, r1, r2⟩ := stCs_get _ i s hs
          have q0 := (hrow.cellAt (i * 3) (by omega)).trans r0
          have q1 := (hrow.cellAt (i * 3 + 1) (by omega)).trans r1
          have q2 := (hrow.cellAt (i * 3 + 2) (by omega)).trans r2
          have hgrl := (hrow.lt gr rfl).2
          have hgo := Gr.mem_around.1 (List.mem_of_getElem? hs)
          obtain ⟨sd, st, sc⟩ := s
          dsimp only at q0 q1 q2 hgo
          have hgi : (G.set tn true).goI (t : Int) (sd : Int) = some (st, sc) := by rw [Gr.goI_nat]; exact Gr.go_mono hgo
          have HGI := hid hgi
          have X7 := hid (X6.out.alloc #[.int .i64 sd, .int .i64 st, .int .i64 sc] 34)
          clear hrow hs r0 r1 r2 hgo hgi
          go_wp2_with fail
          clear q0 q1 q2 hgrl X6
          generalize wr.alloc _ = w7 at *
          generalize wr.heap.size = b10 at *
          obtain ⟨g1, cg1, h1, -⟩ := gnd_at X7.out 2 rfl
          refine (go_any h1 _ _).mono ?_
          rintro r w8 ⟨rfl, hs8⟩
          have X8 := hid ((X7.out.go hs8).alloc #[.int .i64 sd, .int .i64 st, .int .i64 sc] 34)
          rw [HGI.out]
          unfold goV
          have hj := ((X7.out.go hs8).blk 0 rfl).1
          have j0 := cell_of hj 0
          have j1 := cell_of hj 1
          have j2 := cell_of hj 2
          have jl := lt_of hj
          simp only [List.getElem?_toArray, List.getElem?_cons_zero, List.getElem?_cons_succ] at j0 j1 j2
          clear h1 hs8 X7 hj
          go_wp2
          go_roundw
          case rel =>
            have hrel : ∃ i' : Nat, i' ≤ m ∧ Value.int .i64 ((i : Int) + 1) = .int .i64 i' ∧ Star w _ [Row 34 3 (.slice (some ⟨gr, 0, none⟩) m ca) m (stCs (G.around t)), gndR 65 qq (G.set tn true), gndR 65 p G] := ⟨i + 1, by omega, by go_num, X8.out.drop.drop⟩
            first | exact hrel | ((repeat apply Exists.intro); exact ⟨hrel, rfl⟩)
          case measure => simp [intOf]; omega
        · have X7 := hid X6.out.drop
          clear X6
          go_wp2_with fail
          obtain ⟨g1, cg1, h1, -⟩ := gnd_at X7.out 1 rfl
          refine (free_any h1 t).mono ?_
          rintro r w8 ⟨rfl, rfl⟩
          clear h1
          rw [Gr.freeI_nat]
          cases hf : G.free t with
          | false =>
            go_wp2
            go_roundw
            case rel =>
              have hrel : ∃ t' : Nat, t' ≤ n ∧ Value.int .i64 ((t : Int) + 1) = .int .i64 t' ∧ Star w _ [gndR 65 qq (G.set tn true), gndR 65 p G] := ⟨t + 1, by omega, by go_num, X7.out⟩
              first | exact hrel | ((repeat apply Exists.intro); exact ⟨hrel, rfl⟩)
            case measure => simp [intOf]; omega
          | true =>
            have hf2 := Gr.set_mono (t := tn) hf
            go_wp2_with fail
            obtain ⟨g1, cg1, h1, -⟩ := gnd_at X7.out 0 rfl
            refine (free_any h1 t).mono ?_
            rintro r w8 ⟨rfl, rfl⟩
            clear h1
            rw [Gr.freeI_nat, hf2]
            go_wp2
            go_roundw
            case rel =>
              have hrel : ∃ t' : Nat, t' ≤ n ∧ Value.int .i64 ((t : Int) + 1) = .int .i64 t' ∧ Star w _ [gndR 65 qq (G.set tn true), gndR 65 p G] := ⟨t + 1, by omega, by go_num, X7.out⟩
              first | exact hrel | ((repeat apply Exists.intro); exact ⟨hrel, rfl⟩)
            case measure => simp [intOf]; omega
    · have hbm := Gr.blocked_mono (G := G) tn
      go_wp2_with fail
      obtain ⟨g1, cg1, h1, -⟩ := gnd_at X4.out 0 rfl
      refine (blocked_any h1).mono ?_
      rintro r w5 ⟨v5, rfl, hA⟩
      have X5 := hid ((X4.out.lift hA))
      obtain ⟨a5, c5, rfl, -⟩ := own_slice (X5.out.row 0 rfl).1
      clear h1 hA X4
      go_wp2_with fail
      obtain ⟨g1, cg1, h1, -⟩ := gnd_at X5.out 2 rfl
      refine (blocked_any h1).mono ?_
      rintro r w6 ⟨v6, rfl, hA⟩
      have X6 := hid ((X5.out.lift hA))
      obtain ⟨a6, c6, rfl, -⟩ := own_slice (X6.out.row 0 rfl).1
      clear h1 hA X5
      have hdec : decide (((G.set tn true).blocked.length : Int) ≤ (G.blocked.length : Int)) = true := decide_eq_true (by omega)
      go_wp2
      go_ret
      exact ⟨ret_bool (by first | exact hdec | rfl), X6.out.same⟩
end Go.Proofs.YtnfobdonmkefdaaDoor.StepsFreed
