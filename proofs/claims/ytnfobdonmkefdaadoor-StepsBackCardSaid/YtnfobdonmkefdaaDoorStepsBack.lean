/-
  StepsBack: the walk.
-/
import Derived.Test.YtnfobdonmkefdaaDoorAlive16
import Derived.Test.YtnfobdonmkefdaaDoorStepGuess
namespace Go.Proofs.YtnfobdonmkefdaaDoor.StepsBack
open Go Go.RowKit Go.Proofs.YtnfobdonmkefdaaDoor.Err Go.Proofs.YtnfobdonmkefdaaDoor.Steps

set_option maxRecDepth 100000 in
set_option maxHeartbeats 8000000 in
theorem walk (g : Grd) (bl : List Int) (v : Value) (w : World) (hr : Ints w v bl) (hbl : bl.length ≤ 9223372036854775807) (ad : Nat → Addr) (hE : Errs5 w ad) :
    Calls Tryd.prog 3 #[g.v, v] w fun r w' => r = .returned (.bool true) ∧ Same w w' := by
  obtain ⟨a, cb, rfl⟩ := hr.slice
  have HE := hid hE
  have HYES := hid (fun (hg : g.right = true ∧ bl.length ≤ 500) (w' : World) (hs : Same w w') => made_yes g bl _ (hr.same hs) hg.2 hg.1 ad (hE.same hs))
  have HNO := hid (fun (hg : ¬ (g.right = true ∧ bl.length ≤ 500)) (w' : World) (hs : Same w w') => made_no g bl _ (hr.same hs) hbl hg)
  have hcase : (g.right = true ∧ bl.length ≤ 500) ∨ ¬ (g.right = true ∧ bl.length ≤ 500) := Classical.em _
  have HC := hid hcase
  obtain ⟨W, H, S, X, Y⟩ := g
  unfold Grd.v at *
  simp only at HYES HNO ⊢
  have Z := hid ((Star.new w).alloc #[.int .i64 W, .int .i64 H, .int .i64 S, .int .i64 X, .int .i64 Y] 23)
  clear hE hr hcase hbl
  go_enter Tryd.func3, Tryd.ntmps3
  go_wp2_with fail
  generalize w.alloc _ = wz at *
  generalize w.heap.size = q at *
  refine (alive_any ad (HE.out.same Z.out.same)).mono ?_
  rintro r w1 ⟨rfl, hs⟩
  have Z1 := hid (Z.out.go hs)
  have hbk := (Z1.out.blk 0 rfl).1
  have hql := lt_of hbk
  have c0 := cell_of hbk 0
  have c1 := cell_of hbk 1
  have c2 := cell_of hbk 2
  have c3 := cell_of hbk 3
  have c4 := cell_of hbk 4
  simp only [List.getElem?_toArray, List.getElem?_cons_zero, List.getElem?_cons_succ] at c0 c1 c2 c3 c4
  clear hs Z hbk
  go_wp2_with fail
  rcases HC.out with hg | hg
  case inr =>
    refine (HNO.out hg w1 Z1.out.same).mono ?_
    rintro r w2 ⟨rfl, hs2⟩
    have S2 := hid (Z1.out.same.trans hs2 (fun _ _ f => f))
    clear hs2
    go_wp2
    go_ret
    exact ⟨rfl, S2.out⟩
  refine (HYES.out hg w1 Z1.out.same).mono ?_
  rintro r w2 ⟨p, mm, G, hok, hGW, hGH, rfl, hX⟩
  have X2 : Hid (Star w w2 [gndR 63 mm G, gndR 65 p G]) := hid (((Star.new w).go Z1.out.same).lift hX)
  have OK := hid hok
  have hmax := hok.max
  clear hX hok hGW hGH Z1 HYES HNO HC hg c0 c1 c2 c3 c4 hql
  have X3 := hid X2.out.drop
  clear X2
  go_wp2_with fail
  obtain ⟨g1, cg1, h1, -⟩ := gnd_at X3.out 0 rfl
  refine (len_any h1).mono ?_
  rintro r w3 ⟨rfl, rfl⟩
  clear h1
  go_wp2_with fail
  go_loopw [28] (fun iv wr => ∃ t : Nat, t ≤ G.fs.length ∧ iv = .int .i64 t ∧ Star w wr [gndR 65 p G]) (fun iv _ => G.fs.length - (intOf iv).toNat)
  case atStart => exact ⟨0, by omega, rfl, X3.out⟩
  case round =>
    obtain ⟨t, ht, rfl, hX⟩ := hrel
    have X4 := hid hX
    clear hX X3
    by_cases htn : t < G.fs.length
    · obtain ⟨g1, cg1, h1, -⟩ := gnd_at X4.out 0 rfl
      go_wp2_with fail
      refine (around_any h1 t).mono ?_
      rintro r w4 ⟨va, rfl, hA⟩
      have X5 : Hid (Star w w4 [Row 34 3 va (G.aroundI t).length (stCs (G.aroundI t)), gndR 65 p G]) := hid (X4.out.lift hA)
      rw [Gr.aroundI_nat] at X5
      obtain ⟨aa, ca, rfl, -⟩ := own_slice (X5.out.row 0 rfl).1
      obtain ⟨m, hm⟩ : ∃ m, m = (G.around t).length := ⟨_, rfl⟩
      have hm8 : m ≤ 8 := by rw [hm, ← Gr.aroundI_nat]; exact G.aroundTo_len t 8
      rw [← hm] at X5 ⊢
      have HM := hid hm
      clear hA h1 X4 hm
      go_wp2_with fail
      go_loopw [35] (fun iv wr2 => ∃ i : Nat, i ≤ m ∧ iv = .int .i64 i ∧ Star w wr2 [Row 34 3 (.slice aa m ca) m (stCs (G.around t)), gndR 65 p G]) (fun iv _ => m - (intOf iv).toNat)
      case atStart => exact ⟨0, by omega, rfl, X5.out⟩
      case round =>
        obtain ⟨i, hi, rfl, hX⟩ := hrel
        have X6 := hid hX
        clear hX X5
        by_cases him : i < m
        · obtain ⟨gr, cr, e1⟩ := own_shape (X6.out.row 0 rfl).1 (by omega)
          cases e1
          have hrow := (X6.out.row 0 rfl).1
          obtain ⟨s, hs⟩ : ∃ s, (G.around t)[i]? = some s := ⟨_, List.getElem?_eq_getElem (by have := HM.out; omega)⟩
          obtain ⟨r0, r1, r2⟩ := stCs_get _ i s hs
          have q0 := (hrow.cellAt (i * 3) (by omega)).trans r0
          have q1 := (hrow.cellAt (i * 3 + 1) (by omega)).trans r1
          have q2 := (hrow.cellAt (i * 3 + 2) (by omega)).trans r2
          have hgrl := (hrow.lt gr rfl).2
          have hgo := Gr.mem_around.1 (List.mem_of_getElem? hs)
          obtain ⟨sd, st, sc⟩ := s
          dsimp only at q0 q1 q2 hgo
          have hd8 := (Gr.go_some hgo).2.1
          have hback := Gr.go_back OK.out hgo
          have hgu := Gr.go_guess OK.out hgo
          have hft := (Gr.go_some hgo).1
          have hfu := (Gr.go_end OK.out hgo).1
          have hul := Gr.free_in hfu
          obtain ⟨dd, hdd⟩ : ∃ dd, dd = (sd + 4) % 8 := ⟨_, rfl⟩
          have hgi : G.goI (st : Int) (dd : Int) = some (t, sc) := by rw [Gr.goI_nat, hdd]; exact hback
          have e4 : IntKind.i64.wrap ((sd : Int) + 4) = (sd : Int) + 4 := IntWalk.i64_in _ (by omega)
          have e8 : ((sd : Int) + 4).tmod 8 = (dd : Int) := by rw [hdd, show (8 : Int) = ((8 : Nat) : Int) from rfl, show ((sd : Int) + 4) = ((sd + 4 : Nat) : Int) from rfl, ← Int.ofNat_tmod]
          have HGI := hid hgi
          have HGU := hid hgu
          have HFT := hid hft
          have HFU := hid hfu
          have HUL := hid hul
          have X7 := hid (X6.out.alloc #[.int .i64 sd, .int .i64 st, .int .i64 sc] 34)
          clear hrow hs r0 r1 r2 hgo hback hgu hft hfu hul hgi hdd
          go_wp2_with fail
          clear q0 q1 q2 hgrl X6
          generalize wr.alloc _ = w7 at *
          generalize wr.heap.size = b10 at *
          obtain ⟨g1, cg1, h1, -⟩ := gnd_at X7.out 2 rfl
          refine (go_any h1 _ _).mono ?_
          rintro r w8 ⟨rfl, hs8⟩
          have X8 := hid ((X7.out.go hs8).alloc #[.int .i64 dd, .int .i64 t, .int .i64 sc] 34)
          rw [HGI.out]
          unfold goV
          have hk := (X8.out.blk 1 rfl).1
          have k0 := cell_of hk 0
          have k1 := cell_of hk 1
          have k2 := cell_of hk 2
          have kl := lt_of hk
          simp only [List.getElem?_toArray, List.getElem?_cons_zero, List.getElem?_cons_succ] at k0 k1 k2
          have hj := ((X7.out.go hs8).blk 0 rfl).1
          have j0 := cell_of hj 0
          have j1 := cell_of hj 1
          have j2 := cell_of hj 2
          have jl := lt_of hj
          simp only [List.getElem?_toArray, List.getElem?_cons_zero, List.getElem?_cons_succ] at j0 j1 j2
          clear h1 hs8 X7 hk hj
          go_wp2_with fail
          clear j0 j1 j2 jl
          generalize w8.alloc _ = w9 at *
          generalize w8.heap.size = b11 at *
          obtain ⟨g1, cg1, h1, -⟩ := gnd_at X8.out 3 rfl
          refine (guess_in h1 t st htn HUL.out).mono ?_
          rintro r w10 ⟨rfl, hs10⟩
          rw [HGU.out]
          have X9 := hid (X8.out.go hs10)
          have hk := (X9.out.blk 1 rfl).1
          have n0 := cell_of hk 0
          have n1 := cell_of hk 1
          have n2 := cell_of hk 2
          simp only [List.getElem?_toArray, List.getElem?_cons_zero, List.getElem?_cons_succ] at n0 n1 n2
          have hk' := (X9.out.blk 0 rfl).1
          have p0 := cell_of hk' 0
          have p1 := cell_of hk' 1
          have p2 := cell_of hk' 2
          simp only [List.getElem?_toArray, List.getElem?_cons_zero, List.getElem?_cons_succ] at p0 p1 p2
          clear h1 hs10 X8 k0 k1 k2 kl hk hk'
          go_wp2_with fail
          obtain ⟨g1, cg1, h1, -⟩ := gnd_at X9.out 3 rfl
          refine (free_any h1 t).mono ?_
          rintro r w11 ⟨rfl, rfl⟩
          rw [Gr.freeI_nat, HFT.out]
          go_wp2_with fail
          refine (free_any h1 st).mono ?_
          rintro r w11 ⟨rfl, rfl⟩
          rw [Gr.freeI_nat, HFU.out]
          clear h1
          go_wp2
          go_roundw
          case rel =>
            have hrel : ∃ i' : Nat, i' ≤ m ∧ Value.int .i64 ((i : Int) + 1) = .int .i64 i' ∧ Star w _ [Row 34 3 (.slice (some ⟨gr, 0, none⟩) m ca) m (stCs (G.around t)), gndR 65 p G] := ⟨i + 1, by omega, by go_num, X9.out.drop.drop⟩
            first | exact hrel | ((repeat apply Exists.intro); exact ⟨hrel, rfl⟩)
          case measure => simp [intOf]; omega
        · have X7 := hid X6.out.drop
          go_wp2
          go_roundw
          case rel =>
            have hrel : ∃ t' : Nat, t' ≤ G.fs.length ∧ Value.int .i64 ((t : Int) + 1) = .int .i64 t' ∧ Star w _ [gndR 65 p G] := ⟨t + 1, by omega, by go_num, X7.out⟩
            first | exact hrel | ((repeat apply Exists.intro); exact ⟨hrel, rfl⟩)
          case measure => simp [intOf]; omega
    · go_wp2
      go_ret
      exact ⟨rfl, X4.out.same⟩
end Go.Proofs.YtnfobdonmkefdaaDoor.StepsBack
