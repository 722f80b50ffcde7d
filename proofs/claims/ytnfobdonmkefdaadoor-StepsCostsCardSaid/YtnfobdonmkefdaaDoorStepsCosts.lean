/-
  StepsCosts: the walk.
-/
import Derived.Test.YtnfobdonmkefdaaDoorAlive16
import Derived.Test.YtnfobdonmkefdaaDoorRefCost
import Derived.Test.YtnfobdonmkefdaaDoorKept
import Derived.Test.YtnfobdonmkefdaaDoorNum
namespace Go.Proofs.YtnfobdonmkefdaaDoor.StepsCosts
open Go Go.RowKit Go.Proofs.YtnfobdonmkefdaaDoor.Err Go.Proofs.YtnfobdonmkefdaaDoor.Steps

theorem cost_num (G : Gr) (xs : List Int) : ∃ k : Nat, k ≤ 10 ∧ (G.cost xs).2 = k := by
  unfold Gr.cost
  split
  · exact ⟨3, by omega, rfl⟩
  · split
    · exact ⟨1, by omega, rfl⟩
    · split
      · exact ⟨8, by omega, rfl⟩
      · split
        · exact ⟨0, by omega, rfl⟩
        · exact ⟨9, by omega, rfl⟩

set_option maxRecDepth 100000 in
set_option maxHeartbeats 8000000 in
theorem walk (g : Grd) (bl : List Int) (v : Value) (tv : Value) (ts : List Int) (w : World) (hr : Ints w v bl) (hbl : bl.length ≤ 9223372036854775807) (hrt : Ints w tv ts) (htl : ts.length ≤ 9223372036854775807) (ad : Nat → Addr) (hE : Errs w ad) :
    Calls Tryd.prog 6 #[g.v, v, tv] w fun r w' => r = .returned (.bool true) ∧ Same w w' := by
  have HE10 := hid hE
  replace hE := hE.five
  obtain ⟨ta, tc, rfl⟩ := hrt.slice
  have HT := hid hrt
  obtain ⟨l, hl⟩ : ∃ l, l = ts.length := ⟨_, rfl⟩
  have HTL : Hid (Ints w (.slice ta l tc) ts) := hid (by rw [hl]; exact hrt)
  have HL := hid hl
  rw [← hl] at htl ⊢
  clear hrt hl
  obtain ⟨a, cb, rfl⟩ := hr.slice
  have HE := hid hE
  have HYES := hid (fun (hg : g.right = true ∧ bl.length ≤ 500) (w' : World) (hs : Same w w') => made_yes g bl _ (hr.same hs) hg.2 hg.1 ad (hE.same hs))
  have HNO := hid (fun (hg : ¬ (g.right = true ∧ bl.length ≤ 500)) (w' : World) (hs : Same w w') => made_no g bl _ (hr.same hs) hbl hg)
  have hcase : (g.right = true ∧ bl.length ≤ 500) ∨ ¬ (g.right = true ∧ bl.length ≤ 500) := Classical.em _
  have HC := hid hcase
  obtain ⟨W, H, S, X, Y⟩ := g
  unfold Grd.v at *
  simp only at HYES HNO ⊢
  have Z := hid ((Star.new w).alloc #[.int .i64 W, .int .i64 H, .int .i64 S, .int .i64 X, .int .i64 Y] 23)
  clear hE hr hcase hbl
  go_enter Tryd.func6, Tryd.ntmps6
  go_wp2_with fail
  generalize w.alloc _ = wz at *
  generalize w.heap.size = q at *
  refine (alive_any ad (HE.out.same Z.out.same)).mono ?_
  rintro r w1 ⟨rfl, hs⟩
  have Z1 := hid (Z.out.go hs)
  have hbk := (Z1.out.blk 0 rfl).1
  have hql := lt_of hbk
  have c0 := cell_of hbk 0
  have c1 := cell_of hbk 1
  have c2 := cell_of hbk 2
  have c3 := cell_of hbk 3
  have c4 := cell_of hbk 4
  simp only [List.getElem?_toArray, List.getElem?_cons_zero, List.getElem?_cons_succ] at c0 c1 c2 c3 c4
  clear hs Z hbk
  go_wp2_with fail
  rcases HC.out with hg | hg
  case inr =>
    refine (HNO.out hg w1 Z1.out.same).mono ?_
    rintro r w2 ⟨rfl, hs2⟩
    have S2 := hid (Z1.out.same.trans hs2 (fun _ _ f => f))
    clear hs2
    go_wp2
    go_ret
    exact ⟨rfl, S2.out⟩
  refine (HYES.out hg w1 Z1.out.same).mono ?_
  rintro r w2 ⟨p, mm, G, hok, hGW, hGH, rfl, hX⟩
  have X2 : Hid (Star w w2 [gndR 63 mm G, gndR 65 p G]) := hid (((Star.new w).go Z1.out.same).lift hX)
  have OK := hid hok
  have hmax := hok.max
  clear hX hok hGW hGH Z1 HYES HNO HC hg c0 c1 c2 c3 c4 hql
  by_cases h200 : 200 < l
  · go_wp2
    go_ret
    exact ⟨rfl, X2.out.same⟩
  go_wp2_with fail
  refine (Num.ints_any _ ts _ (HTL.out.same X2.out.same) (by rw [← HL.out]; omega)).mono ?_
  rintro r w3 ⟨gc, cp, rfl, hC, hs3⟩
  have X3 := hid (X2.out.go hs3)
  have hcap := hC.cap
  have hcr := hC.reads
  clear hs3 X2
  have HC := hid hcr
  go_wp2_with fail
  obtain ⟨g1, cg1, h1, -⟩ := gnd_at X3.out 1 rfl
  refine (cost_any h1 _ _ cp ts HC.out (by omega) (by rw [← HL.out]; omega) ad (HE.out.same X3.out.same)).mono ?_
  rintro r w4 ⟨rfl, hs4⟩
  have X4 := hid (X3.out.go hs4)
  clear h1 hs4 hcap hcr hC X3 HC
  obtain ⟨z1, hz1⟩ : ∃ z1, z1 = (G.cost ts).1 := ⟨_, rfl⟩
  obtain ⟨k, hk10, hk⟩ := cost_num G ts
  unfold costV
  rw [hk, ← hz1, Int.toNat_natCast]
  have HK := hid hk
  have HZ1 := hid hz1
  clear hk hz1
  obtain ⟨ev, hev⟩ : ∃ ev, ev = errV ad k := ⟨_, rfl⟩
  rw [← hev]
  have HEV := hid hev
  clear hev
  go_wp2_with fail
  obtain ⟨g2, cg2, h2, -⟩ := gnd_at X4.out 0 rfl
  refine (rcost_any h2 _ ts (HTL.out.same X4.out.same) (by rw [← HL.out]; omega)).mono ?_
  rintro r w5 ⟨rfl, hs5⟩
  have X5 := hid (X4.out.go hs5)
  clear h2 hs5 X4
  rw [HK.out, ← HZ1.out]
  go_wp2_with fail
  rw [HEV.out]
  refine (num ad k hk10 _ (HE10.out.same X5.out.same)).mono ?_
  rintro r w6 ⟨rfl, hs6⟩
  have X6 := hid (X5.out.go hs6)
  clear hs6
  go_wp2
  go_ret
  exact ⟨rfl, X6.out.same⟩
end Go.Proofs.YtnfobdonmkefdaaDoor.StepsCosts
