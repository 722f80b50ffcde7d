/-
  JumpJumps: the walk. 
-/
import Derived.Test.YtdihnjhbopogoaaDoorAlive18
import Derived.Test.YtdihnjhbopogoaaDoorMade18
import Derived.Test.YtdihnjhbopogoaaDoorInAsk
import Derived.Test.YtdihnjhbopogoaaDoorRefJump
namespace Go.Proofs.YtdihnjhbopogoaaDoor.JumpJumps
open Go Go.RowKit Go.Proofs.YtdihnjhbopogoaaDoor.Err Go.Proofs.YtdihnjhbopogoaaDoor.Steps Go.Proofs.YtdihnjhbopogoaaDoor.Route Go.Proofs.YtdihnjhbopogoaaDoor.Jmp

set_option maxRecDepth 100000 in
set_option maxHeartbeats 8000000 in
theorem walk (g : Grd) (bv : Value) (bl : List Int) (s t : Int) (x : Int) (w : World) (hr : Ints w bv bl) (hb : bl.length ≤ 9223372036854775807) (ad : Nat → Addr) (hE : ErrsJ w ad) :
    Calls Tryd.prog 3 #[askV g bv s t, .int .i64 x] w fun r w' => r = .returned (.bool true) ∧ Same w w' := by
  obtain ⟨a, cb, rfl⟩ := hr.slice
  have HE := hid hE
  have HR := hid hr
  obtain ⟨l, hl⟩ : ∃ l, l = bl.length := ⟨_, rfl⟩
  by_cases hc : g.right = true ∧ g.W * g.H ≤ 256 ∧ bl.length ≤ 300
  · have MY := hid (fun (w : World) hr hE => made_yes (w := w) g bl (.slice a bl.length cb) hr hc.2.2 hc.1 hc.2.1 ad hE)
    rw [← hl] at MY HR ⊢
    obtain ⟨W, H, S, X, Y⟩ := g
    unfold askV
    unfold Grd.v at MY
    simp only at MY ⊢
    have Z := hid ((Star.new w).alloc #[.int .i64 W, .int .i64 H, .int .i64 S, .int .i64 X, .int .i64 Y, .slice a l cb, .int .i64 s, .int .i64 t] 26)
    have HL := hid hl
    clear hc hr hE hl hb
    go_enter Tryd.func3, Tryd.ntmps3
    go_wp2_with fail
    generalize w.alloc _ = w1 at *
    generalize w.heap.size = q at *
    refine (alive_any ad (HE.out.same Z.out.same)).mono ?_
    rintro r w2 ⟨rfl, hs⟩
    have Z2 := hid (Z.out.go hs)
    have hbk := (Z2.out.blk 0 rfl).1
    have hql := lt_of hbk
    have c0 := cell_of hbk 0
    have c1 := cell_of hbk 1
    have c2 := cell_of hbk 2
    have c3 := cell_of hbk 3
    have c4 := cell_of hbk 4
    have c5 := cell_of hbk 5
    have c6 := cell_of hbk 6
    have c7 := cell_of hbk 7
    simp only [List.getElem?_toArray, List.getElem?_cons_zero, List.getElem?_cons_succ] at c0 c1 c2 c3 c4 c5 c6 c7
    clear hbk hs Z
    go_wp2_with fail
    refine (MY.out _ (HR.out.same Z2.out.same) (HE.out.same Z2.out.same).three).mono ?_
    rintro r w3 ⟨p, m, G, hok, hmax, rfl, hX3⟩
    have X3 : Hid (Star w w3 [gndR 71 m G, gndR 93 p G, Blk q #[.int .i64 W, .int .i64 H, .int .i64 S, .int .i64 X, .int .i64 Y, .slice a l cb, .int .i64 s, .int .i64 t] 26]) := hid (Z2.out.lift hX3)
    have OK := hid hok
    clear c0 c1 c2 c3 c4 c5 c6 c7 hql hX3 Z2 MY hok
    have hbk := (X3.out.blk 2 rfl).1
    have hql := lt_of hbk
    have c6 := cell_of hbk 6
    have c7 := cell_of hbk 7
    simp only [List.getElem?_toArray, List.getElem?_cons_zero, List.getElem?_cons_succ] at c6 c7
    clear hbk
    obtain ⟨pg, pc, hG, -⟩ := gnd_at X3.out 1 rfl
    have HG := hid hG
    clear hG
    obtain ⟨mg, mc, hM, -⟩ := gnd_at X3.out 0 rfl
    have HM := hid hM
    clear hM
    go_wp2_with fail
    refine (jump_any HG.out s x t).mono ?_
    rintro r w4 ⟨rfl, hs4⟩
    have X4 := hid (X3.out.go hs4)
    have H4 := hid (HM.out.same hs4)
    have d6 := hs4.keep c6
    have d7 := hs4.keep c7
    have dl := Nat.lt_of_lt_of_le hql hs4.size
    obtain ⟨y, hy⟩ : ∃ y, y = G.jumpI t s x := ⟨_, rfl⟩
    have HY := hid hy
    rw [← hy]
    clear c6 c7 hql hs4 X3 HG hy
    cases y with
    | none =>
      unfold jumpV
      go_wp2_with fail
      refine (rjump_any H4.out s x t).mono ?_
      rintro r w5 ⟨rfl, hs5⟩
      rw [← HY.out]
      have X5 := hid (X4.out.go hs5)
      unfold jI
      clear hs5 d6 d7 dl
      go_wp2
      go_ret
      exact ⟨rfl, X5.out.same⟩
    | some u =>
      unfold jumpV
      go_wp2_with fail
      refine (rjump_any H4.out s x t).mono ?_
      rintro r w5 ⟨rfl, hs5⟩
      rw [← HY.out]
      have X5 := hid (X4.out.go hs5)
      have hu : (0 : Int) ≤ (u : Int) := by omega
      unfold jI
      clear hs5 d6 d7 dl
      go_wp2
      go_ret
      exact ⟨rfl, X5.out.same⟩
  · have MN := hid (fun (w : World) hr => made_no (w := w) g bl (.slice a bl.length cb) hr hb hc)
    rw [← hl] at MN HR ⊢
    obtain ⟨W, H, S, X, Y⟩ := g
    unfold askV
    unfold Grd.v at MN
    simp only at MN ⊢
    have Z := hid ((Star.new w).alloc #[.int .i64 W, .int .i64 H, .int .i64 S, .int .i64 X, .int .i64 Y, .slice a l cb, .int .i64 s, .int .i64 t] 26)
    clear hc hr hE hl hb
    go_enter Tryd.func3, Tryd.ntmps3
    go_wp2_with fail
    generalize w.alloc _ = w1 at *
    generalize w.heap.size = q at *
    refine (alive_any ad (HE.out.same Z.out.same)).mono ?_
    rintro r w2 ⟨rfl, hs⟩
    have Z2 := hid (Z.out.go hs)
    have hbk := (Z2.out.blk 0 rfl).1
    have hql := lt_of hbk
    have c0 := cell_of hbk 0
    have c1 := cell_of hbk 1
    have c2 := cell_of hbk 2
    have c3 := cell_of hbk 3
    have c4 := cell_of hbk 4
    have c5 := cell_of hbk 5
    have c6 := cell_of hbk 6
    have c7 := cell_of hbk 7
    simp only [List.getElem?_toArray, List.getElem?_cons_zero, List.getElem?_cons_succ] at c0 c1 c2 c3 c4 c5 c6 c7
    clear hbk hs Z
    go_wp2_with fail
    refine (MN.out _ (HR.out.same Z2.out.same)).mono ?_
    rintro r w3 ⟨rfl, hs⟩
    have Z3 := hid (Z2.out.go hs)
    clear hs Z2 MN
    go_wp2
    go_ret
    exact ⟨rfl, Z3.out.same⟩
end Go.Proofs.YtdihnjhbopogoaaDoor.JumpJumps
