/-
  JumpStraight: the walk. 
-/
import Derived.Test.YtdihnjhbopogoaaDoorAlive18
import Derived.Test.YtdihnjhbopogoaaDoorMade18
import Derived.Test.YtdihnjhbopogoaaDoorInAsk
namespace Go.Proofs.YtdihnjhbopogoaaDoor.JumpStraight
open Go Go.RowKit Go.Proofs.YtdihnjhbopogoaaDoor.Err Go.Proofs.YtdihnjhbopogoaaDoor.Steps Go.Proofs.YtdihnjhbopogoaaDoor.Route Go.Proofs.YtdihnjhbopogoaaDoor.Jmp

set_option maxRecDepth 100000 in
set_option maxHeartbeats 8000000 in
theorem walk (g : Grd) (bv : Value) (bl : List Int) (s t : Int) (x : Int) (w : World) (hr : Ints w bv bl) (hb : bl.length ≤ 9223372036854775807) (ad : Nat → Addr) (hE : ErrsJ w ad) :
    Calls Tryd.prog 4 #[askV g bv s t, .int .i64 x] w fun r w' => r = .returned (.bool true) ∧ Same w w' := by
  obtain ⟨a, cb, rfl⟩ := hr.slice
  have HE := hid hE
  have HR := hid hr
  obtain ⟨l, hl⟩ : ∃ l, l = bl.length := ⟨_, rfl⟩
  by_cases hc : g.right = true ∧ g.W * g.H ≤ 256 ∧ bl.length ≤ 300
  · have MY := hid (fun (w : World) hr hE => made_yes (w := w) g bl (.slice a bl.length cb) hr hc.2.2 hc.1 hc.2.1 ad hE)
    rw [← hl] at MY HR ⊢
    obtain ⟨W, H, S, X, Y⟩ := g
    unfold askV
    unfold Grd.v at MY
    simp only at MY ⊢
    have Z := hid ((Star.new w).alloc #[.int .i64 W, .int .i64 H, .int .i64 S, .int .i64 X, .int .i64 Y, .slice a l cb, .int .i64 s, .int .i64 t] 26)
    have HL := hid hl
    clear hc hr hE hl hb
    go_enter Tryd.func4, Tryd.ntmps4
    go_wp2_with fail
    generalize w.alloc _ = w1 at *
    generalize w.heap.size = q at *
    refine (alive_any ad (HE.out.same Z.out.same)).mono ?_
    rintro r w2 ⟨rfl, hs⟩
    have Z2 := hid (Z.out.go hs)
    have hbk := (Z2.out.blk 0 rfl).1
    have hql := lt_of hbk
    have c0 := cell_of hbk 0
    have c1 := cell_of hbk 1
    have c2 := cell_of hbk 2
    have c3 := cell_of hbk 3
    have c4 := cell_of hbk 4
    have c5 := cell_of hbk 5
    have c6 := cell_of hbk 6
    have c7 := cell_of hbk 7
    simp only [List.getElem?_toArray, List.getElem?_cons_zero, List.getElem?_cons_succ] at c0 c1 c2 c3 c4 c5 c6 c7
    clear hbk hs Z
    go_wp2_with fail
    refine (MY.out _ (HR.out.same Z2.out.same) (HE.out.same Z2.out.same).three).mono ?_
    rintro r w3 ⟨p, m, G, hok, hmax, rfl, hX3⟩
    have X3 : Hid (Star w w3 [gndR 71 m G, gndR 93 p G, Blk q #[.int .i64 W, .int .i64 H, .int .i64 S, .int .i64 X, .int .i64 Y, .slice a l cb, .int .i64 s, .int .i64 t] 26]) := hid (Z2.out.lift hX3)
    have OK := hid hok
    clear c0 c1 c2 c3 c4 c5 c6 c7 hql hX3 Z2 MY hok
    have hbk := (X3.out.blk 2 rfl).1
    have hql := lt_of hbk
    have c6 := cell_of hbk 6
    have c7 := cell_of hbk 7
    simp only [List.getElem?_toArray, List.getElem?_cons_zero, List.getElem?_cons_succ] at c6 c7
    clear hbk
    obtain ⟨pg, pc, hG, -⟩ := gnd_at X3.out 1 rfl
    have HG := hid hG
    clear hG
    go_wp2_with fail
    refine (jump_any HG.out s x t).mono ?_
    rintro r w4 ⟨rfl, hs4⟩
    have X4 := hid (X3.out.go hs4)
    have H4 := hid (HG.out.same hs4)
    have d6 := hs4.keep c6
    have d7 := hs4.keep c7
    have dl := Nat.lt_of_lt_of_le hql hs4.size
    clear c6 c7 hql hs4 X3 HG
    cases hj : G.jumpI t s x with
    | none =>
      clear hj
      unfold jumpV
      go_wp2
      go_ret
      exact ⟨rfl, X4.out.same⟩
    | some u =>
      have hc2 : 0 ≤ s ∧ 0 ≤ x ∧ x < 8 := by
        unfold Gr.jumpI at hj
        split at hj
        · assumption
        · cases hj
      obtain ⟨s, rfl⟩ := Int.eq_ofNat_of_zero_le hc2.1
      obtain ⟨d, rfl⟩ := Int.eq_ofNat_of_zero_le hc2.2.1
      have hd8 : d < 8 := by omega
      have hj2 : G.jump t s d = some u := by
        unfold Gr.jumpI at hj
        rw [if_pos hc2] at hj
        simpa using hj
      have HJ := hid hj2
      have hroom := Gr.room_le OK.out (Gr.jump_ne OK.out hj2).2.2.2.1 d
      clear hj hj2 hc2
      unfold jumpV
      go_wp2_with fail
      clear d6 d7 dl
      go_loopw [10, 44] (fun av iv wr => ∃ i e : Nat, iv = .int .i64 i ∧ av = .int .i64 e ∧ i + G.room e d ≤ 31 ∧ G.jump t e d = some u ∧ Star w4 wr []) (fun _ iv _ => 40 - (intOf iv).toNat)
      case atStart => exact ⟨0, s, rfl, rfl, by omega, HJ.out, Star.new w4⟩
      case round =>
        obtain ⟨i, e, rfl, rfl, hir, hje, hX⟩ := hrel
        have HJE := hid hje
        have X5 := hid hX
        have H5 := hid (H4.out.same hX.same)
        obtain ⟨v, k, hgo⟩ := Gr.jump_go hje
        have HGO := hid hgo
        have hroom2 := Gr.go_room OK.out hgo
        have hV := hid (show goV d (G.goI e d) = .tuple #[.agg #[.int .i64 d, .int .i64 v, .int .i64 k], .bool true] by rw [Gr.goI_nat, hgo]; rfl)
        have hstep := Gr.jump_step (goal := t) OK.out hgo
        clear hje hX hgo HJ
        go_wp2_with fail
        refine (go_any H5.out e d).mono ?_
        rintro r w6 ⟨rfl, hs6⟩
        rw [hV.out]
        have X6 := hid ((X5.out.go hs6).alloc #[.int .i64 d, .int .i64 v, .int .i64 k] 37)
        clear hs6 X5 H5
        by_cases hvu : v = u
        · subst hvu
          clear hstep
          go_wp2
          go_ret
          exact ⟨rfl, (X4.out.go X6.out.same).same⟩
        · have hvb : ((v : Int) == (u : Int)) = false := by rw [beq_eq_false_iff_ne]; omega
          have hnext : G.jump t v d = some u ∧ ¬ (v : Int) = t := by
            rw [HJE.out] at hstep
            split at hstep
            · exact absurd (Option.some.inj hstep).symm hvu
            · rename_i hn
              exact ⟨hstep.symm, fun h => hn (.inl h)⟩
          have HNX := hid hnext.1
          have hvt : ((v : Int) == t) = false := by rw [beq_eq_false_iff_ne]; exact hnext.2
          have H6 := hid (H4.out.same X6.out.same)
          have e7 : (w6.alloc _).cell? ⟨q, 7, none⟩ = some (.int .i64 t) := X6.out.same.keep (cell_of (X4.out.blk 2 rfl).1 7)
          have el := World.block_lt_of_cell? _ _ e7
          clear hstep hnext hvu
          go_wp2_with fail
          refine (jump_nat H6.out v d t hd8).mono ?_
          rintro r w7 ⟨rfl, hs7⟩
          rw [HNX.out]
          have X7 := hid (X6.out.go hs7)
          have f7 := hs7.keep e7
          have fl := World.block_lt_of_cell? _ _ f7
          unfold jumpV
          clear hs7 e7 el X6 H6
          go_wp2
          go_roundw
          case rel => exact ⟨i + 1, v, by go_num, rfl, by omega, HNX.out, X7.out.drop⟩
          case measure => simp [intOf]; omega
  · have MN := hid (fun (w : World) hr => made_no (w := w) g bl (.slice a bl.length cb) hr hb hc)
    rw [← hl] at MN HR ⊢
    obtain ⟨W, H, S, X, Y⟩ := g
    unfold askV
    unfold Grd.v at MN
    simp only at MN ⊢
    have Z := hid ((Star.new w).alloc #[.int .i64 W, .int .i64 H, .int .i64 S, .int .i64 X, .int .i64 Y, .slice a l cb, .int .i64 s, .int .i64 t] 26)
    clear hc hr hE hl hb
    go_enter Tryd.func4, Tryd.ntmps4
    go_wp2_with fail
    generalize w.alloc _ = w1 at *
    generalize w.heap.size = q at *
    refine (alive_any ad (HE.out.same Z.out.same)).mono ?_
    rintro r w2 ⟨rfl, hs⟩
    have Z2 := hid (Z.out.go hs)
    have hbk := (Z2.out.blk 0 rfl).1
    have hql := lt_of hbk
    have c0 := cell_of hbk 0
    have c1 := cell_of hbk 1
    have c2 := cell_of hbk 2
    have c3 := cell_of hbk 3
    have c4 := cell_of hbk 4
    have c5 := cell_of hbk 5
    have c6 := cell_of hbk 6
    have c7 := cell_of hbk 7
    simp only [List.getElem?_toArray, List.getElem?_cons_zero, List.getElem?_cons_succ] at c0 c1 c2 c3 c4 c5 c6 c7
    clear hbk hs Z
    go_wp2_with fail
    refine (MN.out _ (HR.out.same Z2.out.same)).mono ?_
    rintro r w3 ⟨rfl, hs⟩
    have Z3 := hid (Z2.out.go hs)
    clear hs Z2 MN
    go_wp2
    go_ret
    exact ⟨rfl, Z3.out.same⟩
end Go.Proofs.YtdihnjhbopogoaaDoor.JumpStraight
