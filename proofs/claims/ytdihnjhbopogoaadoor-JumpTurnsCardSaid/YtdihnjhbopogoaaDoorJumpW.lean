/-
  Package jump: Jump, by its contract.
-/
import Derived.Test.YtdihnjhbopogoaaDoorStepGo
import Derived.Test.YtdihnjhbopogoaaDoorExpP
namespace Go.Proofs.YtdihnjhbopogoaaDoor.Jmp
open Go Go.RowKit Go.Proofs.YtdihnjhbopogoaaDoor.Steps
def jumpV : Option Nat → Value
  | some u => .tuple #[.int .i64 u, .bool true]
  | none => .tuple #[.int .i64 (-1), .bool false]
theorem goV_shape (d : Int) (x : Option (Nat × Int)) : ∃ a b c : Int, goV d x = .tuple #[.agg #[.int .i64 a, .int .i64 b, .int .i64 c], .bool x.isSome] := by
  cases x with
  | none => exact ⟨0, 0, 0, rfl⟩
  | some p => obtain ⟨u, c⟩ := p; exact ⟨d, u, c, rfl⟩
theorem jumpV_shape (x : Option Nat) : ∃ a : Int, jumpV x = .tuple #[.int .i64 a, .bool x.isSome] := by
  cases x with
  | none => exact ⟨-1, rfl⟩
  | some p => exact ⟨p, rfl⟩
theorem turn_any (w : World) (d : Nat) (b : Int) (m : Nat) (hd : d < 8) (hb : -2 ≤ b ∧ b ≤ 2) (hm : ((d : Int) + b + 8) % 8 = m) : Calls Tryd.prog 31 #[.int .i64 d, .int .i64 b] w fun r w' => r = .returned (.int .i64 m) ∧ w = w' := by
  obtain ⟨h1, h2⟩ := hb
  have HM := hid hm
  clear hm
  go_enter Tryd.func31, Tryd.ntmps31
  go_wp2
  go_ret
  exact ⟨ret_int HM.out, rfl⟩
section
variable {w : World} {p g c : Nat} {G : Gr}
set_option maxRecDepth 100000 in
theorem beside_any (h : Gnd 93 w p g c G) (f t s : Nat) : Calls Tryd.prog 30 #[.pointer (some ⟨p, 0, none⟩), .int .i64 f, .int .i64 t, .int .i64 s] w fun r w' => r = .returned (.bool (G.bes f t s)) ∧ Same w w' := by
  have H := hid h
  obtain ⟨x1, hx1⟩ : ∃ x, x = (G.go f s).isSome := ⟨_, rfl⟩
  obtain ⟨x2, hx2⟩ : ∃ x, x = (G.go t s).isSome := ⟨_, rfl⟩
  have HB := hid (show G.bes f t s = (x2 && !x1) by unfold Gr.bes; rw [hx1, hx2]; cases G.go f s <;> rfl)
  rw [HB.out]
  have HX1 := hid hx1
  have HX2 := hid hx2
  clear h hx1 hx2
  go_enter Tryd.func30, Tryd.ntmps30
  go_wp2_with fail
  refine (go_any H.out f s).mono ?_
  rintro r w1 ⟨rfl, hs1⟩
  rw [Gr.goI_nat]
  obtain ⟨a1, b1, c1, e1⟩ := goV_shape (s : Int) (G.go f s)
  rw [e1, ← HX1.out]
  have S1 := hid (hs1.alloc (.cells #[.int .i64 a1, .int .i64 b1, .int .i64 c1] 37))
  have H1 := hid (H.out.same S1.out)
  clear hs1 e1
  go_wp2_with fail
  refine (go_any H1.out t s).mono ?_
  rintro r w2 ⟨rfl, hs2⟩
  rw [Gr.goI_nat]
  obtain ⟨a2, b2, c2, e2⟩ := goV_shape (s : Int) (G.go t s)
  rw [e2, ← HX2.out]
  have S2 := hid ((S1.out.trans hs2 (fun _ _ f => f)).alloc (.cells #[.int .i64 a2, .int .i64 b2, .int .i64 c2] 37))
  clear hs2 e2
  cases x1 <;> cases x2
  all_goals
    go_wp2
    go_ret
    exact ⟨rfl, S2.out⟩
set_option maxRecDepth 100000 in
set_option maxHeartbeats 8000000 in
theorem jumpS_any (h : Gnd 93 w p g c G) (t d : Nat) (goal : Int) (hd8 : d < 8) (hd2 : d % 2 = 0) : Calls Tryd.prog 11 #[.pointer (some ⟨p, 0, none⟩), .int .i64 t, .int .i64 d, .int .i64 goal] w fun r w' => r = .returned (jumpV (G.jump goal t d)) ∧ Same w w' := by
  have H := hid h
  obtain ⟨x, hx⟩ : ∃ x, x = G.jump goal t d := ⟨_, rfl⟩
  rw [← hx]
  have HX := hid hx
  have HD := hid hd2
  have hdi : (d : Int) % 2 = 0 := by omega
  have X0 := hid (Star.new w)
  obtain ⟨m1, hm1⟩ : ∃ m, m = (d + 6) % 8 := ⟨_, rfl⟩
  obtain ⟨m2, hm2⟩ : ∃ m, m = (d + 2) % 8 := ⟨_, rfl⟩
  have M1 := hid hm1
  have M2 := hid hm2
  clear hm1 hm2
  clear h hx hd2
  go_enter Tryd.func11, Tryd.ntmps11
  go_wp2_with fail
  go_loopw [1] (fun tv wr => ∃ u : Nat, tv = .int .i64 u ∧ x = G.jump goal u d ∧ Star w wr []) (fun tv _ => G.room (intOf tv).toNat d)
  case atStart => exact ⟨t, rfl, HX.out, X0.out⟩
  case round =>
    obtain ⟨u, rfl, hu, hX⟩ := hrel
    have X := hid hX
    have HU := hid hu
    have H1 := hid (H.out.same hX.same)
    clear hX hu X0
    go_wp2_with fail
    refine (go_any H1.out u d).mono ?_
    rintro r w1 ⟨rfl, hs1⟩
    rw [Gr.goI_nat]
    have X1 := hid (X.out.go hs1)
    clear hs1 X H1
    cases hgo : G.go u d with
    | none =>
      have HN := hid (show x = none by rw [HU.out, Gr.jump_none hgo])
      unfold goV
      clear hgo
      go_wp2
      go_ret2
      exact ⟨by rw [HN.out]; rfl, (X1.out.alloc _ _).same⟩
    | some q =>
      obtain ⟨v, k⟩ := q
      have HG := hid hgo
      have hroom := Gr.go_room H.out.ok hgo
      have X2 := hid ((X1.out.alloc #[.int .i64 d, .int .i64 v, .int .i64 k] 37).alloc #[.int .i64 (-1), .int .i64 1] 3)
      rw [World.size_alloc] at X2
      have S1 := hid (X1.out.alloc #[.int .i64 d, .int .i64 v, .int .i64 k] 37).same
      unfold goV
      clear hgo X1
      by_cases hvg : (v : Int) = goal
      · have HN := hid (show x = some v by rw [HU.out, Gr.jump_stop H.out.ok HG.out (.inl hvg)])
        have hvb : ((v : Int) == goal) = true := by simpa using hvg
        clear hvg
        go_wp2
        go_ret2
        exact ⟨by rw [HN.out]; rfl, S1.out⟩
      · have hvb : ((v : Int) == goal) = false := by simpa using hvg
        have HVG := hid hvg
        clear hvg S1
        go_wp2_with fail
        generalize w1.heap.size + 1 = q at *
        go_loopw [35] (fun iv wx => ∃ j : Nat, j ≤ 2 ∧ iv = .int .i64 j ∧ Star w wx [Blk q #[.int .i64 (-1), .int .i64 1] 3] ∧ (1 ≤ j → G.bes u v m1 = false) ∧ (2 ≤ j → G.bes u v m2 = false)) (fun iv _ => 2 - (intOf iv).toNat)
        case atStart => exact ⟨0, by omega, rfl, (X2.out.swap).drop, by omega, by omega⟩
        case round =>
          obtain ⟨j, hj, rfl, hX, hA, hB⟩ := hrel
          have X3 := hid hX
          have HA := hid hA
          have HB := hid hB
          have hb := (hX.blk 0 rfl).1
          have q0 := cell_of hb 0
          have q1 := cell_of hb 1
          have ql := lt_of hb
          simp only [List.getElem?_toArray, List.getElem?_cons_zero, List.getElem?_cons_succ] at q0 q1
          have H3 := hid (H.out.same hX.same)
          clear hX hA hB X2 hb
          have hj3 : j = 0 ∨ j = 1 ∨ j = 2 := by omega
          rcases hj3 with rfl | rfl | rfl
          · go_wp2_with fail
            refine (turn_any _ d _ m1 hd8 (by omega) (by have := M1.out; omega)).mono ?_
            rintro r w4 ⟨rfl, rfl⟩
            go_wp2_with fail
            refine (beside_any H3.out u v m1).mono ?_
            rintro r w5 ⟨rfl, hs5⟩
            have X5 := hid (X3.out.go hs5)
            cases hbs : G.bes u v m1 with
            | true =>
              have HN := hid (show x = some v by rw [HU.out, Gr.jump_stop H.out.ok HG.out (.inr (.inl ⟨HD.out, by rw [Gr.forced_bes, ← M1.out, hbs]; rfl⟩))])
              clear hbs hs5
              go_wp2
              go_ret2
              exact ⟨by rw [HN.out]; rfl, X5.out.same⟩
            | false =>
              have HBS := hid hbs
              clear hbs hs5
              go_wp2
              go_roundw
              case rel => exact ⟨1, by omega, rfl, X5.out, fun _ => HBS.out, by omega⟩
              case measure => simp [intOf]
          · go_wp2_with fail
            refine (turn_any _ d _ m2 hd8 (by omega) (by have := M2.out; omega)).mono ?_
            rintro r w4 ⟨rfl, rfl⟩
            go_wp2_with fail
            refine (beside_any H3.out u v m2).mono ?_
            rintro r w5 ⟨rfl, hs5⟩
            have X5 := hid (X3.out.go hs5)
            cases hbs : G.bes u v m2 with
            | true =>
              have HN := hid (show x = some v by rw [HU.out, Gr.jump_stop H.out.ok HG.out (.inr (.inl ⟨HD.out, by rw [Gr.forced_bes, ← M2.out, hbs, Bool.or_true]⟩))])
              clear hbs hs5
              go_wp2
              go_ret2
              exact ⟨by rw [HN.out]; rfl, X5.out.same⟩
            | false =>
              have HBS := hid hbs
              clear hbs hs5
              go_wp2
              go_roundw
              case rel => exact ⟨2, by omega, rfl, X5.out, fun _ => HA.out (by omega), fun _ => HBS.out⟩
              case measure => simp [intOf]
          · have HN := hid (show x = G.jump goal v d by
              rw [HU.out, Gr.jump_on H.out.ok HG.out]
              rintro (h | ⟨_, h⟩ | ⟨h, _⟩)
              · exact HVG.out h
              · rw [Gr.forced_bes, ← M1.out, ← M2.out] at h
                rw [HA.out (by omega), HB.out (by omega)] at h
                cases h
              · have := HD.out; omega)
            clear q0 q1 ql
            go_wp2
            go_roundw
            case rel => exact ⟨v, rfl, HN.out, X3.out.drop⟩
            case measure => simp [intOf]; omega
set_option maxRecDepth 100000 in
set_option maxHeartbeats 8000000 in
theorem jumpD_any (h : Gnd 93 w p g c G) (t d : Nat) (goal : Int) (hd8 : d < 8) (hd2 : d % 2 = 1) : Calls Tryd.prog 11 #[.pointer (some ⟨p, 0, none⟩), .int .i64 t, .int .i64 d, .int .i64 goal] w fun r w' => r = .returned (jumpV (G.jump goal t d)) ∧ Same w w' := by
  have H := hid h
  obtain ⟨x, hx⟩ : ∃ x, x = G.jump goal t d := ⟨_, rfl⟩
  rw [← hx]
  have HX := hid hx
  have HD := hid hd2
  have hdi : (d : Int) % 2 = 1 := by omega
  have X0 := hid (Star.new w)
  obtain ⟨m1, hm1⟩ : ∃ m, m = (d + 7) % 8 := ⟨_, rfl⟩
  obtain ⟨m2, hm2⟩ : ∃ m, m = (d + 1) % 8 := ⟨_, rfl⟩
  have M1 := hid hm1
  have M2 := hid hm2
  clear hm1 hm2
  clear h hx hd2
  go_enter Tryd.func11, Tryd.ntmps11
  go_wp2_with fail
  go_loopw [1] (fun tv wr => ∃ u : Nat, tv = .int .i64 u ∧ x = G.jump goal u d ∧ Star w wr []) (fun tv _ => G.room (intOf tv).toNat d)
  case atStart => exact ⟨t, rfl, HX.out, X0.out⟩
  case round =>
    obtain ⟨u, rfl, hu, hX⟩ := hrel
    have X := hid hX
    have HU := hid hu
    have H1 := hid (H.out.same hX.same)
    clear hX hu X0
    go_wp2_with fail
    refine (go_any H1.out u d).mono ?_
    rintro r w1 ⟨rfl, hs1⟩
    rw [Gr.goI_nat]
    have X1 := hid (X.out.go hs1)
    clear hs1 X H1
    cases hgo : G.go u d with
    | none =>
      have HN := hid (show x = none by rw [HU.out, Gr.jump_none hgo])
      unfold goV
      clear hgo
      go_wp2
      go_ret2
      exact ⟨by rw [HN.out]; rfl, (X1.out.alloc _ _).same⟩
    | some q =>
      obtain ⟨v, k⟩ := q
      have HG := hid hgo
      have hroom := Gr.go_room H.out.ok hgo
      have X2 := hid ((X1.out.alloc #[.int .i64 d, .int .i64 v, .int .i64 k] 37).alloc #[.int .i64 (-1), .int .i64 1] 3)
      rw [World.size_alloc] at X2
      have S1 := hid (X1.out.alloc #[.int .i64 d, .int .i64 v, .int .i64 k] 37).same
      unfold goV
      clear hgo X1
      by_cases hvg : (v : Int) = goal
      · have HN := hid (show x = some v by rw [HU.out, Gr.jump_stop H.out.ok HG.out (.inl hvg)])
        have hvb : ((v : Int) == goal) = true := by simpa using hvg
        clear hvg
        go_wp2
        go_ret2
        exact ⟨by rw [HN.out]; rfl, S1.out⟩
      · have hvb : ((v : Int) == goal) = false := by simpa using hvg
        have HVG := hid hvg
        clear hvg S1
        go_wp2_with fail
        generalize w1.heap.size + 1 = q at *
        go_loopw [35] (fun iv wx => ∃ j : Nat, j ≤ 2 ∧ iv = .int .i64 j ∧ Star w wx [Blk q #[.int .i64 (-1), .int .i64 1] 3] ∧ (1 ≤ j → (G.jump goal v m1).isSome = false) ∧ (2 ≤ j → (G.jump goal v m2).isSome = false)) (fun iv _ => 2 - (intOf iv).toNat)
        case atStart => exact ⟨0, by omega, rfl, (X2.out.swap).drop, by omega, by omega⟩
        case round =>
          obtain ⟨j, hj, rfl, hX, hA, hB⟩ := hrel
          have X3 := hid hX
          have HA := hid hA
          have HB := hid hB
          have hb := (hX.blk 0 rfl).1
          have q0 := cell_of hb 0
          have q1 := cell_of hb 1
          have ql := lt_of hb
          simp only [List.getElem?_toArray, List.getElem?_cons_zero, List.getElem?_cons_succ] at q0 q1
          have H3 := hid (H.out.same hX.same)
          clear hX hA hB X2 hb
          have hj3 : j = 0 ∨ j = 1 ∨ j = 2 := by omega
          rcases hj3 with rfl | rfl | rfl
          · go_wp2_with fail
            refine (turn_any _ d _ m1 hd8 (by omega) (by have := M1.out; omega)).mono ?_
            rintro r w4 ⟨rfl, rfl⟩
            go_wp2_with fail
            refine (jumpS_any H3.out v m1 goal (by have := M1.out; omega) (by have := HD.out; have := M1.out; omega)).mono ?_
            rintro r w5 ⟨rfl, hs5⟩
            have X5 := hid (X3.out.go hs5)
            obtain ⟨a1, e1⟩ := jumpV_shape (G.jump goal v m1)
            rw [e1]
            cases hbs : (G.jump goal v m1).isSome with
            | true =>
              have HN := hid (show x = some v by rw [HU.out, Gr.jump_stop H.out.ok HG.out (.inr (.inr ⟨HD.out, .inl (by rw [← M1.out]; exact hbs)⟩))])
              clear hbs hs5 e1
              go_wp2
              go_ret2
              exact ⟨by rw [HN.out]; rfl, X5.out.same⟩
            | false =>
              have HBS := hid hbs
              clear hbs hs5 e1
              go_wp2
              go_roundw
              case rel => exact ⟨1, by omega, rfl, X5.out, fun _ => HBS.out, by omega⟩
              case measure => simp [intOf]
          · go_wp2_with fail
            refine (turn_any _ d _ m2 hd8 (by omega) (by have := M2.out; omega)).mono ?_
            rintro r w4 ⟨rfl, rfl⟩
            go_wp2_with fail
            refine (jumpS_any H3.out v m2 goal (by have := M2.out; omega) (by have := HD.out; have := M2.out; omega)).mono ?_
            rintro r w5 ⟨rfl, hs5⟩
            have X5 := hid (X3.out.go hs5)
            obtain ⟨a1, e1⟩ := jumpV_shape (G.jump goal v m2)
            rw [e1]
            cases hbs : (G.jump goal v m2).isSome with
            | true =>
              have HN := hid (show x = some v by rw [HU.out, Gr.jump_stop H.out.ok HG.out (.inr (.inr ⟨HD.out, .inr (by rw [← M2.out]; exact hbs)⟩))])
              clear hbs hs5 e1
              go_wp2
              go_ret2
              exact ⟨by rw [HN.out]; rfl, X5.out.same⟩
            | false =>
              have HBS := hid hbs
              clear hbs hs5 e1
              go_wp2
              go_roundw
              case rel => exact ⟨2, by omega, rfl, X5.out, fun _ => HA.out (by omega), fun _ => HBS.out⟩
              case measure => simp [intOf]
          · have HN := hid (show x = G.jump goal v d by
              rw [HU.out, Gr.jump_on H.out.ok HG.out]
              rintro (h | ⟨h, _⟩ | ⟨_, h | h⟩)
              · exact HVG.out h
              · have := HD.out; omega
              · rw [← M1.out, HA.out (by omega)] at h; cases h
              · rw [← M2.out, HB.out (by omega)] at h; cases h)
            clear q0 q1 ql
            go_wp2
            go_roundw
            case rel => exact ⟨v, rfl, HN.out, X3.out.drop⟩
            case measure => simp [intOf]; omega
/-- Jump, of any whole numbers. -/
def _root_.Go.Proofs.YtdihnjhbopogoaaDoor.Gr.jumpI (G : Gr) (goal t d : Int) : Option Nat := if 0 ≤ t ∧ 0 ≤ d ∧ d < 8 then G.jump goal t.toNat d.toNat else none
theorem jump_nat (h : Gnd 93 w p g c G) (t d : Nat) (goal : Int) (hd8 : d < 8) : Calls Tryd.prog 11 #[.pointer (some ⟨p, 0, none⟩), .int .i64 t, .int .i64 d, .int .i64 goal] w fun r w' => r = .returned (jumpV (G.jump goal t d)) ∧ Same w w' := by
  rcases Nat.mod_two_eq_zero_or_one d with h2 | h2
  · exact jumpS_any h t d goal hd8 h2
  · exact jumpD_any h t d goal hd8 h2
set_option maxRecDepth 100000 in
theorem jump_any (h : Gnd 93 w p g c G) (t d goal : Int) : Calls Tryd.prog 11 #[.pointer (some ⟨p, 0, none⟩), .int .i64 t, .int .i64 d, .int .i64 goal] w fun r w' => r = .returned (jumpV (G.jumpI goal t d)) ∧ Same w w' := by
  by_cases hc : 0 ≤ t ∧ 0 ≤ d ∧ d < 8
  · obtain ⟨t, rfl⟩ := Int.eq_ofNat_of_zero_le hc.1
    obtain ⟨d, rfl⟩ := Int.eq_ofNat_of_zero_le hc.2.1
    unfold Gr.jumpI
    rw [if_pos hc]
    exact jump_nat h t d goal (by omega)
  · have HG := hid (show G.goI t d = none by
      by_cases h0 : 0 ≤ t
      · exact Gr.goI_dir (by omega)
      · unfold Gr.goI; rw [if_neg (by omega)])
    have HJ := hid (show G.jumpI goal t d = none by unfold Gr.jumpI; rw [if_neg hc])
    have H := hid h
    rw [HJ.out]
    clear h hc
    go_enter Tryd.func11, Tryd.ntmps11
    go_wp2_with fail
    refine wp_loop_rounds 1 ?_
    rw [rounds_succ]
    go_wp2_with fail
    refine (go_any H.out t d).mono ?_
    rintro r w1 ⟨rfl, hs1⟩
    rw [HG.out]
    have S1 := hid hs1
    unfold goV
    clear hs1
    go_wp2
    go_ret2
    exact ⟨rfl, S1.out.alloc _⟩
end
end Go.Proofs.YtdihnjhbopogoaaDoor.Jmp
