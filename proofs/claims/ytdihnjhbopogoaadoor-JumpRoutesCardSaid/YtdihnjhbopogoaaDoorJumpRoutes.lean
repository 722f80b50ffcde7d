/-
  JumpRoutes: the walk. 
-/
import Derived.Test.YtdihnjhbopogoaaDoorAlive18
import Derived.Test.YtdihnjhbopogoaaDoorMade18
import Derived.Test.YtdihnjhbopogoaaDoorInAsk
import Derived.Test.YtdihnjhbopogoaaDoorJumpCost
namespace Go.Proofs.YtdihnjhbopogoaaDoor.JumpRoutes
open Go Go.RowKit Go.Proofs.YtdihnjhbopogoaaDoor.Err Go.Proofs.YtdihnjhbopogoaaDoor.Steps Go.Proofs.YtdihnjhbopogoaaDoor.Route Go.Proofs.YtdihnjhbopogoaaDoor.Jmp

theorem jpath_step {G : Gr} {goal s e : Nat} {l : List Nat} {k : Int} (hp : Gr.JPath G goal s l e k) : l.getLast? = some e ∧ ∀ (i a b : Nat), l[i]? = some a → l[i + 1]? = some b → ∃ d, G.jump goal a d = some b := by
  induction hp with
  | one => exact ⟨rfl, fun i a b _ h => by simp at h⟩
  | @snoc l p d u k _ hj ih =>
    refine ⟨by simp, fun i a b h1 h2 => ?_⟩
    by_cases h3 : i + 1 < l.length
    · rw [List.getElem?_append_left (by omega)] at h1 h2
      exact ih.2 i a b h1 h2
    · have h4 : i + 1 < (l ++ [u]).length := (List.getElem?_eq_some_iff.1 h2).1
      rw [List.length_append, List.length_singleton] at h4
      rw [List.getElem?_append_left (by omega)] at h1
      rw [List.getElem?_append_right (by omega), show i + 1 - l.length = 0 by omega] at h2
      have h5 := ih.1
      rw [List.getLast?_eq_getElem?, show l.length - 1 = i by omega, h1] at h5
      obtain rfl : a = p := Option.some.inj h5
      obtain rfl : u = b := by simpa using h2
      exact ⟨d, hj⟩

set_option maxRecDepth 100000 in
set_option maxHeartbeats 8000000 in
theorem walk (g : Grd) (bv : Value) (bl : List Int) (s t : Int) (w : World) (hr : Ints w bv bl) (hb : bl.length ≤ 9223372036854775807) (ad : Nat → Addr) (hE : Errs w ad) :
    Calls Tryd.prog 8 #[askV g bv s t] w fun r w' => r = .returned (.bool true) ∧ Same w w' := by
  obtain ⟨a, cb, rfl⟩ := hr.slice
  have HE := hid hE
  have HR := hid hr
  obtain ⟨l, hl⟩ : ∃ l, l = bl.length := ⟨_, rfl⟩
  by_cases hc : g.right = true ∧ g.W * g.H ≤ 256 ∧ bl.length ≤ 300
  · have MY := hid (fun (w : World) hr hE => made_yes (w := w) g bl (.slice a bl.length cb) hr hc.2.2 hc.1 hc.2.1 ad hE)
    rw [← hl] at MY HR ⊢
    obtain ⟨W, H, S, X, Y⟩ := g
    unfold askV
    unfold Grd.v at MY
    simp only at MY ⊢
    have Z := hid ((Star.new w).alloc #[.int .i64 W, .int .i64 H, .int .i64 S, .int .i64 X, .int .i64 Y, .slice a l cb, .int .i64 s, .int .i64 t] 26)
    have HL := hid hl
    clear hc hr hE hl hb
    go_enter Tryd.func8, Tryd.ntmps8
    go_wp2_with fail
    generalize w.alloc _ = w1 at *
    generalize w.heap.size = q at *
    refine (alive_any ad (HE.out.same Z.out.same).jmp).mono ?_
    rintro r w2 ⟨rfl, hs⟩
    have Z2 := hid (Z.out.go hs)
    have hbk := (Z2.out.blk 0 rfl).1
    have hql := lt_of hbk
    have c0 := cell_of hbk 0
    have c1 := cell_of hbk 1
    have c2 := cell_of hbk 2
    have c3 := cell_of hbk 3
    have c4 := cell_of hbk 4
    have c5 := cell_of hbk 5
    have c6 := cell_of hbk 6
    have c7 := cell_of hbk 7
    simp only [List.getElem?_toArray, List.getElem?_cons_zero, List.getElem?_cons_succ] at c0 c1 c2 c3 c4 c5 c6 c7
    clear hbk hs Z
    go_wp2_with fail
    refine (MY.out _ (HR.out.same Z2.out.same) (HE.out.same Z2.out.same).three).mono ?_
    rintro r w3 ⟨p, m, G, hok, hmax, rfl, hX3⟩
    have X3 : Hid (Star w w3 [gndR 71 m G, gndR 93 p G, Blk q #[.int .i64 W, .int .i64 H, .int .i64 S, .int .i64 X, .int .i64 Y, .slice a l cb, .int .i64 s, .int .i64 t] 26]) := hid (Z2.out.lift hX3)
    have OK := hid hok
    clear c0 c1 c2 c3 c4 c5 c6 c7 hql hX3 Z2 MY hok
    have hbk := (X3.out.blk 2 rfl).1
    have hql := lt_of hbk
    have c6 := cell_of hbk 6
    have c7 := cell_of hbk 7
    simp only [List.getElem?_toArray, List.getElem?_cons_zero, List.getElem?_cons_succ] at c6 c7
    clear hbk
    obtain ⟨pg, pc, hG, -⟩ := gnd_at X3.out 1 rfl
    have HG := hid hG
    clear hG
    by_cases hin : (0 ≤ s ∧ s < G.fs.length) ∧ (0 ≤ t ∧ t < G.fs.length)
    · obtain ⟨⟨s0, s1⟩, t0, t1⟩ := hin
      obtain ⟨s, rfl⟩ := Int.eq_ofNat_of_zero_le s0
      obtain ⟨t, rfl⟩ := Int.eq_ofNat_of_zero_le t0
      have hs : s < G.fs.length := by omega
      have ht : t < G.fs.length := by omega
      obtain ⟨c, hc⟩ := Least.exists G [t]
      have LC := hid hc
      clear s0 s1 t0 t1 hc
      rcases LC.out.low s with h0 | h0
      · go_wp2_with fail
        refine (search_path HG.out s t hs ht LC.out h0 _ (HE.out.same X3.out.same).c8).mono ?_
        rintro r w4 ⟨rfl, hs4⟩
        have X4 := hid (X3.out.go hs4)
        have d6 := hs4.keep c6
        have d7 := hs4.keep c7
        have dl := Nat.lt_of_lt_of_le hql hs4.size
        have H4 := hid (HG.out.same hs4)
        clear c6 c7 hql hs4 HG X3
        go_wp2_with fail
        refine (cost_path H4.out s t hs ht LC.out h0 _ _ (HE.out.same X4.out.same).c8).mono ?_
        rintro r w5 ⟨rfl, hs5⟩
        have X5 := hid (X4.out.go hs5)
        clear d6 d7 dl hs5 H4 X4
        go_wp2_with fail
        refine (num ad 9 (by omega) _ (HE.out.same X5.out.same)).mono ?_
        rintro r w8 ⟨rfl, hs8⟩
        have X8 := hid (X5.out.go hs8)
        clear hs8 X5
        go_wp2_with fail
        refine (num ad 9 (by omega) _ (HE.out.same X8.out.same)).mono ?_
        rintro r w9 ⟨rfl, hs9⟩
        have X9 := hid (X8.out.go hs9)
        clear hs9 X8
        go_wp2_with fail
        go_loopw [11] (fun iv wr => iv = .int .i64 1 ∧ Star w9 wr []) (fun _ _ => 0)
        case atStart => exact ⟨rfl, Star.new w9⟩
        case round =>
          obtain ⟨rfl, hX⟩ := hrel
          have X10 := hid (X9.out.go hX.same)
          clear hX
          go_wp2
          go_ret
          exact ⟨rfl, X10.out.same⟩
      · go_wp2_with fail
        refine (search_ok HG.out s t LC.out h0 _ (HE.out.same X3.out.same).c8).mono ?_
        rintro r w4 ⟨pts, v, hJ, hpl, rfl, hX4⟩
        have hl1 : 1 ≤ pts.length := by
          have := (jpath_step hJ).1
          cases pts with
          | nil => cases this
          | cons _ _ => simp
        have HP := hid (jpath_step hJ).2
        obtain ⟨n, hn⟩ : ∃ n, n = pts.length := ⟨_, rfl⟩
        have HN := hid hn
        rw [← hn] at hX4 hl1 hpl
        clear hn hJ
        have X4 := hid (X3.out.lift hX4)
        obtain ⟨va, vc, rfl, -⟩ := own_slice (hX4.row 0 rfl).1
        have d6 := hX4.same.keep c6
        have d7 := hX4.same.keep c7
        have dl := Nat.lt_of_lt_of_le hql hX4.same.size
        have H4 := hid (HG.out.same hX4.same)
        clear c6 c7 hql hX4 HG X3
        go_wp2_with fail
        refine (cost_ok H4.out s t hs ht LC.out h0 _ _ (HE.out.same X4.out.same).c8).mono ?_
        rintro r w5 ⟨rfl, hs5⟩
        have X5 := hid (X4.out.go hs5)
        have e7 := hs5.keep d7
        have el := Nat.lt_of_lt_of_le dl hs5.size
        have H5 := hid (H4.out.same hs5)
        clear d6 d7 dl hs5 X4 H4 LC h0
        generalize cAt c s = x at *
        go_wp2_with fail
        refine (num_nil _).mono ?_
        rintro r w' ⟨rfl, rfl⟩
        go_wp2_with fail
        refine (num_nil _).mono ?_
        rintro r w' ⟨rfl, rfl⟩
        go_wp2_with fail
        go_loopw [11] (fun iv wr => ∃ k : Nat, k + 1 ≤ n ∧ iv = .int .i64 ((k : Int) + 1) ∧ Star w5 wr []) (fun iv _ => n - (intOf iv).toNat)
        case atStart => exact ⟨0, hl1, rfl, Star.new w5⟩
        case round =>
          obtain ⟨k, hk, rfl, hX⟩ := hrel
          rename World => w6
          have X6 := hid (X5.out.go hX.same)
          have H6 := hid (H5.out.same hX.same)
          have f7 := hX.same.keep e7
          have fl := Nat.lt_of_lt_of_le el hX.same.size
          have Y0 := hid (show Star w5 w6 [] from hX)
          clear hX e7 el
          have hw1 : IntKind.i64.wrap ((k : Int) + 1) = (k : Int) + 1 := IntWalk.i64_in _ (by omega)
          have hw2 : IntKind.i64.wrap (k : Int) = (k : Int) := IntWalk.i64_in _ (by omega)
          by_cases hkn : k + 1 < n
          · have hb1 : 0 ≤ (k : Int) ∧ (k : Int) < (n : Int) := by omega
            have hb2 : 0 ≤ (k : Int) + 1 ∧ (k : Int) + 1 < (n : Int) := by omega
            have ht1 : ((k : Int) + 1).toNat = k + 1 := by omega
            have hw3 : (k : Int) + 1 - 1 = (k : Int) := by omega
            have hrow := (X6.out.row 0 rfl).1
            obtain ⟨g, cg, e3⟩ := own_shape hrow (by omega)
            cases e3
            obtain ⟨a1, hi1⟩ : ∃ a1, pts[k]? = some a1 := ⟨_, List.getElem?_eq_getElem (by have := HN.out; omega)⟩
            obtain ⟨a2, hi2⟩ : ∃ a2, pts[k + 1]? = some a2 := ⟨_, List.getElem?_eq_getElem (by have := HN.out; omega)⟩
            have y1 : w6.cell? ⟨g, k, none⟩ = some (.int .i64 a1) := (hrow.cellAt k (by omega)).trans (by rw [gC, List.getElem?_map, hi1]; rfl)
            have y2 : w6.cell? ⟨g, k + 1, none⟩ = some (.int .i64 a2) := (hrow.cellAt (k + 1) (by omega)).trans (by rw [gC, List.getElem?_map, hi2]; rfl)
            have gl := (hrow.lt g rfl).2
            obtain ⟨d0, hd0⟩ := HP.out k a1 a2 hi1 hi2
            have hd8 := (Gr.jump_ne OK.out hd0).2.2.1
            have HD0 := hid hd0
            clear hrow hi1 hi2 hd0
            go_wp2_with fail
            go_loopw [68, 12] (fun dv mv wq => ∃ (e : Nat) (b : Bool), e ≤ 8 ∧ dv = .int .i64 e ∧ mv = .bool b ∧ (d0 < e → b = true) ∧ Star w6 wq []) (fun dv _ _ => 8 - (intOf dv).toNat)
            case atStart => exact ⟨0, false, by omega, rfl, rfl, by omega, Star.new w6⟩
            case round =>
              obtain ⟨e, b, he, rfl, rfl, hb, hY⟩ := hrel
              have HB := hid hb
              have HQ := hid (H6.out.same hY.same)
              have Y4 := hid (show Star w6 _ [] from hY)
              have z1 := hY.same.keep y1
              have z2 := hY.same.keep y2
              have z3 := hY.same.keep f7
              have zl1 := Nat.lt_of_lt_of_le gl hY.same.size
              have zl2 := Nat.lt_of_lt_of_le fl hY.same.size
              clear hb hY
              rename World => wq
              by_cases he8 : e < 8
              · cases hj : G.jump t a1 e with
                | none =>
                  have HJ := hid hj
                  clear hj
                  cases b with
                  | true =>
                    go_wp2_with fail
                    go_region_held3 (fun w' => w'.cell? ⟨g, k, none⟩ = some (.int .i64 a1) ∧ w'.cell? ⟨g, k + 1, none⟩ = some (.int .i64 a2) ∧ w'.cell? ⟨q, 7, none⟩ = some (.int .i64 t)) (go_keep) ((go_at_call 11; refine (jump_nat (HQ.out.same ((Chg.refl _).drew)) a1 e t he8).mono ?_; rintro r w5 ⟨rfl, hs5⟩; rw [HJ.out]; unfold jumpV; have Y5 := hid ((Y4.out.go ((Chg.refl _).drew)).go hs5); have zz1 := Chg.keep (Chg.trans (S := fun _ => False) ((Chg.refl wq).drew) hs5 (fun _ _ f => f)) z1; have zz2 := Chg.keep (Chg.trans (S := fun _ => False) ((Chg.refl wq).drew) hs5 (fun _ _ f => f)) z2; have zz3 := Chg.keep (Chg.trans (S := fun _ => False) ((Chg.refl wq).drew) hs5 (fun _ _ f => f)) z3; clear hs5))
                    all_goals
                      clear z1 z2 z3 zz1 zz3
                      go_wp2
                      go_roundw
                      case rel =>
                        have hrel : ∃ (e' : Nat) (b' : Bool), e' ≤ 8 ∧ Value.int .i64 ((e : Int) + 1) = .int .i64 e' ∧ Value.bool true = .bool b' ∧ (d0 < e' → b' = true) ∧ Star w6 _ [] := ⟨e + 1, true, by omega, by go_num, rfl, fun _ => rfl, Y5.out⟩
                        first | exact hrel | ((repeat apply Exists.intro); exact ⟨hrel, rfl⟩)
                      case measure => simp [intOf]; omega
                  | false =>
                    have hkeep : d0 < e + 1 → False := fun h => by
                      by_cases hde : d0 = e
                      · subst hde; have h1 := HJ.out; have h2 := HD0.out; rw [h1] at h2; cases h2
                      · have := HB.out (by omega); cases this
                    go_wp2_with fail
                    go_region_held3 (fun w' => w'.cell? ⟨g, k, none⟩ = some (.int .i64 a1) ∧ w'.cell? ⟨g, k + 1, none⟩ = some (.int .i64 a2) ∧ w'.cell? ⟨q, 7, none⟩ = some (.int .i64 t)) (go_keep) ((go_at_call 11; refine (jump_nat (HQ.out.same ((Chg.refl _).drew)) a1 e t he8).mono ?_; rintro r w5 ⟨rfl, hs5⟩; rw [HJ.out]; unfold jumpV; have Y5 := hid ((Y4.out.go ((Chg.refl _).drew)).go hs5); have zz1 := Chg.keep (Chg.trans (S := fun _ => False) ((Chg.refl wq).drew) hs5 (fun _ _ f => f)) z1; have zz2 := Chg.keep (Chg.trans (S := fun _ => False) ((Chg.refl wq).drew) hs5 (fun _ _ f => f)) z2; have zz3 := Chg.keep (Chg.trans (S := fun _ => False) ((Chg.refl wq).drew) hs5 (fun _ _ f => f)) z3; clear hs5))
                    all_goals
                      clear z1 z2 z3 zz1 zz3
                      go_wp2
                      go_roundw
                      case rel =>
                        have hrel : ∃ (e' : Nat) (b' : Bool), e' ≤ 8 ∧ Value.int .i64 ((e : Int) + 1) = .int .i64 e' ∧ Value.bool false = .bool b' ∧ (d0 < e' → b' = true) ∧ Star w6 _ [] := ⟨e + 1, false, by omega, by go_num, rfl, fun h => absurd (hkeep h) (by simp), Y5.out⟩
                        first | exact hrel | ((repeat apply Exists.intro); exact ⟨hrel, rfl⟩)
                      case measure => simp [intOf]; omega
                | some u =>
                  have HJ := hid hj
                  clear hj
                  by_cases hne : u = a2
                  · rw [hne] at HJ
                    cases b with
                    | true =>
                      go_wp2_with fail
                      go_region_held3 (fun w' => w'.cell? ⟨g, k, none⟩ = some (.int .i64 a1) ∧ w'.cell? ⟨g, k + 1, none⟩ = some (.int .i64 a2) ∧ w'.cell? ⟨q, 7, none⟩ = some (.int .i64 t)) (go_keep) ((go_at_call 11; refine (jump_nat (HQ.out.same ((Chg.refl _).drew)) a1 e t he8).mono ?_; rintro r w5 ⟨rfl, hs5⟩; rw [HJ.out]; unfold jumpV; have Y5 := hid ((Y4.out.go ((Chg.refl _).drew)).go hs5); have zz1 := Chg.keep (Chg.trans (S := fun _ => False) ((Chg.refl wq).drew) hs5 (fun _ _ f => f)) z1; have zz2 := Chg.keep (Chg.trans (S := fun _ => False) ((Chg.refl wq).drew) hs5 (fun _ _ f => f)) z2; have zz3 := Chg.keep (Chg.trans (S := fun _ => False) ((Chg.refl wq).drew) hs5 (fun _ _ f => f)) z3; clear hs5))
                      all_goals
                        clear z1 z2 z3 zz1 zz3
                        go_wp2
                        go_roundw
                        case rel =>
                          have hrel : ∃ (e' : Nat) (b' : Bool), e' ≤ 8 ∧ Value.int .i64 ((e : Int) + 1) = .int .i64 e' ∧ Value.bool true = .bool b' ∧ (d0 < e' → b' = true) ∧ Star w6 _ [] := ⟨e + 1, true, by omega, by go_num, rfl, fun _ => rfl, Y5.out⟩
                          first | exact hrel | ((repeat apply Exists.intro); exact ⟨hrel, rfl⟩)
                        case measure => simp [intOf]; omega
                    | false =>
                      go_wp2_with fail
                      go_region_held3 (fun w' => w'.cell? ⟨g, k, none⟩ = some (.int .i64 a1) ∧ w'.cell? ⟨g, k + 1, none⟩ = some (.int .i64 a2) ∧ w'.cell? ⟨q, 7, none⟩ = some (.int .i64 t)) (go_keep) ((go_at_call 11; refine (jump_nat (HQ.out.same ((Chg.refl _).drew)) a1 e t he8).mono ?_; rintro r w5 ⟨rfl, hs5⟩; rw [HJ.out]; unfold jumpV; have Y5 := hid ((Y4.out.go ((Chg.refl _).drew)).go hs5); have zz1 := Chg.keep (Chg.trans (S := fun _ => False) ((Chg.refl wq).drew) hs5 (fun _ _ f => f)) z1; have zz2 := Chg.keep (Chg.trans (S := fun _ => False) ((Chg.refl wq).drew) hs5 (fun _ _ f => f)) z2; have zz3 := Chg.keep (Chg.trans (S := fun _ => False) ((Chg.refl wq).drew) hs5 (fun _ _ f => f)) z3; clear hs5))
                      all_goals
                        clear z1 z2 z3 zz1 zz3
                        go_wp2
                        go_roundw
                        case rel =>
                          have hrel : ∃ (e' : Nat) (b' : Bool), e' ≤ 8 ∧ Value.int .i64 ((e : Int) + 1) = .int .i64 e' ∧ Value.bool true = .bool b' ∧ (d0 < e' → b' = true) ∧ Star w6 _ [] := ⟨e + 1, true, by omega, by go_num, rfl, fun _ => rfl, Y5.out⟩
                          first | exact hrel | ((repeat apply Exists.intro); exact ⟨hrel, rfl⟩)
                        case measure => simp [intOf]; omega
                  · have hnb : ((u : Int) == (a2 : Int)) = false := by rw [beq_eq_false_iff_ne]; omega
                    cases b with
                    | true =>
                      go_wp2_with fail
                      go_region_held3 (fun w' => w'.cell? ⟨g, k, none⟩ = some (.int .i64 a1) ∧ w'.cell? ⟨g, k + 1, none⟩ = some (.int .i64 a2) ∧ w'.cell? ⟨q, 7, none⟩ = some (.int .i64 t)) (go_keep) ((go_at_call 11; refine (jump_nat (HQ.out.same ((Chg.refl _).drew)) a1 e t he8).mono ?_; rintro r w5 ⟨rfl, hs5⟩; rw [HJ.out]; unfold jumpV; have Y5 := hid ((Y4.out.go ((Chg.refl _).drew)).go hs5); have zz1 := Chg.keep (Chg.trans (S := fun _ => False) ((Chg.refl wq).drew) hs5 (fun _ _ f => f)) z1; have zz2 := Chg.keep (Chg.trans (S := fun _ => False) ((Chg.refl wq).drew) hs5 (fun _ _ f => f)) z2; have zz3 := Chg.keep (Chg.trans (S := fun _ => False) ((Chg.refl wq).drew) hs5 (fun _ _ f => f)) z3; clear hs5))
                      all_goals
                        clear z1 z2 z3 zz1 zz3
                        go_wp2
                        go_roundw
                        case rel =>
                          have hrel : ∃ (e' : Nat) (b' : Bool), e' ≤ 8 ∧ Value.int .i64 ((e : Int) + 1) = .int .i64 e' ∧ Value.bool true = .bool b' ∧ (d0 < e' → b' = true) ∧ Star w6 _ [] := ⟨e + 1, true, by omega, by go_num, rfl, fun _ => rfl, Y5.out⟩
                          first | exact hrel | ((repeat apply Exists.intro); exact ⟨hrel, rfl⟩)
                        case measure => simp [intOf]; omega
                    | false =>
                      have hkeep : d0 < e + 1 → False := fun h => by
                        by_cases hde : d0 = e
                        · subst hde; have h1 := HJ.out; have h2 := HD0.out; rw [h1] at h2; exact hne (Option.some.inj h2)
                        · have := HB.out (by omega); cases this
                      go_wp2_with fail
                      go_region_held3 (fun w' => w'.cell? ⟨g, k, none⟩ = some (.int .i64 a1) ∧ w'.cell? ⟨g, k + 1, none⟩ = some (.int .i64 a2) ∧ w'.cell? ⟨q, 7, none⟩ = some (.int .i64 t)) (go_keep) ((go_at_call 11; refine (jump_nat (HQ.out.same ((Chg.refl _).drew)) a1 e t he8).mono ?_; rintro r w5 ⟨rfl, hs5⟩; rw [HJ.out]; unfold jumpV; have Y5 := hid ((Y4.out.go ((Chg.refl _).drew)).go hs5); have zz1 := Chg.keep (Chg.trans (S := fun _ => False) ((Chg.refl wq).drew) hs5 (fun _ _ f => f)) z1; have zz2 := Chg.keep (Chg.trans (S := fun _ => False) ((Chg.refl wq).drew) hs5 (fun _ _ f => f)) z2; have zz3 := Chg.keep (Chg.trans (S := fun _ => False) ((Chg.refl wq).drew) hs5 (fun _ _ f => f)) z3; clear hs5))
                      all_goals
                        clear z1 z2 z3 zz1 zz3
                        go_wp2
                        go_roundw
                        case rel =>
                          have hrel : ∃ (e' : Nat) (b' : Bool), e' ≤ 8 ∧ Value.int .i64 ((e : Int) + 1) = .int .i64 e' ∧ Value.bool false = .bool b' ∧ (d0 < e' → b' = true) ∧ Star w6 _ [] := ⟨e + 1, false, by omega, by go_num, rfl, fun h => absurd (hkeep h) (by simp), Y5.out⟩
                          first | exact hrel | ((repeat apply Exists.intro); exact ⟨hrel, rfl⟩)
                        case measure => simp [intOf]; omega
              · obtain rfl : e = 8 := by omega
                obtain rfl : b = true := HB.out hd8
                clear z1 z2 z3 zl1 zl2 y1 y2
                go_wp2
                go_roundw
                case rel =>
                  have hrel : ∃ k' : Nat, k' + 1 ≤ n ∧ Value.int .i64 ((k : Int) + 1 + 1) = .int .i64 ((k' : Int) + 1) ∧ Star w5 _ [] := ⟨k + 1, by omega, by go_num, Y0.out.go Y4.out.same⟩
                  first | exact hrel | ((repeat apply Exists.intro); exact ⟨hrel, rfl⟩)
                case measure => simp [intOf]; omega
          · clear f7 fl
            go_wp2
            go_ret
            exact ⟨rfl, X6.out.same⟩
    · have h1 : ¬ (0 ≤ s ∧ s < G.fs.length) ∨ ¬ (0 ≤ t ∧ t < G.fs.length) := by omega
      have H1 := hid h1
      clear hin h1
      go_wp2_with fail
      refine (search_range HG.out s t (has_not H1.out) _ (HE.out.same X3.out.same).c0).mono ?_
      rintro r w4 ⟨rfl, hs4⟩
      have X4 := hid (X3.out.go hs4)
      have d6 := hs4.keep c6
      have d7 := hs4.keep c7
      have dl := Nat.lt_of_lt_of_le hql hs4.size
      have H4 := hid (HG.out.same hs4)
      clear c6 c7 hql hs4 HG X3
      go_wp2_with fail
      refine (cost_range H4.out s t H1.out _ _ (HE.out.same X4.out.same).c0).mono ?_
      rintro r w5 ⟨rfl, hs5⟩
      have X5 := hid (X4.out.go hs5)
      clear d6 d7 dl hs5 H4 X4
      go_wp2_with fail
      refine (num ad 1 (by omega) _ (HE.out.same X5.out.same)).mono ?_
      rintro r w8 ⟨rfl, hs8⟩
      have X8 := hid (X5.out.go hs8)
      clear hs8 X5
      go_wp2_with fail
      refine (num ad 1 (by omega) _ (HE.out.same X8.out.same)).mono ?_
      rintro r w9 ⟨rfl, hs9⟩
      have X9 := hid (X8.out.go hs9)
      clear hs9 X8
      go_wp2_with fail
      go_loopw [11] (fun iv wr => iv = .int .i64 1 ∧ Star w9 wr []) (fun _ _ => 0)
      case atStart => exact ⟨rfl, Star.new w9⟩
      case round =>
        obtain ⟨rfl, hX⟩ := hrel
        have X10 := hid (X9.out.go hX.same)
        clear hX
        go_wp2
        go_ret
        exact ⟨rfl, X10.out.same⟩
  · have MN := hid (fun (w : World) hr => made_no (w := w) g bl (.slice a bl.length cb) hr hb hc)
    rw [← hl] at MN HR ⊢
    obtain ⟨W, H, S, X, Y⟩ := g
    unfold askV
    unfold Grd.v at MN
    simp only at MN ⊢
    have Z := hid ((Star.new w).alloc #[.int .i64 W, .int .i64 H, .int .i64 S, .int .i64 X, .int .i64 Y, .slice a l cb, .int .i64 s, .int .i64 t] 26)
    clear hc hr hE hl hb
    go_enter Tryd.func8, Tryd.ntmps8
    go_wp2_with fail
    generalize w.alloc _ = w1 at *
    generalize w.heap.size = q at *
    refine (alive_any ad (HE.out.same Z.out.same).jmp).mono ?_
    rintro r w2 ⟨rfl, hs⟩
    have Z2 := hid (Z.out.go hs)
    have hbk := (Z2.out.blk 0 rfl).1
    have hql := lt_of hbk
    have c0 := cell_of hbk 0
    have c1 := cell_of hbk 1
    have c2 := cell_of hbk 2
    have c3 := cell_of hbk 3
    have c4 := cell_of hbk 4
    have c5 := cell_of hbk 5
    have c6 := cell_of hbk 6
    have c7 := cell_of hbk 7
    simp only [List.getElem?_toArray, List.getElem?_cons_zero, List.getElem?_cons_succ] at c0 c1 c2 c3 c4 c5 c6 c7
    clear hbk hs Z
    go_wp2_with fail
    refine (MN.out _ (HR.out.same Z2.out.same)).mono ?_
    rintro r w3 ⟨rfl, hs⟩
    have Z3 := hid (Z2.out.go hs)
    clear hs Z2 MN
    go_wp2
    go_ret
    exact ⟨rfl, Z3.out.same⟩
end Go.Proofs.YtdihnjhbopogoaaDoor.JumpRoutes
