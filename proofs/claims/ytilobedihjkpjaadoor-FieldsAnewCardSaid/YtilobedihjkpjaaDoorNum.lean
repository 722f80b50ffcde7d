/-
  The small functions of package paddocknum on lists of whole numbers, each by its contract.
-/
import Derived.Test.YtilobedihjkpjaaDoorProg
import Derived.Test.YtilobedihjkpjaaDoorLib
namespace Go.Proofs.YtilobedihjkpjaaDoor.Num
open Go Go.RowKit

set_option maxRecDepth 100000 in
theorem sameInts (va vb : Value) (xs ys : List Int) (w : World) (ha : Ints w va xs) (hb : Ints w vb ys) (hx : xs.length ≤ 9223372036854775807) (hy : ys.length ≤ 9223372036854775807) :
    Calls Tryd.prog 26 #[va, vb] w fun r w' => r = .returned (.bool (decide (xs = ys))) ∧ Same w w' := by
  by_cases hl : xs.length = ys.length
  · by_cases h0 : xs.length = 0
    · have e1 : xs = [] := List.eq_nil_of_length_eq_zero h0
      have e2 : ys = [] := List.eq_nil_of_length_eq_zero (by omega)
      subst e1 e2
      obtain ⟨a, c, rfl⟩ := ha.slice
      obtain ⟨b, d, rfl⟩ := hb.slice
      clear ha hb hl h0
      go_enter Tryd.func26, Tryd.ntmps26
      go_wp2
      refine wp_loop_rounds 1 ?_
      rw [rounds_succ]
      go_wp2
      go_ret
      exact ⟨rfl, Chg.refl _⟩
    · obtain ⟨b1, o1, c1, rfl, hb1, hc1⟩ := ha.cells (by omega)
      obtain ⟨b2, o2, c2, rfl, hb2, hc2⟩ := hb.cells (by omega)
      clear ha hb
      obtain ⟨n, hn⟩ : ∃ n, n = xs.length := ⟨_, rfl⟩
      rw [← hn, ← hl, ← hn]
      have HN := hid hn
      have HL := hid hl
      have HC1 := hid hc1
      have HC2 := hid hc2
      rw [← hn] at hx h0
      clear hn hl hc1 hc2 hy
      go_enter Tryd.func26, Tryd.ntmps26
      go_wp2
      go_loopw [13] (fun i wr => ∃ k : Nat, k ≤ n ∧ i = .int .i64 k ∧ Same w wr ∧ xs.take k = ys.take k) (fun i _ => n - (intOf i).toNat)
      case atStart => exact ⟨0, Nat.zero_le _, rfl, Chg.refl _, rfl⟩
      case round =>
        obtain ⟨k, hk, rfl, hs, ht⟩ := hrel
        have HS := hid hs
        have HT := hid ht
        clear hs ht
        by_cases hlt : k < n
        · have hk1 : k < xs.length := by have := HN.out; omega
          have hk2 : k < ys.length := by have := HN.out; have := HL.out; omega
          have g1 := (HS.out.cell (p := ⟨b1, o1 + k, none⟩) hb1 (fun f => f)).trans (HC1.out k hk1)
          have g2 := (HS.out.cell (p := ⟨b2, o2 + k, none⟩) hb2 (fun f => f)).trans (HC2.out k hk2)
          have hts : xs[k] = ys[k] → xs.take (k + 1) = ys.take (k + 1) := by
            intro e; rw [List.take_succ_eq_append_getElem hk1, List.take_succ_eq_append_getElem hk2, HT.out, e]
          have hne : xs[k] ≠ ys[k] → xs ≠ ys := by rintro e rfl; exact e rfl
          have HTS := hid hts
          have HNE := hid hne
          clear hts hne
          generalize xs[k] = x at *
          generalize ys[k] = y at *
          by_cases hxy : x = y
          · subst hxy
            go_wp2
            go_quiet (fail)
            go_wp2
            go_roundw
            case rel => exact ⟨k + 1, by omega, by go_num, HS.out.drewN _, HTS.out (by first | rfl | trivial)⟩
            case measure => simp [intOf]; omega
          · have hxy' : (x != y) = true := bne_iff_ne.2 hxy
            go_wp2
            go_quiet (fail)
            go_wp2
            go_ret
            exact ⟨ret_bool (decide_eq_false (HNE.out hxy)).symm, HS.out.drewN _⟩
        · go_wp2
          go_ret
          have e : xs = ys := by
            have := HT.out
            rw [List.take_of_length_le (by have := HN.out; omega), List.take_of_length_le (by have := HN.out; have := HL.out; omega)] at this
            exact this
          exact ⟨ret_bool (decide_eq_true e).symm, HS.out⟩
  · obtain ⟨a, c, rfl⟩ := ha.slice
    obtain ⟨b, d, rfl⟩ := hb.slice
    have hne : xs ≠ ys := fun e => hl (by rw [e])
    have hl' : ((xs.length : Int) != (ys.length : Int)) = true := by rw [bne_iff_ne]; omega
    have H := hid hne
    clear ha hb hne hl
    go_enter Tryd.func26, Tryd.ntmps26
    go_wp2
    go_ret
    exact ⟨ret_bool (decide_eq_false H.out).symm, Chg.refl _⟩
end Go.Proofs.YtilobedihjkpjaaDoor.Num
