/-
  paddockref06.Same: two rows of components.
-/
import Derived.Test.YtegcnkcjmebheaaDoorSchRow
namespace Go.Proofs.YtegcnkcjmebheaaDoor.Tab
open Go Go.RowKit
set_option maxRecDepth 100000 in
set_option maxHeartbeats 8000000 in
theorem sameRow (va vb : Value) (xs ys : List Vl) (w : World) (ha : Reads w va xs.length 3 (xs.flatMap vc)) (hb : Reads w vb ys.length 3 (ys.flatMap vc)) (hx : xs.length ≤ 1000000) (hy : ys.length ≤ 1000000) :
    Calls Tryd.prog 13 #[va, vb] w fun r w' => r = .returned (.bool (decide (xs = ys))) ∧ Same w w' := by
  obtain ⟨a1, c1, rfl⟩ := ha.slice
  obtain ⟨a2, c2, rfl⟩ := hb.slice
  by_cases hl : xs.length = ys.length
  · obtain ⟨n, hn⟩ : ∃ n, n = xs.length := ⟨_, rfl⟩
    have HN1 := hid hn
    have HN2 := hid (hn.trans hl)
    rw [← hl, ← hn] at hb hy ⊢
    rw [← hn] at ha hx
    have HA := hid ha
    have HB := hid hb
    clear ha hb hn hl hy
    go_enter Tryd.func13, Tryd.ntmps13
    go_wp2
    go_loopw [5, 13] (fun _ iv wr => ∃ k : Nat, k ≤ n ∧ iv = .int .i64 k ∧ xs.take k = ys.take k ∧ Same w wr) (fun _ iv _ => n - (intOf iv).toNat)
    case atStart => exact ⟨0, by omega, rfl, rfl, Chg.refl _⟩
    case round =>
      obtain ⟨k, hk, rfl, heq, hs⟩ := hrel
      rename World => wz
      have HQ := hid heq
      have S := hid hs
      clear heq hs
      by_cases hkn : k < n
      · obtain ⟨x, hxk⟩ : ∃ x, xs[k]? = some x := ⟨_, List.getElem?_eq_getElem (by have := HN1.out; omega)⟩
        obtain ⟨y, hyk⟩ : ∃ y, ys[k]? = some y := ⟨_, List.getElem?_eq_getElem (by have := HN2.out; omega)⟩
        obtain ⟨b1, o1, cap1, e1, l1, h1⟩ := HA.out.open (by omega)
        obtain ⟨b2, o2, cap2, e2, l2, h2⟩ := HB.out.open (by omega)
        cases e1
        cases e2
        have g0 := S.out.keep (h1 (k * 3 + 0) _ ((rows_get vc vc_len xs k 0 x hxk (by omega)).trans rfl))
        have g1 := S.out.keep (h1 (k * 3 + 1) _ ((rows_get vc vc_len xs k 1 x hxk (by omega)).trans rfl))
        have g2 := S.out.keep (h1 (k * 3 + 2) _ ((rows_get vc vc_len xs k 2 x hxk (by omega)).trans rfl))
        have f0 := S.out.keep (h2 (k * 3 + 0) _ ((rows_get vc vc_len ys k 0 y hyk (by omega)).trans rfl))
        have f1 := S.out.keep (h2 (k * 3 + 1) _ ((rows_get vc vc_len ys k 1 y hyk (by omega)).trans rfl))
        have f2 := S.out.keep (h2 (k * 3 + 2) _ ((rows_get vc vc_len ys k 2 y hyk (by omega)).trans rfl))
        rw [Nat.add_zero] at g0 f0
        rw [← Nat.add_assoc] at g1 g2 f1 f2
        have gl : b1 < wz.heap.size := Nat.lt_of_lt_of_le l1 S.out.size
        have fl : b2 < wz.heap.size := Nat.lt_of_lt_of_le l2 S.out.size
        have HX := hid hxk
        have HY := hid hyk
        clear h1 h2 hxk hyk l1 l2
        obtain ⟨xk, xa, xb⟩ := x
        obtain ⟨yk, ya, yb⟩ := y
        dsimp only at g0 g1 g2 f0 f1 f2
        by_cases e : (⟨xk, xa, xb⟩ : Vl) = ⟨yk, ya, yb⟩
        · have E := hid e
          cases e
          go_wp2_with fail
          go_quiet (fail)
          go_wp2
          go_roundw
          case rel =>
            refine ⟨k + 1, by omega, by go_num, ?_, S.out.trans ((Chg.refl _).drewN _) (fun _ _ f => f)⟩
            obtain ⟨p1, p2⟩ := List.getElem?_eq_some_iff.1 HX.out
            obtain ⟨p3, p4⟩ := List.getElem?_eq_some_iff.1 HY.out
            rw [List.take_succ_eq_append_getElem p1, List.take_succ_eq_append_getElem p3, p2, p4, HQ.out]
          case measure => simp [intOf]; omega
        · have HNE := hid (show ¬ xs = ys from fun h => e (by have h1 := HX.out; rw [h, HY.out] at h1; exact (Option.some.inj h1).symm))
          have hcase : (xk == yk) = false ∨ (xk = yk ∧ (xa == ya) = false) ∨ (xk = yk ∧ xa = ya ∧ (xb == yb) = false) := by
            by_cases h1 : xk = yk
            · by_cases h2 : xa = ya
              · by_cases h3 : xb = yb
                · subst h1 h2 h3; exact absurd rfl e
                · exact .inr (.inr ⟨h1, h2, by simpa using h3⟩)
              · exact .inr (.inl ⟨h1, by simpa using h2⟩)
            · exact .inl (by simpa using h1)
          clear e
          rcases hcase with h | ⟨h0, h⟩ | ⟨h0, h1, h⟩
          · go_wp2_with fail
            go_quiet (fail)
            go_wp2
            go_ret
            refine ⟨?_, S.out.trans ((Chg.refl _).drewN _) (fun _ _ f => f)⟩
            rw [decide_eq_false HNE.out]
            rfl
          · subst h0
            go_wp2_with fail
            go_quiet (fail)
            go_wp2
            go_ret
            refine ⟨?_, S.out.trans ((Chg.refl _).drewN _) (fun _ _ f => f)⟩
            rw [decide_eq_false HNE.out]
            rfl
          · subst h0 h1
            go_wp2_with fail
            go_quiet (fail)
            go_wp2
            go_ret
            refine ⟨?_, S.out.trans ((Chg.refl _).drewN _) (fun _ _ f => f)⟩
            rw [decide_eq_false HNE.out]
            rfl
      · go_wp2
        go_ret
        refine ⟨?_, S.out⟩
        have h := HQ.out
        rw [List.take_of_length_le (by have := HN1.out; omega), List.take_of_length_le (by have := HN2.out; omega)] at h
        rw [decide_eq_true h]
        rfl
  · have hne : ¬ xs = ys := fun h => hl (by rw [h])
    clear ha hb
    have HNE := hid hne
    obtain ⟨n1, h1⟩ : ∃ n, n = xs.length := ⟨_, rfl⟩
    obtain ⟨n2, h2⟩ : ∃ n, n = ys.length := ⟨_, rfl⟩
    have hb1 : ((n1 : Int) != (n2 : Int)) = true := by simp; omega
    rw [← h1] at hx
    rw [← h2] at hy
    rw [h1.symm, h2.symm]
    clear hne hl h1 h2
    go_enter Tryd.func13, Tryd.ntmps13
    go_wp2
    go_ret
    refine ⟨?_, Chg.refl _⟩
    rw [decide_eq_false HNE.out]
    rfl
end Go.Proofs.YtegcnkcjmebheaaDoor.Tab
