/-
  Package heap: up, down, each by its contract.
-/
import Derived.Test.YtilobedihjkpjaaDoorHeapPlain
import Derived.Test.YtilobedihjkpjaaDoorHeapSwap
import Derived.Deep.RegionHeld3
namespace Go.Proofs.YtilobedihjkpjaaDoor.Hp
open Go Go.RowKit

theorem swapY (p : Nat) (v : Value) (es : List (Int × Int)) (i j : Nat) (w : World) (h : Hp w p v es) (hi : i < es.length) (hj : j < es.length) (hn : ah (at_ es j) (at_ es i) = true) (hij : i ≠ j) :
    Calls Tryd.prog 133 #[.pointer (some ⟨p, 0, none⟩), .int .i64 i, .int .i64 j] w fun r w' => r = .returned (.bool true) ∧ Hp w' p v (swp es i j) ∧ Chg (HpS p v) w w' :=
  swap_yes p v es i j _ _ w h (at_eq hi) (at_eq hj) hn hij
theorem swapN (p : Nat) (v : Value) (es : List (Int × Int)) (i j : Nat) (w : World) (h : Hp w p v es) (hi : i < es.length) (hj : j < es.length) (hn : ah (at_ es j) (at_ es i) = false) :
    Calls Tryd.prog 133 #[.pointer (some ⟨p, 0, none⟩), .int .i64 i, .int .i64 j] w fun r w' => r = .returned (.bool false) ∧ Same w w' :=
  swap_no p v es i j _ _ w h (at_eq hi) (at_eq hj) hn

set_option maxRecDepth 100000 in
theorem up_any (p : Nat) (v : Value) (es : List (Int × Int)) (i : Nat) (w : World) (h : Hp w p v es) (hi : i < es.length) (hu : UpInv es i) :
    Calls Tryd.prog 122 #[.pointer (some ⟨p, 0, none⟩), .int .i64 i] w fun r w' => r = .returned (.tuple #[]) ∧ ∃ es', Hp w' p v es' ∧ IsHeap es' ∧ es'.Perm es ∧ Chg (HpS p v) w w' := by
  have hx := h.max
  have H := hid h
  have HU := hid hu
  clear h hu
  go_enter Tryd.func122, Tryd.ntmps122
  go_wp2_with fail
  go_loopw [1] (fun iv wr => ∃ (k : Nat) (es' : List (Int × Int)), iv = .int .i64 k ∧ k < es.length ∧ Hp wr p v es' ∧ UpInv es' k ∧ es'.Perm es ∧ Chg (HpS p v) w wr) (fun iv _ => (intOf iv).toNat)
  case atStart => exact ⟨i, es, rfl, hi, H.out, HU.out, List.Perm.refl _, Chg.refl _⟩
  case round =>
    obtain ⟨k, es', rfl, hk, hh, hu, hp, hc⟩ := hrel
    have HH := hid hh
    have HUk := hid hu
    have HP := hid hp
    have HC := hid hc
    have hlen := hid hp.length_eq
    clear hh hu hp hc
    cases k with
    | zero =>
      go_wp2
      go_end0
      exact ⟨rfl, es', HH.out, up_end es' 0 HUk.out (.inl rfl), HP.out, HC.out⟩
    | succ k =>
      have hkl : k + 1 < es'.length := by have := hlen.out; omega
      have hpl : par (k + 1) < es'.length := by unfold par; omega
      by_cases ha : ah (at_ es' (k + 1)) (at_ es' (par (k + 1))) = true
      · have HA := hid ha
        clear ha
        go_wp2_with fail
        rw [show ((k : Int) / 2) = ((par (k + 1) : Nat) : Int) from by unfold par; omega, show ((k : Int) + 1) = ((k + 1 : Nat) : Int) from by omega]
        refine (swapY _ _ _ _ _ _ HH.out hpl hkl HA.out (by unfold par; omega)).mono ?_
        rintro r w1 ⟨rfl, h1, c1⟩
        have H1 := hid h1
        have C1 := hid (HC.out.trans c1 (fun _ _ h => h))
        have U1 := hid (up_step es' (k + 1) HUk.out (by omega) hkl HA.out)
        have P1 := hid ((swp_perm es' (par (k + 1)) (k + 1) hpl hkl).trans HP.out)
        clear h1 c1
        go_wp2
        go_roundw
        case rel => exact ⟨par (k + 1), _, by unfold par; go_num, by unfold par; omega, H1.out, U1.out, P1.out, C1.out⟩
        case measure => simp [intOf]; omega
      · have ha' : ah (at_ es' (k + 1)) (at_ es' (par (k + 1))) = false := by simpa using ha
        have HA := hid ha'
        clear ha ha'
        go_wp2_with fail
        rw [show ((k : Int) / 2) = ((par (k + 1) : Nat) : Int) from by unfold par; omega, show ((k : Int) + 1) = ((k + 1 : Nat) : Int) from by omega]
        refine (swapN _ _ _ _ _ _ HH.out hpl hkl HA.out).mono ?_
        rintro r w1 ⟨rfl, c1⟩
        have H1 := hid (HH.out.chg c1 (fun _ _ f => f))
        have C1 := hid (HC.out.andSame c1)
        clear c1
        go_wp2
        go_end0
        exact ⟨rfl, es', H1.out, up_end es' (k + 1) HUk.out (.inr HA.out), HP.out, C1.out⟩

set_option maxRecDepth 100000 in
set_option maxHeartbeats 4000000 in
theorem down_any (p : Nat) (v : Value) (es : List (Int × Int)) (w : World) (h : Hp w p v es) (hl : es.length ≤ 1000000) (hu : DownInv es 0) :
    Calls Tryd.prog 124 #[.pointer (some ⟨p, 0, none⟩), .int .i64 0] w fun r w' => r = .returned (.tuple #[]) ∧ ∃ es', Hp w' p v es' ∧ IsHeap es' ∧ es'.Perm es ∧ Chg (HpS p v) w w' := by
  have H := hid h
  have HU := hid hu
  clear h hu
  go_enter Tryd.func124, Tryd.ntmps124
  go_wp2_with fail
  go_loopw [1] (fun iv wr => ∃ (k : Nat) (es' : List (Int × Int)), iv = .int .i64 k ∧ k ≤ es.length ∧ Hp wr p v es' ∧ DownInv es' k ∧ es'.Perm es ∧ Chg (HpS p v) w wr) (fun iv _ => es.length - (intOf iv).toNat)
  case atStart => exact ⟨0, es, rfl, Nat.zero_le _, H.out, HU.out, List.Perm.refl _, Chg.refl _⟩
  case round =>
    obtain ⟨k, es', rfl, hk, hh, hu, hp, hc⟩ := hrel
    have hlen := hid hp.length_eq
    obtain ⟨a, cp, rfl⟩ := hh.shape
    have h0 := hh.c0
    have HH := hid hh
    have HUk := hid hu
    have HP := hid hp
    have HC := hid hc
    clear hh hu hp hc
    obtain ⟨n, hn⟩ : ∃ n, n = es'.length := ⟨_, rfl⟩
    rw [← hn] at h0 
    have hnl : n ≤ 1000000 := by have := hlen.out; omega
    have HN := hid hn
    clear hn
    obtain ⟨c, hc⟩ : ∃ c, c = 2 * k + 1 := ⟨_, rfl⟩
    have HCk := hid hc
    have hcn : n ≤ c → (n : Int) ≤ 2 * k + 1 := by omega
    have HKC := hid (show (2 * (k : Int) + 1) = (c : Int) by omega)
    have hck : 2 * (k : Int) + 1 < n ↔ c < n := by omega
    have HCK := hid hck
    clear hck hc
    by_cases hch : c < n
    · obtain ⟨g, cp', hv⟩ := own_shape HH.out.own (by have := HN.out; omega)
      cases hv
      have hcl : c < es'.length := by have := HN.out; omega
      obtain ⟨e1, e2, _, _⟩ := HH.out.entry c _ (at_eq hcl)
      have hpl := HH.out.lt
      have hgl := (HH.out.own.lt g rfl).2
      have hch' := HCK.out.2 hch
      clear hcn
      by_cases h2 : c + 1 < n
      · have hcl2 : c + 1 < es'.length := by have := HN.out; omega
        obtain ⟨e3, e4, _, _⟩ := HH.out.entry (c + 1) _ (at_eq hcl2)
        go_wp2
        rw [HKC.out]
        generalize hA : at_ es' c = ea at *
        generalize hB : at_ es' (c + 1) = eb at *
        have HA := hid hA
        have HB := hid hB
        clear hA hB
        have hd : decide ((c : Int) + 1 < (n : Int)) = true := by simp; omega
        have hd1 : (c : Int) + 1 < (n : Int) := by omega
        have hd2 : (c : Int) < (n : Int) := by omega
        have hw0 : (0 : Int) ≤ (c : Int) + 1 := by omega
        have hw2 : ((c : Int) + 1).toNat = c + 1 := by omega
        have hw1 : IntKind.i64.wrap ((c : Int) + 1) = (c : Int) + 1 := IntWalk.i64_in _ (by omega)
        go_region_held3 (fun w' => w'.cell? ⟨p, 0, none⟩ = some (.slice (some ⟨g, 0, none⟩) n cp) ∧ w'.cell? ⟨g, c * 2, none⟩ = some (.int .i64 ea.1) ∧ w'.cell? ⟨g, c * 2 + 1, none⟩ = some (.int .i64 ea.2) ∧
            w'.cell? ⟨g, (c + 1) * 2, none⟩ = some (.int .i64 eb.1) ∧ w'.cell? ⟨g, (c + 1) * 2 + 1, none⟩ = some (.int .i64 eb.2))
          (go_keep)
          ((go_at_call 134; refine (ahead_any eb ea _).mono ?_; rintro r w' ⟨rfl, rfl⟩))
        have hs1 : Same wr (((wr.alloc (.cells #[.int .i64 eb.1, .int .i64 eb.2] 172)).alloc (.cells #[.int .i64 ea.1, .int .i64 ea.2] 172)).drew) := ((Chg.refl _).alloc _).alloc _ |>.drew
        generalize (((wr.alloc (.cells #[.int .i64 eb.1, .int .i64 eb.2] 172)).alloc (.cells #[.int .i64 ea.1, .int .i64 ea.2] 172)).drew) = w2 at *
        have HH2 := hid (HH.out.chg hs1 (fun _ _ f => f))
        have HC2 := hid (HC.out.andSame hs1)
        clear hs1 hd hw0 hw1 hw2 h0 e1 e2 e3 e4 HH HC
        have hkl : k < es'.length := by have := HCk.out; omega
        by_cases hab : ah eb ea = true
        · have hml : c + 1 < es'.length := hcl2
          have HAB := hid hab
          have hless : ∀ j, j < es'.length → (j = 2 * k + 1 ∨ j = 2 * k + 2) → le (at_ es' (c + 1)) (at_ es' j) := by
            intro j hj hjk
            have := HCk.out
            rcases hjk with h | h
            · rw [h, ← HCk.out, HB.out, HA.out]; exact le_of_ah hab
            · rw [h, show 2 * k + 2 = c + 1 by omega]; exact le_refl _
          have HL := hid hless
          clear hless hab
          rw [HAB.out]
          by_cases ha2 : ah (at_ es' (c + 1)) (at_ es' k) = true
          · have HA2 := hid ha2
            clear ha2
            go_wp2_with fail
            rw [show ((c : Int) + 1) = ((c + 1 : Nat) : Int) from by omega]
            refine (swapY _ _ _ _ _ _ HH2.out hkl hml HA2.out (by have := HCk.out; omega)).mono ?_
            rintro r w1 ⟨rfl, h1, c1⟩
            have H1 := hid h1
            have C1 := hid (HC2.out.trans c1 (fun _ _ h => h))
            have U1 := hid (down_step es' k (c + 1) HUk.out (by have := HCk.out; omega) hml (HL.out) HA2.out)
            have P1 := hid ((swp_perm es' k (c + 1) hkl hml).trans HP.out)
            clear h1 c1
            go_wp2
            go_roundw
            case rel => exact ⟨c + 1, _, by go_num, by have := hlen.out; omega, H1.out, U1.out, P1.out, C1.out⟩
            case measure => simp [intOf]; have := HCk.out; have := hlen.out; omega
          · have ha3 : ah (at_ es' (c + 1)) (at_ es' k) = false := by simpa using ha2
            have HA2 := hid ha3
            clear ha2 ha3
            go_wp2_with fail
            rw [show ((c : Int) + 1) = ((c + 1 : Nat) : Int) from by omega]
            refine (swapN _ _ _ _ _ _ HH2.out hkl hml HA2.out).mono ?_
            rintro r w1 ⟨rfl, c1⟩
            have H1 := hid (HH2.out.chg c1 (fun _ _ f => f))
            have C1 := hid (HC2.out.andSame c1)
            clear c1
            go_wp2
            refine bodyPost_ret (results_none rfl _ _ _) rfl ?_
            exact ⟨rfl, es', H1.out, down_end es' k HUk.out (fun j hj hjk => le_trans HA2.out ((HL.out) j hj hjk)), HP.out, C1.out⟩
        · have hab' : ah eb ea = false := by simpa using hab
          have hml : c < es'.length := hcl
          have HAB := hid hab'
          have hless : ∀ j, j < es'.length → (j = 2 * k + 1 ∨ j = 2 * k + 2) → le (at_ es' c) (at_ es' j) := by
            intro j hj hjk
            have := HCk.out
            rcases hjk with h | h
            · rw [h, ← HCk.out]; exact le_refl _
            · rw [h, show 2 * k + 2 = c + 1 by omega, HB.out, HA.out]; exact hab'
          have HL := hid hless
          clear hless hab hab'
          rw [HAB.out]
          by_cases ha2 : ah (at_ es' (c)) (at_ es' k) = true
          · have HA2 := hid ha2
            clear ha2
            go_wp2_with fail
            skip
            refine (swapY _ _ _ _ _ _ HH2.out hkl hml HA2.out (by have := HCk.out; omega)).mono ?_
            rintro r w1 ⟨rfl, h1, c1⟩
            have H1 := hid h1
            have C1 := hid (HC2.out.trans c1 (fun _ _ h => h))
            have U1 := hid (down_step es' k (c) HUk.out (by have := HCk.out; omega) hml (HL.out) HA2.out)
            have P1 := hid ((swp_perm es' k (c) hkl hml).trans HP.out)
            clear h1 c1
            go_wp2
            go_roundw
            case rel => exact ⟨c, _, by go_num, by have := hlen.out; omega, H1.out, U1.out, P1.out, C1.out⟩
            case measure => simp [intOf]; have := HCk.out; have := hlen.out; omega
          · have ha3 : ah (at_ es' (c)) (at_ es' k) = false := by simpa using ha2
            have HA2 := hid ha3
            clear ha2 ha3
            go_wp2_with fail
            skip
            refine (swapN _ _ _ _ _ _ HH2.out hkl hml HA2.out).mono ?_
            rintro r w1 ⟨rfl, c1⟩
            have H1 := hid (HH2.out.chg c1 (fun _ _ f => f))
            have C1 := hid (HC2.out.andSame c1)
            clear c1
            go_wp2
            refine bodyPost_ret (results_none rfl _ _ _) rfl ?_
            exact ⟨rfl, es', H1.out, down_end es' k HUk.out (fun j hj hjk => le_trans HA2.out ((HL.out) j hj hjk)), HP.out, C1.out⟩
      · have hn1 : n = c + 1 := by omega
        have HN1 := hid hn1
        have hd : decide ((c : Int) + 1 < (n : Int)) = false := by simp; omega
        have hw1 : IntKind.i64.wrap ((c : Int) + 1) = (c : Int) + 1 := IntWalk.i64_in _ (by omega)
        clear hn1
        go_wp2
        rw [HKC.out]
        go_quiet (fail)
        have hs1 : Same wr (wr.drewN nq) := (Chg.refl _).drewN _
        generalize wr.drewN nq = w2 at *
        have HH2 := hid (HH.out.chg hs1 (fun _ _ f => f))
        have HC2 := hid (HC.out.andSame hs1)
        clear hs1 hd hw1 h0 e1 e2 HH HC
        have hkl : k < es'.length := by have := HCk.out; omega
        have hml : c < es'.length := hcl
        have hless : ∀ j, j < es'.length → (j = 2 * k + 1 ∨ j = 2 * k + 2) → le (at_ es' c) (at_ es' j) := by
          intro j hj hjk
          have := HCk.out
          have := HN.out
          have := HN1.out
          rcases hjk with h | h
          · rw [h, ← HCk.out]; exact le_refl _
          · omega
        have HL := hid hless
        clear hless
        by_cases ha2 : ah (at_ es' (c)) (at_ es' k) = true
        · have HA2 := hid ha2
          clear ha2
          go_wp2_with fail
          skip
          refine (swapY _ _ _ _ _ _ HH2.out hkl hml HA2.out (by have := HCk.out; omega)).mono ?_
          rintro r w1 ⟨rfl, h1, c1⟩
          have H1 := hid h1
          have C1 := hid (HC2.out.trans c1 (fun _ _ h => h))
          have U1 := hid (down_step es' k (c) HUk.out (by have := HCk.out; omega) hml (HL.out) HA2.out)
          have P1 := hid ((swp_perm es' k (c) hkl hml).trans HP.out)
          clear h1 c1
          go_wp2
          go_roundw
          case rel => exact ⟨c, _, by go_num, by have := hlen.out; omega, H1.out, U1.out, P1.out, C1.out⟩
          case measure => simp [intOf]; have := HCk.out; have := hlen.out; omega
        · have ha3 : ah (at_ es' (c)) (at_ es' k) = false := by simpa using ha2
          have HA2 := hid ha3
          clear ha2 ha3
          go_wp2_with fail
          skip
          refine (swapN _ _ _ _ _ _ HH2.out hkl hml HA2.out).mono ?_
          rintro r w1 ⟨rfl, c1⟩
          have H1 := hid (HH2.out.chg c1 (fun _ _ f => f))
          have C1 := hid (HC2.out.andSame c1)
          clear c1
          go_wp2
          refine bodyPost_ret (results_none rfl _ _ _) rfl ?_
          exact ⟨rfl, es', H1.out, down_end es' k HUk.out (fun j hj hjk => le_trans HA2.out ((HL.out) j hj hjk)), HP.out, C1.out⟩
    · have hge := hcn (by omega)
      clear hcn
      go_wp2
      refine bodyPost_ret (results_none rfl _ _ _) rfl ?_
      exact ⟨rfl, es', HH.out, down_end es' k HUk.out (fun j hj hjk => by have := HN.out; have := HCk.out; omega), HP.out, HC.out⟩
end Go.Proofs.YtilobedihjkpjaaDoor.Hp
