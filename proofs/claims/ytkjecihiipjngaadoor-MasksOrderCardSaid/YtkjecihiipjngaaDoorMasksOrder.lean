/-
  MasksOrder: the walk.
-/
import Derived.Test.YtkjecihiipjngaaDoorMaskWith
namespace Go.Proofs.YtkjecihiipjngaaDoor.MasksOrder
open Go Go.RowKit Go.Proofs.YtkjecihiipjngaaDoor.Mask

theorem fold_or : ∀ (xs : List Int) (m : Nat), xs.foldl (fun m k => m ||| 2 ^ k.toNat) m = m ||| maskOf xs
  | [], m => by simp [maskOf]
  | k :: xs, m => by
    unfold maskOf
    simp only [List.foldl_cons]
    rw [fold_or xs, fold_or xs, Nat.or_assoc, Nat.zero_or]
theorem maskOf_cons (k : Int) (xs : List Int) : maskOf (k :: xs) = 2 ^ k.toNat ||| maskOf xs := by
  conv => lhs; unfold maskOf
  rw [List.foldl_cons, fold_or, Nat.zero_or]
theorem or_le (a b : Nat) (ha : a ≤ top) (hb : b ≤ top) : a ||| b ≤ top := Nat.le_of_lt_succ (Nat.or_lt_two_pow (n := 64) (by unfold top at ha; omega) (by unfold top at hb; omega))
theorem okAll_drop (xs : List Int) (j : Nat) (h : okAll xs = true) : okAll (xs.drop j) = true := by
  unfold okAll at *
  rw [List.all_eq_true] at *
  exact fun x hx => h x (List.mem_of_mem_drop hx)

set_option maxRecDepth 100000 in
set_option maxHeartbeats 1000000 in
theorem walk (m : Nat) (xs : List Int) (v : Value) (w : World) (hm : m ≤ top) (hr : Ints w v xs) (hl : xs.length ≤ 17592186043904) (T : TypeId) (u : Addr) (he : w.cell? ⟨4, 0, none⟩ = some (.iface T (.pointer (some u)))) :
    Calls Tryd.prog 7 #[mk m, v] w fun r w' => r = .returned (.bool true) ∧ Same w w' := by
  obtain ⟨a, c, rfl⟩ := hr.slice
  have HR := hid hr
  have HE := hid he
  obtain ⟨n, hn⟩ : ∃ n, n = xs.length := ⟨_, rfl⟩
  rw [← hn] at hl
  simp only [← hn] at HR ⊢
  have HN := hid hn
  clear hr he hn
  go_enter Tryd.func7, Tryd.ntmps7
  go_wp2_with fail
  refine (alive _ _ HE.out).mono ?_
  rintro r w1 ⟨rfl, hs1⟩
  have S1 := hid hs1
  clear hs1
  by_cases h1 : 50 < n
  · go_wp2
    go_ret
    exact ⟨rfl, S1.out⟩
  go_wp2_with fail
  refine (with_any m hm _ xs _ (HR.out.same S1.out) (by have := HN.out; omega) T u (S1.out.keep HE.out)).mono ?_
  rintro r w2 ⟨rfl, hs2⟩
  have S2 := hid (S1.out.trans hs2 (fun _ _ f => f))
  clear hs2
  cases hok : okAll xs with
  | false =>
    rw [chR_no _ _ hok]
    go_wp2
    go_ret
    exact ⟨rfl, S2.out⟩
  | true =>
    rw [chR_yes _ _ hok]
    have HOK := hid hok
    have hml := maskOf_lt xs hok
    have hall : m ||| maskOf xs ≤ top := or_le _ _ hm (by unfold top; omega)
    clear hok
    go_wp2_with fail
    go_loopw [7, 8] (fun ov iv wr => ∃ j : Nat, j ≤ n ∧ iv = .int .i64 ((j : Int) - 1) ∧ ov = mk (m ||| maskOf (xs.drop j)) ∧ Same w2 wr) (fun _ iv _ => (intOf iv + 1).toNat)
    case atStart => exact ⟨n, Nat.le_refl _, rfl, by rw [List.drop_of_length_le (by have := HN.out; omega)]; simp [maskOf], Chg.refl _⟩
    case round =>
      obtain ⟨j, hj, rfl, rfl, hs⟩ := hrel
      have HS := hid hs
      clear hs
      cases j with
      | zero =>
        rw [show (((0 : Nat) : Int) - 1) = -1 from rfl, List.drop_zero]
        have SZ := hid (S2.out.trans HS.out (fun _ _ f => f))
        have HHO := hid (show holds (m ||| maskOf xs) m = true by rw [holds_iff _ _ hall hm]; intro i hi; rw [Nat.testBit_or, hi]; rfl)
        by_cases h0 : n = 0
        · have hn0 : (n : Int) = 0 := by omega
          go_wp2_with fail
          refine (holds_any _ m hall hm _).mono ?_
          rintro r w3 ⟨rfl, rfl⟩
          rw [HHO.out]
          go_wp2
          go_ret
          exact ⟨rfl, SZ.out⟩
        · obtain ⟨b, off, cap, e1, hb, hcl⟩ := HR.out.open (by have := HN.out; omega)
          cases e1
          have hjx : 0 < xs.length := by omega
          have g0 := SZ.out.keep (hcl 0 (.int .i64 xs[0]) (by simp [hjx]))
          rw [Nat.add_zero] at g0
          have hoj : okKind xs[0] = true := (List.all_eq_true.1 HOK.out) _ (List.getElem_mem hjx)
          have HB := hid (show (m ||| maskOf xs).testBit xs[0].toNat = true by
            have e : maskOf xs = 2 ^ xs[0].toNat ||| maskOf (xs.drop 1) := by
              rw [← maskOf_cons, ← List.drop_eq_getElem_cons hjx, List.drop_zero]
            rw [e, Nat.testBit_or, Nat.testBit_or, Nat.testBit_two_pow_self]; simp)
          have HOJ := hid hoj
          clear hcl hoj
          generalize xs[0] = x at *
          go_wp2_with fail
          refine (holds_any _ m hall hm _).mono ?_
          rintro r w3 ⟨rfl, rfl⟩
          rw [HHO.out]
          go_wp2_with fail
          refine (has_any _ hall x _).mono ?_
          rintro r w3 ⟨rfl, rfl⟩
          rw [HOJ.out, HB.out]
          go_wp2
          go_ret
          exact ⟨rfl, SZ.out⟩
      | succ j =>
        obtain ⟨b, off, cap, e1, hb, hcl⟩ := HR.out.open (by have := HN.out; omega)
        cases e1
        have hjx : j < xs.length := by have := HN.out; omega
        have g0 := HS.out.keep (S2.out.keep (hcl j (.int .i64 xs[j]) (by simp [hjx])))
        have hoj : okKind xs[j] = true := (List.all_eq_true.1 HOK.out) _ (List.getElem_mem hjx)
        have HD := hid (show maskOf (xs.drop j) = 2 ^ xs[j].toNat ||| maskOf (xs.drop (j + 1)) by rw [List.drop_eq_getElem_cons hjx, maskOf_cons])
        have HLT := hid (maskOf_lt _ (okAll_drop xs (j + 1) HOK.out))
        clear hcl
        generalize xs[j] = x at *
        have HOJ := hid hoj
        have hpl := pow_lt x hoj
        have HP := hid (show maskOf [x] = 2 ^ x.toNat by simp [maskOf])
        generalize 2 ^ x.toNat = p at *
        generalize maskOf (xs.drop (j + 1)) = q at *
        have hq := HLT.out
        have hA : m ||| q ≤ top := or_le _ _ hm (by unfold top; omega)
        have hp3 : p < 1024 := hpl
        have hB : m ||| q ||| p ≤ top := or_le _ _ hA (by unfold top; omega)
        have HJ := hid (show (((j + 1 : Nat) : Int) - 1) = (j : Int) by omega)
        rw [HJ.out]
        clear hoj
        go_wp2_with fail
        go_loopw [7, 32] (fun ov cv wx => ∃ c : Nat, c ≤ 2 ∧ cv = .int .i64 c ∧ (c = 0 ∧ ov = mk (m ||| q) ∨ 0 < c ∧ ov = mk (m ||| q ||| p)) ∧ Same wr wx) (fun _ cv _ => 2 - (intOf cv).toNat)
        case atStart => exact ⟨0, by omega, rfl, .inl ⟨rfl, rfl⟩, Chg.refl _⟩
        case round =>
          obtain ⟨c2, hc2, rfl, hov, hsx⟩ := hrel
          have HSX := hid hsx
          have g1 := hsx.keep g0
          have hEk := hid (hsx.keep (HS.out.keep (S2.out.keep HE.out)))
          clear hsx
          by_cases hlt : c2 < 2
          · obtain ⟨o, ho, rfl, hop⟩ : ∃ o, o ≤ top ∧ _ = mk o ∧ o ||| p = m ||| q ||| p := by
              rcases hov with ⟨_, h⟩ | ⟨_, h⟩
              · exact ⟨m ||| q, hA, h, rfl⟩
              · exact ⟨m ||| q ||| p, hB, h, by rw [Nat.or_assoc, Nat.or_self]⟩
            have HOP := hid hop
            clear hop hov
            go_wp2_with fail
            have hsA : Same wr (wr.alloc (.cells #[.int .i64 x] 3)) := (Chg.refl _).alloc _
            refine (with_any o ho _ [x] _ (reads_lit #[.int .i64 x] 3 1 1 (by omega) rfl) (by simp) T u (hsA.keep hEk.out)).mono ?_
            rintro r w5 ⟨rfl, hs5⟩
            have HS5 := hid ((HSX.out.trans hsA (fun _ _ f => f)).trans hs5 (fun _ _ f => f))
            rw [chR_yes _ _ (by simp [okAll, HOJ.out]), HP.out, HOP.out]
            clear hsA hs5
            go_wp2_with fail
            go_roundw
            case rel => exact ⟨c2 + 1, by omega, by go_num, .inr ⟨by omega, rfl⟩, HS5.out⟩
            case measure => simp [intOf]; omega
          · obtain ⟨_, rfl⟩ : 0 < c2 ∧ _ = mk (m ||| q ||| p) := by
              rcases hov with ⟨h, _⟩ | h
              · omega
              · exact h
            go_wp2_with fail
            go_roundw
            case rel => exact ⟨j, by omega, by go_num, by rw [HD.out, Nat.or_assoc, Nat.or_comm q p], HS.out.trans HSX.out (fun _ _ f => f)⟩
            case measure => simp [intOf]
end Go.Proofs.YtkjecihiipjngaaDoor.MasksOrder
