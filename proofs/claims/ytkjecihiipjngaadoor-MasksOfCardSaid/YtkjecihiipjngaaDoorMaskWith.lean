/-
  Package masks: With, Without, Has.
-/
import Derived.Test.YtkjecihiipjngaaDoorMaskOf
namespace Go.Proofs.YtkjecihiipjngaaDoor.Mask
open Go Go.RowKit

/-- What With, Without answer. -/
def chR (xs : List Int) (n : Nat) (e : Value) : Value := if okAll xs then .tuple #[mk n, .nilIface] else .tuple #[mk 0, e]
theorem chR_yes {xs : List Int} (n : Nat) (e : Value) (h : okAll xs = true) : chR xs n e = .tuple #[mk n, .nilIface] := by simp [chR, h]
theorem chR_no {xs : List Int} (n : Nat) (e : Value) (h : okAll xs = false) : chR xs n e = .tuple #[mk 0, e] := by simp [chR, h]

theorem with1 (m n : Nat) (hm : m ≤ top) (hn : n ≤ top) (w : World) : Calls Tryd.prog 60 #[mk m, mk n] w fun r w' => r = .returned (mk (m ||| n)) ∧ w = w' := by
  have hor := u64_or_nat m n (by unfold top at hm; omega) (by unfold top at hn; omega)
  go_enter Tryd.func60, Tryd.ntmps60
  go_wp2
  go_ret
  exact ⟨rfl, rfl⟩

set_option maxRecDepth 100000 in
theorem with_change (m : Nat) (hm : m ≤ top) (v : Value) (xs : List Int) (w : World) (hr : Ints w v xs) (hl : xs.length ≤ 9223372036854775807) (T : TypeId) (u : Addr) (he : w.cell? ⟨4, 0, none⟩ = some (.iface T (.pointer (some u)))) :
    Calls Tryd.prog 59 #[mk m, .func (.func 60) #[] #[], v] w fun r w' => r = .returned (chR xs (m ||| maskOf xs) (.iface T (.pointer (some u)))) ∧ Same w w' := by
  obtain ⟨a, c, rfl⟩ := hr.slice
  have HR := hid hr
  have HE := hid he
  obtain ⟨n, hn⟩ : ∃ n, n = xs.length := ⟨_, rfl⟩
  simp only [← hn] at HR ⊢
  rw [← hn] at hl
  have HL := hid (hn ▸ hl : xs.length ≤ 9223372036854775807)
  clear hr he hn
  go_enter Tryd.func59, Tryd.ntmps59
  cases hok : okAll xs with
  | true =>
    have hml := maskOf_lt xs hok
    have HOK := hid hok
    clear hok
    go_wp2_with fail
    refine (of_any _ xs _ HR.out HL.out _ HE.out).mono ?_
    rintro r w1 ⟨rfl, hs⟩
    rw [ofR_yes _ HOK.out]
    have HS := hid hs
    clear hs
    go_wp2_with fail
    refine (with1 m (maskOf xs) hm (by unfold top; omega) _).mono ?_
    rintro r w2 ⟨rfl, rfl⟩
    go_wp2
    go_ret2
    exact ⟨by rw [chR_yes _ _ HOK.out]; rfl, HS.out⟩
  | false =>
    have HOK := hid hok
    clear hok
    go_wp2_with fail
    refine (of_any _ xs _ HR.out HL.out _ HE.out).mono ?_
    rintro r w1 ⟨rfl, hs⟩
    rw [ofR_no _ HOK.out]
    have HS := hid hs
    clear hs
    go_wp2
    go_ret2
    exact ⟨by rw [chR_no _ _ HOK.out]; rfl, HS.out⟩

set_option maxRecDepth 100000 in
theorem with_any (m : Nat) (hm : m ≤ top) (v : Value) (xs : List Int) (w : World) (hr : Ints w v xs) (hl : xs.length ≤ 9223372036854775807) (T : TypeId) (u : Addr) (he : w.cell? ⟨4, 0, none⟩ = some (.iface T (.pointer (some u)))) :
    Calls Tryd.prog 29 #[mk m, v] w fun r w' => r = .returned (chR xs (m ||| maskOf xs) (.iface T (.pointer (some u)))) ∧ Same w w' := by
  obtain ⟨a, c, rfl⟩ := hr.slice
  go_enter Tryd.func29, Tryd.ntmps29
  have H := hid (with_change m hm _ xs w hr hl T u he)
  clear hr hl he hm
  cases hok : okAll xs with
  | true =>
    rw [chR_yes _ _ hok] at *
    clear hok
    go_wp2_with fail
    refine H.out.mono ?_
    rintro r w1 ⟨rfl, hs⟩
    have HS := hid hs
    clear hs H
    go_wp2
    go_ret2
    exact ⟨rfl, HS.out⟩
  | false =>
    rw [chR_no _ _ hok] at *
    clear hok
    go_wp2_with fail
    refine H.out.mono ?_
    rintro r w1 ⟨rfl, hs⟩
    have HS := hid hs
    clear hs H
    go_wp2
    go_ret2
    exact ⟨rfl, HS.out⟩

theorem without1 (m n : Nat) (hm : m ≤ top) (hn : n ≤ top) (w : World) : Calls Tryd.prog 65 #[mk m, mk n] w fun r w' => r = .returned (mk (m &&& (top - n))) ∧ w = w' := by
  have hor := u64_andNot_nat m n (by unfold top at hm; omega) (by unfold top at hn; omega)
  go_enter Tryd.func65, Tryd.ntmps65
  go_wp2
  go_ret
  exact ⟨rfl, rfl⟩

set_option maxRecDepth 100000 in
theorem without_change (m : Nat) (hm : m ≤ top) (v : Value) (xs : List Int) (w : World) (hr : Ints w v xs) (hl : xs.length ≤ 9223372036854775807) (T : TypeId) (u : Addr) (he : w.cell? ⟨4, 0, none⟩ = some (.iface T (.pointer (some u)))) :
    Calls Tryd.prog 59 #[mk m, .func (.func 65) #[] #[], v] w fun r w' => r = .returned (chR xs (m &&& (top - maskOf xs)) (.iface T (.pointer (some u)))) ∧ Same w w' := by
  obtain ⟨a, c, rfl⟩ := hr.slice
  have HR := hid hr
  have HE := hid he
  obtain ⟨n, hn⟩ : ∃ n, n = xs.length := ⟨_, rfl⟩
  simp only [← hn] at HR ⊢
  rw [← hn] at hl
  have HL := hid (hn ▸ hl : xs.length ≤ 9223372036854775807)
  clear hr he hn
  go_enter Tryd.func59, Tryd.ntmps59
  cases hok : okAll xs with
  | true =>
    have hml := maskOf_lt xs hok
    have HOK := hid hok
    clear hok
    go_wp2_with fail
    refine (of_any _ xs _ HR.out HL.out _ HE.out).mono ?_
    rintro r w1 ⟨rfl, hs⟩
    rw [ofR_yes _ HOK.out]
    have HS := hid hs
    clear hs
    go_wp2_with fail
    refine (without1 m (maskOf xs) hm (by unfold top; omega) _).mono ?_
    rintro r w2 ⟨rfl, rfl⟩
    go_wp2
    go_ret2
    exact ⟨by rw [chR_yes _ _ HOK.out]; rfl, HS.out⟩
  | false =>
    have HOK := hid hok
    clear hok
    go_wp2_with fail
    refine (of_any _ xs _ HR.out HL.out _ HE.out).mono ?_
    rintro r w1 ⟨rfl, hs⟩
    rw [ofR_no _ HOK.out]
    have HS := hid hs
    clear hs
    go_wp2
    go_ret2
    exact ⟨by rw [chR_no _ _ HOK.out]; rfl, HS.out⟩

set_option maxRecDepth 100000 in
theorem without_any (m : Nat) (hm : m ≤ top) (v : Value) (xs : List Int) (w : World) (hr : Ints w v xs) (hl : xs.length ≤ 9223372036854775807) (T : TypeId) (u : Addr) (he : w.cell? ⟨4, 0, none⟩ = some (.iface T (.pointer (some u)))) :
    Calls Tryd.prog 44 #[mk m, v] w fun r w' => r = .returned (chR xs (m &&& (top - maskOf xs)) (.iface T (.pointer (some u)))) ∧ Same w w' := by
  obtain ⟨a, c, rfl⟩ := hr.slice
  go_enter Tryd.func44, Tryd.ntmps44
  have H := hid (without_change m hm _ xs w hr hl T u he)
  clear hr hl he hm
  cases hok : okAll xs with
  | true =>
    rw [chR_yes _ _ hok] at *
    clear hok
    go_wp2_with fail
    refine H.out.mono ?_
    rintro r w1 ⟨rfl, hs⟩
    have HS := hid hs
    clear hs H
    go_wp2
    go_ret2
    exact ⟨rfl, HS.out⟩
  | false =>
    rw [chR_no _ _ hok] at *
    clear hok
    go_wp2_with fail
    refine H.out.mono ?_
    rintro r w1 ⟨rfl, hs⟩
    have HS := hid hs
    clear hs H
    go_wp2
    go_ret2
    exact ⟨rfl, HS.out⟩


set_option maxRecDepth 100000 in
theorem has_any (m : Nat) (hm : m ≤ top) (k : Int) (w : World) : Calls Tryd.prog 30 #[mk m, .int .i64 k] w fun r w' => r = .returned (.bool (okKind k && m.testBit k.toNat)) ∧ w = w' := by
  go_enter Tryd.func30, Tryd.ntmps30
  cases hok : okKind k with
  | true =>
    simp [okKind] at hok
    obtain ⟨y, rfl⟩ := Int.eq_ofNat_of_zero_le hok.1
    have hy : y < 10 := by omega
    have hpl : 2 ^ y < 1024 := Nat.pow_lt_pow_right (n := 10) (by omega) hy
    have hand := u64_and_nat m (2 ^ y) (by unfold top at hm; omega) (by omega)
    have hbit : (m &&& 2 ^ y != 0) = m.testBit y := by
      rw [nat_bit, Nat.testBit_eq_decide_div_mod_eq]
      have hp : 0 < 2 ^ y := Nat.pow_pos (by omega)
      rcases Nat.mod_two_eq_zero_or_one (m / 2 ^ y) with h | h
      · simp [h]
      · simp [h]
    have HB := hid hbit
    clear hok hbit
    generalize hp : 2 ^ y = p at *
    have HP := hid hp
    clear hp
    go_wp2_with fail
    refine (bit_yes y hy _).mono ?_
    rintro r w1 ⟨rfl, rfl⟩
    rw [HP.out]
    go_wp2
    go_ret
    refine ⟨ret_bool ?_, rfl⟩
    rw [show ((y : Int).toNat) = y by omega, ← HB.out]
    rw [Bool.eq_iff_iff]
    simp
  | false =>
    have hx : k < 0 ∨ 10 ≤ k := by
      simp [okKind] at hok
      rcases Int.lt_or_le k 0 with h | h
      · exact .inl h
      · exact .inr (hok h)
    have hand : bits .and .u64 (m : Int) 0 = 0 := by
      have := u64_and_nat m 0 (by unfold top at hm; omega) (by omega)
      simpa using this
    clear hok
    go_wp2_with fail
    refine (bit_no k hx _).mono ?_
    rintro r w1 ⟨rfl, rfl⟩
    go_wp2
    go_ret
    exact ⟨ret_bool (by simp), rfl⟩
end Go.Proofs.YtkjecihiipjngaaDoor.Mask
