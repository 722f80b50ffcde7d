/-
  Package masks: Of, With, Without, Has; the chapter's example.
-/
import Derived.Test.YtkjecihiipjngaaDoorMask
namespace Go.Proofs.YtkjecihiipjngaaDoor.Mask
open Go Go.RowKit

def okKind (k : Int) : Bool := decide (0 ≤ k) && decide (k < 10)
def okAll (xs : List Int) : Bool := xs.all okKind
def maskOf (xs : List Int) : Nat := xs.foldl (fun m k => m ||| 2 ^ k.toNat) 0
theorem maskOf_app (xs : List Int) (k : Int) : maskOf (xs ++ [k]) = maskOf xs ||| 2 ^ k.toNat := by simp [maskOf, List.foldl_append]
theorem pow_lt (k : Int) (h : okKind k = true) : 2 ^ k.toNat < 2 ^ 10 := by
  simp [okKind] at h
  exact Nat.pow_lt_pow_right (by omega) (by omega)
theorem fold_lt : ∀ (xs : List Int) (m : Nat), okAll xs = true → m < 2 ^ 10 → xs.foldl (fun m k => m ||| 2 ^ k.toNat) m < 2 ^ 10
  | [], m, _, h => h
  | k :: xs, m, h, hm => by
    simp only [okAll, List.all_cons, Bool.and_eq_true] at h
    exact fold_lt xs _ h.2 (Nat.or_lt_two_pow hm (pow_lt k h.1))
theorem maskOf_lt (xs : List Int) (h : okAll xs = true) : maskOf xs < 1024 := fold_lt xs 0 h (by omega)
theorem okAll_take (xs : List Int) (k : Nat) (h : okAll (xs.take k) = true) (hk : k < xs.length) (hx : okKind xs[k] = true) : okAll (xs.take (k + 1)) = true := by
  unfold okAll at *
  rw [List.take_succ_eq_append_getElem hk, List.all_append, h]
  simp [hx]
theorem okAll_not (xs : List Int) (k : Nat) (hk : k < xs.length) (hx : okKind xs[k] = false) : okAll xs = false := by
  rw [okAll, List.all_eq_false]
  exact ⟨_, List.getElem_mem hk, by simp [hx]⟩

/-- What Of answers. -/
def ofR (xs : List Int) (e : Value) : Value := if okAll xs then .tuple #[mk (maskOf xs), .nilIface] else .tuple #[mk 0, e]
theorem ofR_yes {xs : List Int} (e : Value) (h : okAll xs = true) : ofR xs e = .tuple #[mk (maskOf xs), .nilIface] := by simp [ofR, h]
theorem ofR_no {xs : List Int} (e : Value) (h : okAll xs = false) : ofR xs e = .tuple #[mk 0, e] := by simp [ofR, h]

set_option maxRecDepth 100000 in
theorem of_any (v : Value) (xs : List Int) (w : World) (hr : Ints w v xs) (hl : xs.length ≤ 9223372036854775807) (e : Value) (he : w.cell? ⟨4, 0, none⟩ = some e) :
    Calls Tryd.prog 43 #[v] w fun r w' => r = .returned (ofR xs e) ∧ Same w w' := by
  obtain ⟨a, c, rfl⟩ := hr.slice
  have HR := hid hr
  obtain ⟨n, hn⟩ : ∃ n, n = xs.length := ⟨_, rfl⟩
  rw [← hn] at hl
  have HN := hid hn
  simp only [← hn] at HR ⊢
  clear hr hn
  go_enter Tryd.func43, Tryd.ntmps43
  go_wp2_with fail
  go_loop [4, 10] (fun mv iv => ∃ k : Nat, k ≤ n ∧ iv = .int .i64 k ∧ mv = mk (maskOf (xs.take k)) ∧ okAll (xs.take k) = true) (fun _ iv => n - (intOf iv).toNat)
  case atStart => exact ⟨0, Nat.zero_le _, rfl, rfl, rfl⟩
  case round =>
    obtain ⟨k, hk, rfl, rfl, hok⟩ := hrel
    have HOK := hid hok
    clear hok
    by_cases hlt : k < n
    · have hkx : k < xs.length := by have := HN.out; omega
      obtain ⟨b, off, cap, e1, hb, hcl⟩ := HR.out.open (by omega)
      cases e1
      have g := hcl k (.int .i64 xs[k]) (by simp [hkx])
      cases hok1 : okKind xs[k] with
      | true =>
        have HNX := hid (okAll_take xs k HOK.out hkx hok1)
        have HTK := hid (show maskOf (xs.take (k + 1)) = maskOf (xs.take k) ||| 2 ^ xs[k].toNat by rw [List.take_succ_eq_append_getElem hkx, maskOf_app])
        have hm := maskOf_lt _ HOK.out
        clear hcl
        generalize xs[k] = x at *
        simp [okKind] at hok1
        obtain ⟨y, rfl⟩ := Int.eq_ofNat_of_zero_le hok1.1
        have hy : y < 10 := by omega
        have hpos : 0 < 2 ^ y := Nat.pow_pos (by omega)
        have hpl : 2 ^ y < 1024 := Nat.pow_lt_pow_right (n := 10) (by omega) hy
        rw [show ((y : Int).toNat) = y by omega] at HTK
        have hor := u64_or_nat (maskOf (xs.take k)) (2 ^ y) (by omega) (by omega)
        generalize hp : 2 ^ y = p at *
        generalize hmm : maskOf (xs.take k) = m at *
        have HP := hid hp
        have HMM := hid hmm
        clear hp hmm hok1
        go_wp2_with (go_at_call 61; refine (bit_yes y hy _).mono ?_; rintro r w1 ⟨rfl, rfl⟩; rw [HP.out])
        go_round
        case rel => exact ⟨k + 1, by omega, by go_num, by rw [HTK.out], HNX.out⟩
        case measure => simp [intOf]; omega
      | false =>
        have hno := okAll_not xs k hkx hok1
        clear hcl
        generalize xs[k] = x at *
        simp [okKind] at hok1
        have hx : x < 0 ∨ 10 ≤ x := by
          rcases Int.lt_or_le x 0 with h | h
          · exact .inl h
          · exact .inr (hok1 h)
        clear hok1
        go_wp2_with (go_at_call 61; refine (bit_no x hx _).mono ?_; rintro r w1 ⟨rfl, rfl⟩)
        go_quiet (fail)
        go_wp2
        go_ret2
        rw [ofR_no e hno]
        exact ⟨rfl, (Chg.refl _).drewN _⟩
    · have hke : xs.take k = xs := List.take_of_length_le (by have := HN.out; omega)
      have hok2 := HOK.out
      rw [hke] at hok2
      go_wp2
      go_ret2
      rw [ofR_yes e hok2]
      exact ⟨rfl, Chg.refl _⟩

theorem count9 (w : World) : Calls Tryd.prog 34 #[mk 9] w fun r w' => r = .returned (.int .i64 2) ∧ w = w' := by
  go_enter Tryd.func34, Tryd.ntmps34
  go_wp2
  go_ret
  exact ⟨ret_int (by kernel_rfl), rfl⟩

set_option maxRecDepth 100000 in
theorem alive (w : World) (e : Value) (he : w.cell? ⟨4, 0, none⟩ = some e) : Calls Tryd.prog 22 #[] w fun r w' => r = .returned (.bool true) ∧ Same w w' := by
  have hs0 : ∀ o, Same w (w.alloc o) := fun o => (Chg.refl _).alloc o
  have HS0 := hid hs0
  clear hs0
  go_enter Tryd.func22, Tryd.ntmps22
  go_wp2_with fail
  refine (of_any _ [0, 3] _ (reads_lit #[.int .i64 0, .int .i64 3] 3 2 1 (by omega) rfl) (by simp) e ((HS0.out _).keep he)).mono ?_
  rintro r w1 ⟨rfl, hs1⟩
  have S1 := hid ((HS0.out _).trans hs1 (fun _ _ f => f))
  rw [ofR_yes e (by decide), show maskOf [0, 3] = 9 from by decide]
  clear hs1
  go_wp2_with fail
  refine (fits_any 9 1 4 (by decide) (by decide) (by decide) _).mono ?_
  rintro r w2 ⟨rfl, rfl⟩
  rw [show fits 9 1 4 = true from by decide]
  go_wp2_with fail
  refine (count9 _).mono ?_
  rintro r w2 ⟨rfl, rfl⟩
  go_wp2
  go_ret
  exact ⟨rfl, S1.out⟩
end Go.Proofs.YtkjecihiipjngaaDoor.Mask
