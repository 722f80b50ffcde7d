/-
  Masks: of, with, kinds, each by its contract.
-/
import Derived.Lib.TrailingZeros
import Derived.Laws.BitsAllLaws
import Derived.Laws.Bits64b
import Derived.Test.YtegcnkcjmebheaaDoorProg
import Derived.Test.YtegcnkcjmebheaaDoorStar
import Derived.Test.YtegcnkcjmebheaaDoorArr
namespace Go.Proofs.YtegcnkcjmebheaaDoor.Mask
open Go Go.RowKit

/-- A mask's value. -/
abbrev mk (m : Nat) : Value := .int .u64 m

abbrev top : Nat := 18446744073709551615

theorem bit_no (k : Int) (hk : k < 0 ∨ 10 ≤ k) (w : World) : Calls Tryd.prog 69 #[.int .i64 k] w fun r w' => r = .returned (mk 0) ∧ w = w' := by
  go_enter Tryd.func69, Tryd.ntmps69
  rcases hk with h | h
  · go_wp2
    go_ret
    exact ⟨rfl, rfl⟩
  · by_cases h2 : k < 0
    · omega
    · go_wp2
      go_ret
      exact ⟨rfl, rfl⟩

theorem bit_yes (k : Nat) (hk : k < 10) (w : World) : Calls Tryd.prog 69 #[.int .i64 k] w fun r w' => r = .returned (mk (2 ^ k)) ∧ w = w' := by
  have hn : ¬ ((k : Int) < 0) := by omega
  have hn2 : ¬ ((10 : Int) ≤ k) := by omega
  have hp : IntKind.u64.wrap (2 ^ k) = ((2 ^ k : Nat) : Int) := by
    rcases k with _ | _ | _ | _ | _ | _ | _ | _ | _ | _ | k
    all_goals first | rfl | omega
  go_enter Tryd.func69, Tryd.ntmps69
  go_wp2
  go_ret
  refine ⟨?_, rfl⟩
  show Ending.returned (.int .u64 ((2 : Int) ^ k)) = _
  rw [show ((2 : Int) ^ k) = ((2 ^ k : Nat) : Int) from (Int.natCast_pow 2 k).symm]

def okKind (k : Int) : Bool := decide (0 ≤ k) && decide (k < 10)

def okAll (xs : List Int) : Bool := xs.all okKind

def maskOf (xs : List Int) : Nat := xs.foldl (fun m k => m ||| 2 ^ k.toNat) 0

theorem maskOf_app (xs : List Int) (k : Int) : maskOf (xs ++ [k]) = maskOf xs ||| 2 ^ k.toNat := by simp [maskOf, List.foldl_append]

theorem pow_lt (k : Int) (h : okKind k = true) : 2 ^ k.toNat < 2 ^ 10 := by
  simp [okKind] at h
  exact Nat.pow_lt_pow_right (by omega) (by omega)

theorem fold_lt : ∀ (xs : List Int) (m : Nat), okAll xs = true → m < 2 ^ 10 → xs.foldl (fun m k => m ||| 2 ^ k.toNat) m < 2 ^ 10
  | [], m, _, h => h
  | k :: xs, m, h, hm => by
    simp only [okAll, List.all_cons, Bool.and_eq_true] at h
    exact fold_lt xs _ h.2 (Nat.or_lt_two_pow hm (pow_lt k h.1))

theorem maskOf_lt (xs : List Int) (h : okAll xs = true) : maskOf xs < 1024 := fold_lt xs 0 h (by omega)

theorem okAll_take (xs : List Int) (k : Nat) (h : okAll (xs.take k) = true) (hk : k < xs.length) (hx : okKind xs[k] = true) : okAll (xs.take (k + 1)) = true := by
  unfold okAll at *
  rw [List.take_succ_eq_append_getElem hk, List.all_append, h]
  simp [hx]

theorem okAll_not (xs : List Int) (k : Nat) (hk : k < xs.length) (hx : okKind xs[k] = false) : okAll xs = false := by
  rw [okAll, List.all_eq_false]
  exact ⟨_, List.getElem_mem hk, by simp [hx]⟩

/-- What Of answers. -/
def ofR (xs : List Int) (e : Value) : Value := if okAll xs then .tuple #[mk (maskOf xs), .nilIface] else .tuple #[mk 0, e]

theorem ofR_yes {xs : List Int} (e : Value) (h : okAll xs = true) : ofR xs e = .tuple #[mk (maskOf xs), .nilIface] := by simp [ofR, h]

theorem ofR_no {xs : List Int} (e : Value) (h : okAll xs = false) : ofR xs e = .tuple #[mk 0, e] := by simp [ofR, h]

set_option maxRecDepth 100000 in
theorem of_any (v : Value) (xs : List Int) (w : World) (hr : Ints w v xs) (hl : xs.length ≤ 9223372036854775807) (e : Value) (he : w.cell? ⟨0, 0, none⟩ = some e) :
    Calls Tryd.prog 68 #[v] w fun r w' => r = .returned (ofR xs e) ∧ Same w w' := by
  obtain ⟨a, c, rfl⟩ := hr.slice
  have HR := hid hr
  obtain ⟨n, hn⟩ : ∃ n, n = xs.length := ⟨_, rfl⟩
  rw [← hn] at hl
  have HN := hid hn
  simp only [← hn] at HR ⊢
  clear hr hn
  go_enter Tryd.func68, Tryd.ntmps68
  go_wp2_with fail
  go_loop [4, 10] (fun mv iv => ∃ k : Nat, k ≤ n ∧ iv = .int .i64 k ∧ mv = mk (maskOf (xs.take k)) ∧ okAll (xs.take k) = true) (fun _ iv => n - (intOf iv).toNat)
  case atStart => exact ⟨0, Nat.zero_le _, rfl, rfl, rfl⟩
  case round =>
    obtain ⟨k, hk, rfl, rfl, hok⟩ := hrel
    have HOK := hid hok
    clear hok
    by_cases hlt : k < n
    · have hkx : k < xs.length := by have := HN.out; omega
      obtain ⟨b, off, cap, e1, hb, hcl⟩ := HR.out.open (by omega)
      cases e1
      have g := hcl k (.int .i64 xs[k]) (by simp [hkx])
      cases hok1 : okKind xs[k] with
      | true =>
        have HNX := hid (okAll_take xs k HOK.out hkx hok1)
        have HTK := hid (show maskOf (xs.take (k + 1)) = maskOf (xs.take k) ||| 2 ^ xs[k].toNat by rw [List.take_succ_eq_append_getElem hkx, maskOf_app])
        have hm := maskOf_lt _ HOK.out
        clear hcl
        generalize xs[k] = x at *
        simp [okKind] at hok1
        obtain ⟨y, rfl⟩ := Int.eq_ofNat_of_zero_le hok1.1
        have hy : y < 10 := by omega
        have hpos : 0 < 2 ^ y := Nat.pow_pos (by omega)
        have hpl : 2 ^ y < 1024 := Nat.pow_lt_pow_right (n := 10) (by omega) hy
        rw [show ((y : Int).toNat) = y by omega] at HTK
        have hor := u64_or_nat (maskOf (xs.take k)) (2 ^ y) (by omega) (by omega)
        generalize hp : 2 ^ y = p at *
        generalize hmm : maskOf (xs.take k) = m at *
        have HP := hid hp
        have HMM := hid hmm
        clear hp hmm hok1
        go_wp2_with (go_at_call 69; refine (bit_yes y hy _).mono ?_; rintro r w1 ⟨rfl, rfl⟩; rw [HP.out])
        go_round
        case rel => exact ⟨k + 1, by omega, by go_num, by rw [HTK.out], HNX.out⟩
        case measure => simp [intOf]; omega
      | false =>
        have hno := okAll_not xs k hkx hok1
        clear hcl
        generalize xs[k] = x at *
        simp [okKind] at hok1
        have hx : x < 0 ∨ 10 ≤ x := by
          rcases Int.lt_or_le x 0 with h | h
          · exact .inl h
          · exact .inr (hok1 h)
        clear hok1
        go_wp2_with (go_at_call 69; refine (bit_no x hx _).mono ?_; rintro r w1 ⟨rfl, rfl⟩)
        go_quiet (fail)
        go_wp2
        go_ret2
        rw [ofR_no e hno]
        exact ⟨rfl, (Chg.refl _).drewN _⟩
    · have hke : xs.take k = xs := List.take_of_length_le (by have := HN.out; omega)
      have hok2 := HOK.out
      rw [hke] at hok2
      go_wp2
      go_ret2
      rw [ofR_yes e hok2]
      exact ⟨rfl, Chg.refl _⟩

/-- The places of the bits that are set. -/
def bitsOf (n : Nat) : List Nat := (List.range 64).filter n.testBit

theorem mem_bitsOf (n i : Nat) : i ∈ bitsOf n ↔ i < 64 ∧ n.testBit i = true := by simp [bitsOf]

theorem bitsOf_zero : bitsOf 0 = [] := by simp [bitsOf]

theorem low_bit (k q : Nat) (i : Nat) : ((2 ^ k * (2 * q + 1)) &&& (2 ^ k * (2 * q + 1) - 1)).testBit i = ((2 ^ k * (2 * q + 1)).testBit i && decide (i ≠ k)) := by
  have hp : 0 < 2 ^ k := Nat.pow_pos (by omega)
  have e1 : 2 ^ k * (2 * q + 1) - 1 = 2 ^ k * (2 * q) + (2 ^ k - 1) := by rw [Nat.mul_add, Nat.mul_one]; omega
  have e2 : 2 ^ k * (2 * q + 1) = 2 ^ k * (2 * q + 1) + 0 := rfl
  rw [Nat.testBit_and, e1]
  rw [Nat.testBit_two_pow_mul_add _ (by omega : 2 ^ k - 1 < 2 ^ k)]
  conv => lhs; rw [e2, Nat.testBit_two_pow_mul_add _ hp]
  conv => rhs; rw [e2, Nat.testBit_two_pow_mul_add _ hp]
  by_cases h : i < k
  · simp [h]
  · rw [if_neg h, if_neg h]
    rcases Nat.lt_trichotomy i k with h1 | h1 | h1
    · omega
    · subst h1; simp
    · obtain ⟨j, rfl⟩ : ∃ j, i = k + (j + 1) := ⟨i - k - 1, by omega⟩
      have e : k + (j + 1) - k = j + 1 := by omega
      rw [e, Nat.testBit_succ, Nat.testBit_succ]
      have : (2 * q + 1) / 2 = q := by omega
      have h2 : 2 * q / 2 = q := by omega
      rw [this, h2]
      have hne : k + (j + 1) ≠ k := by omega
      simp

theorem filter_first (p p' : Nat → Bool) (k : Nat) (hk : k < 64) (h0 : ∀ i, i < k → p i = false) (h1 : p k = true) (h' : ∀ i, p' i = (p i && decide (i ≠ k))) : (List.range 64).filter p = k :: (List.range 64).filter p' := by
  obtain ⟨d, hd⟩ : ∃ d, 64 = k + (d + 1) := ⟨63 - k, by omega⟩
  rw [hd, List.range_add, List.filter_append, List.filter_append]
  have e1 : (List.range k).filter p = [] := List.filter_eq_nil_iff.2 (fun i hi => by rw [h0 i (List.mem_range.1 hi)]; simp)
  have e2 : (List.range k).filter p' = [] := List.filter_eq_nil_iff.2 (fun i hi => by rw [h', h0 i (List.mem_range.1 hi)]; simp)
  rw [e1, e2, List.nil_append, List.nil_append, List.range_succ_eq_map, List.map_cons, Nat.add_zero, List.filter_cons, List.filter_cons, if_pos h1, if_neg (by rw [h']; simp)]
  congr 1
  apply List.filter_congr
  intro i hi
  simp only [List.map_map, List.mem_map, List.mem_range, Function.comp] at hi
  obtain ⟨j, _, rfl⟩ := hi
  rw [h']
  have : k + (j + 1) ≠ k := by omega
  simp

theorem bitsOf_step (x : Nat) (hx : x ≤ top) (h0 : x ≠ 0) : bitsOf x = Lib.ctz 64 x :: bitsOf (x &&& (x - 1)) ∧ Lib.ctz 64 x < 64 ∧ (x &&& (x - 1)) < x := by
  have hlt : x < 2 ^ 64 := by unfold top at hx; omega
  have hc : Lib.ctz 64 x = Lib.ctzFrom 64 x := by unfold Lib.ctz; rw [if_neg h0]
  obtain ⟨q, hq, hk⟩ := Lib.ctzFrom_spec 64 x (by omega) hlt
  rw [hc]
  generalize Lib.ctzFrom 64 x = k at *
  have hp : 0 < 2 ^ k := Nat.pow_pos (by omega)
  refine ⟨?_, hk, ?_⟩
  · unfold bitsOf
    refine filter_first _ _ k hk (fun i hi => ?_) ?_ (fun i => ?_)
    · rw [hq, show 2 ^ k * (2 * q + 1) = 2 ^ k * (2 * q + 1) + 0 from rfl, Nat.testBit_two_pow_mul_add _ hp, if_pos hi, Nat.zero_testBit]
    · rw [hq, show 2 ^ k * (2 * q + 1) = 2 ^ k * (2 * q + 1) + 0 from rfl, Nat.testBit_two_pow_mul_add _ hp, if_neg (by omega), Nat.sub_self]; simp
    · rw [hq]; exact low_bit k q i
  · have := Nat.and_le_right (n := x) (m := x - 1)
    omega

theorem bitsOf_len (n : Nat) : (bitsOf n).length ≤ 64 := by
  have := List.length_filter_le n.testBit (List.range 64)
  simpa [bitsOf] using this

/-! How many bits: byte by byte. -/

theorem tz_key (x a : Nat) (hx : x < 18446744073709551616) (hx0 : x ≠ 0) (hlow : x &&& (18446744073709551616 - x) = a) :
    IntKind.u64.wrap (bits BinOp.and IntKind.u64 (x : Int) (IntKind.u64.wrap (-(x : Int))) * 285870213051353865) / 288230376151711744 = ((a * 285870213051353865 % 18446744073709551616 / 288230376151711744 : Nat) : Int) := by
  have e1 : IntKind.u64.wrap (-(x : Int)) = ((18446744073709551616 - x : Nat) : Int) := by rw [IntKind.wrap_u64]; omega
  rw [e1, bits_and_u64_nat x _ hx (by omega), hlow, IntKind.wrap_u64]
  omega

/-- The library's table. -/
def Tab (w : World) : Prop := ∀ j, j < 64 → w.cell? ⟨10, j, none⟩ = some (.int .u8 (Lib.deBruijn64tab.getD j 0))

theorem Tab.same {w w' : World} (h : Tab w) (hs : Same w w') : Tab w' := fun j hj => hs.keep (h j hj)

set_option maxRecDepth 100000 in
theorem tz_core (x k idx : Nat) (w : World) (hx0 : ((x : Int) == 0) = false)
    (key : IntKind.u64.wrap (bits BinOp.and IntKind.u64 (x : Int) (IntKind.u64.wrap (-(x : Int))) * 285870213051353865) / 288230376151711744 = (idx : Int))
    (hi : idx < 64) (hk : k < 64) (hcell : w.cell? ⟨10, idx, none⟩ = some (.int .u8 k)) : Calls Tryd.prog 55 #[mk x] w fun r w' => r = .returned (.int .i64 k) ∧ w = w' := by
  go_enter Tryd.func55, Tryd.ntmps55
  go_wp2_with (simp only [key])
  go_ret
  exact ⟨rfl, rfl⟩

theorem tz_any (x : Nat) (hx : x ≤ top) (h0 : x ≠ 0) (w : World) (hT : Tab w) : Calls Tryd.prog 55 #[mk x] w fun r w' => r = .returned (.int .i64 (Lib.ctz 64 x)) ∧ w = w' := by
  have hlt : x < 2 ^ 64 := by unfold top at hx; omega
  obtain ⟨hlow, hk⟩ := Lib.lowest_bit 64 x h0 hlt
  obtain ⟨hi, htab⟩ := Lib.deBruijn64_at _ hk
  have hcell := hT _ hi
  rw [htab] at hcell
  exact tz_core x _ _ w (by simp; omega) (tz_key x _ hlt h0 hlow) hi hk hcell

theorem infoI : (Tryd.prog.info? 3).map (fun i => (i.zero, i.size, i.bytes)) = some (some (.int .i64 0), 1, 8) := by kernel_rfl

def nI (l : List Nat) : List Value := l.map (fun i : Nat => Value.int .i64 (i : Int))

theorem nI_one (l : List Nat) : ∀ u ∈ nI l, u.oneCell' = true := by intro u hu; simp [nI] at hu; obtain ⟨i, _, rfl⟩ := hu; rfl

/-- A row of whole numbers of the call's own. -/
abbrev natRow (v : Value) (l : List Nat) : Res := Row 3 1 v l.length (nI l)

set_option maxRecDepth 100000 in
set_option maxHeartbeats 1000000 in
theorem kinds_any {w0 w : World} {L : List Res} (X : Star w0 w L) (m : Nat) (hm : m ≤ top) (hT : Tab w0) :
    Calls Tryd.prog 34 #[mk m] w fun r w' => ∃ v, r = .returned v ∧ Star w0 w' (natRow v (bitsOf m) :: L) := by
  obtain ⟨i0, hi0, hz0, hz1, hz2⟩ := info_parts infoI
  have HT := hid hT
  have X0 := hid X
  clear hT X
  go_enter Tryd.func34, Tryd.ntmps34
  go_wp2
  go_loopw [3, 4] (fun v rv wr => ∃ (x : Nat) (l : List Nat), x ≤ top ∧ rv = mk x ∧ l ++ bitsOf x = bitsOf m ∧ Star w0 wr (natRow v l :: L)) (fun _ rv _ => (intOf rv).toNat)
  case atStart => exact ⟨m, [], hm, rfl, rfl, X0.out.nilRow _ _⟩
  case round =>
    obtain ⟨x, l, hx, rfl, hl, hZ⟩ := hrel
    have Z := hid hZ
    have HL := hid hl
    obtain ⟨a, cp, e, _⟩ := own_slice (hZ.row 0 rfl).1
    subst e
    have hrow := hid (hZ.row 0 rfl).1
    have hll : l.length ≤ 64 := by
      have h1 := bitsOf_len m
      rw [← hl, List.length_append] at h1
      omega
    generalize hn : l.length = n at *
    have HN := hid hn
    clear hZ X0 hl hn
    by_cases h0 : x = 0
    · subst h0
      go_wp2
      go_ret
      have e := HL.out
      rw [bitsOf_zero, List.append_nil] at e
      have h := Z.out
      subst e
      exact ⟨_, rfl, h⟩
    · obtain ⟨hb, hk, hlt⟩ := bitsOf_step x hx h0
      have hand := u64_and_nat x (x - 1) (by unfold top at hx; omega) (by unfold top at hx; omega)
      have hsub : ((x - 1 : Nat) : Int) = (x : Int) - 1 := by omega
      rw [hsub] at hand
      have hle : (x &&& (x - 1)) ≤ top := by omega
      have hne : ((x : Int) != 0) = true := by simp; omega
      have hx1 : (1 : Int) ≤ x := by omega
      have HB := hid hb
      have TZ := hid (fun w (hT : Tab w) => tz_any x hx h0 w hT)
      unfold top at hx
      clear hb h0 hsub
      generalize Lib.ctz 64 x = k at *
      generalize (x &&& (x - 1)) = y at *
      go_wp2_with (first
        | (go_at_call 55; refine (TZ.out _ (HT.out.same Z.out.same)).mono ?_; rintro r w1 ⟨rfl, rfl⟩)
        | (at_builtin; refine wpList_app rfl _ _ 22 rfl 3 i0 (.int .i64 0) 1 8 Tryd.underlying22 hi0 hz0 hz1 hz2 rfl (by decide) (.slice a n cp) n (nI l) rfl (own_chg (S := fun _ => False) hrow.out ((Chg.refl _).alloc _) (fun _ _ f => f)) (some _) 1 1 [.int .i64 k] rfl (reads_blk (cs := #[.int .i64 k]) (E := 3) (f := (0, 0)) (alloc_new _ _) 1 1 1 rfl) (by intro u hu; simp at hu; subst hu; rfl) (by omega) (by omega) ?_; intro a7 c7 w7 ho7 hg7 hn7; have Z7 := hid ((Z.out.go ((Chg.refl _).alloc _)).grown 0 rfl ho7 hg7 hn7); clear ho7 hg7 hn7))
      go_roundw
      case rel =>
        refine ⟨y, l ++ [k], hle, rfl, ?_, ?_⟩
        · rw [List.append_assoc, List.singleton_append, ← HB.out]; exact HL.out
        · have h := Z7.out
          have e1 : nI l ++ [.int .i64 k] = nI (l ++ [k]) := by simp [nI]
          have e2 : n + 1 = (l ++ [k]).length := by rw [List.length_append, HN.out]; rfl
          rw [e1] at h
          generalize n + 1 = n1 at *
          subst e2
          exact h
      case measure => simp [intOf]; omega

/-- What With, Without answer. -/
def chR (xs : List Int) (n : Nat) (e : Value) : Value := if okAll xs then .tuple #[mk n, .nilIface] else .tuple #[mk 0, e]

theorem chR_yes {xs : List Int} (n : Nat) (e : Value) (h : okAll xs = true) : chR xs n e = .tuple #[mk n, .nilIface] := by simp [chR, h]

theorem chR_no {xs : List Int} (n : Nat) (e : Value) (h : okAll xs = false) : chR xs n e = .tuple #[mk 0, e] := by simp [chR, h]

theorem with1 (m n : Nat) (hm : m ≤ top) (hn : n ≤ top) (w : World) : Calls Tryd.prog 66 #[mk m, mk n] w fun r w' => r = .returned (mk (m ||| n)) ∧ w = w' := by
  have hor := u64_or_nat m n (by unfold top at hm; omega) (by unfold top at hn; omega)
  go_enter Tryd.func66, Tryd.ntmps66
  go_wp2
  go_ret
  exact ⟨rfl, rfl⟩

set_option maxRecDepth 100000 in
theorem with_change (m : Nat) (hm : m ≤ top) (v : Value) (xs : List Int) (w : World) (hr : Ints w v xs) (hl : xs.length ≤ 9223372036854775807) (T : TypeId) (u : Addr) (he : w.cell? ⟨0, 0, none⟩ = some (.iface T (.pointer (some u)))) :
    Calls Tryd.prog 65 #[mk m, .func (.func 66) #[] #[], v] w fun r w' => r = .returned (chR xs (m ||| maskOf xs) (.iface T (.pointer (some u)))) ∧ Same w w' := by
  obtain ⟨a, c, rfl⟩ := hr.slice
  have HR := hid hr
  have HE := hid he
  obtain ⟨n, hn⟩ : ∃ n, n = xs.length := ⟨_, rfl⟩
  simp only [← hn] at HR ⊢
  rw [← hn] at hl
  have HL := hid (hn ▸ hl : xs.length ≤ 9223372036854775807)
  clear hr he hn
  go_enter Tryd.func65, Tryd.ntmps65
  cases hok : okAll xs with
  | true =>
    have hml := maskOf_lt xs hok
    have HOK := hid hok
    clear hok
    go_wp2_with fail
    refine (of_any _ xs _ HR.out HL.out _ HE.out).mono ?_
    rintro r w1 ⟨rfl, hs⟩
    rw [ofR_yes _ HOK.out]
    have HS := hid hs
    clear hs
    go_wp2_with fail
    refine (with1 m (maskOf xs) hm (by unfold top; omega) _).mono ?_
    rintro r w2 ⟨rfl, rfl⟩
    go_wp2
    go_ret2
    exact ⟨by rw [chR_yes _ _ HOK.out]; rfl, HS.out⟩
  | false =>
    have HOK := hid hok
    clear hok
    go_wp2_with fail
    refine (of_any _ xs _ HR.out HL.out _ HE.out).mono ?_
    rintro r w1 ⟨rfl, hs⟩
    rw [ofR_no _ HOK.out]
    have HS := hid hs
    clear hs
    go_wp2
    go_ret2
    exact ⟨by rw [chR_no _ _ HOK.out]; rfl, HS.out⟩

set_option maxRecDepth 100000 in
theorem with_any (m : Nat) (hm : m ≤ top) (v : Value) (xs : List Int) (w : World) (hr : Ints w v xs) (hl : xs.length ≤ 9223372036854775807) (T : TypeId) (u : Addr) (he : w.cell? ⟨0, 0, none⟩ = some (.iface T (.pointer (some u)))) :
    Calls Tryd.prog 56 #[mk m, v] w fun r w' => r = .returned (chR xs (m ||| maskOf xs) (.iface T (.pointer (some u)))) ∧ Same w w' := by
  obtain ⟨a, c, rfl⟩ := hr.slice
  go_enter Tryd.func56, Tryd.ntmps56
  have H := hid (with_change m hm _ xs w hr hl T u he)
  clear hr hl he hm
  cases hok : okAll xs with
  | true =>
    rw [chR_yes _ _ hok] at *
    clear hok
    go_wp2_with fail
    refine H.out.mono ?_
    rintro r w1 ⟨rfl, hs⟩
    have HS := hid hs
    clear hs H
    go_wp2
    go_ret2
    exact ⟨rfl, HS.out⟩
  | false =>
    rw [chR_no _ _ hok] at *
    clear hok
    go_wp2_with fail
    refine H.out.mono ?_
    rintro r w1 ⟨rfl, hs⟩
    have HS := hid hs
    clear hs H
    go_wp2
    go_ret2
    exact ⟨rfl, HS.out⟩

set_option maxRecDepth 100000 in
theorem right_any (m : Nat) (w : World) : Calls Tryd.prog 32 #[mk m] w fun r w' => r = .returned (.bool (decide (m < 1024))) ∧ w = w' := by
  go_enter Tryd.func32, Tryd.ntmps32
  go_wp2
  go_ret
  refine ⟨ret_bool ?_, rfl⟩
  rw [Bool.eq_iff_iff]
  simp
  omega
end Go.Proofs.YtegcnkcjmebheaaDoor.Mask
