/-
  Package schema: ranges, Check.
-/
import Derived.Test.YtegcnkcjmebheaaDoorTabMask
import Derived.Test.YtegcnkcjmebheaaDoorEnt
import Derived.Test.YtegcnkcjmebheaaDoorErr
namespace Go.Proofs.YtegcnkcjmebheaaDoor.Err
open Go Go.RowKit
/-- The four errors that tables need. -/
structure ErrsT (w : World) (ad : Nat → Addr) : Prop where
  c0 : w.cell? ⟨2, 0, none⟩ = some (.iface 143 (.pointer (some (ad 0))))
  c1 : w.cell? ⟨3, 0, none⟩ = some (.iface 143 (.pointer (some (ad 1))))
  c4 : w.cell? ⟨0, 0, none⟩ = some (.iface 143 (.pointer (some (ad 4))))
  c6 : w.cell? ⟨1, 0, none⟩ = some (.iface 143 (.pointer (some (ad 6))))
theorem ErrsT.same {w w' : World} {ad : Nat → Addr} (h : ErrsT w ad) (hs : Same w w') : ErrsT w' ad := ⟨hs.keep h.c0, hs.keep h.c1, hs.keep h.c4, hs.keep h.c6⟩
theorem Errs.tab {w : World} {ad : Nat → Addr} (h : Errs w ad) : ErrsT w ad := ⟨h.c0, h.c1, h.c4, h.c6⟩
theorem errsT_of {w : World} {a0 a1 a4 a6 : Addr} (h0 : w.cell? ⟨2, 0, none⟩ = some (.iface 143 (.pointer (some a0))))
    (h1 : w.cell? ⟨3, 0, none⟩ = some (.iface 143 (.pointer (some a1)))) (h4 : w.cell? ⟨0, 0, none⟩ = some (.iface 143 (.pointer (some a4))))
    (h6 : w.cell? ⟨1, 0, none⟩ = some (.iface 143 (.pointer (some a6)))) : ∃ ad, ErrsT w ad :=
  ⟨fun k => match k with | 0 => a0 | 1 => a1 | 4 => a4 | _ => a6, h0, h1, h4, h6⟩
end Go.Proofs.YtegcnkcjmebheaaDoor.Err
namespace Go.Proofs.YtegcnkcjmebheaaDoor.Tab
open Go Go.RowKit Go.Proofs.YtegcnkcjmebheaaDoor.Mask

/-- The spans of a kind's two numbers. -/
def spanA (k : Int) : Int × Int := if k = 0 ∨ k = 2 then (-1048576, 1048576) else if k = 1 then (0, 1048576) else if k = 3 then (0, 0) else if k = 4 then (0, 255) else if k = 5 then (0, 1048576) else if 6 ≤ k ∧ k ≤ 9 then (-4194304, 4194304) else (0, 0)
def spanB (k : Int) : Int × Int := if k = 0 ∨ k = 2 then (-1048576, 1048576) else if k = 1 then (0, 1048576) else if 6 ≤ k ∧ k ≤ 9 then (-4194304, 4194304) else (0, 0)
def inS (s : Int × Int) (n : Int) : Bool := decide (s.1 ≤ n) && decide (n ≤ s.2)
/-- The number of a component's error; 0: it has none. -/
def chkN (v : Vl) : Nat := if okKind v.k then if inS (spanA v.k) v.a && inS (spanB v.k) v.b then 0 else 1 else 5
abbrev sp (s : Int × Int) : Value := .agg #[.int .i64 s.1, .int .i64 s.2]
theorem kind_cases (k : Int) : k < 0 ∨ 10 ≤ k ∨ k = 0 ∨ k = 2 ∨ k = 1 ∨ k = 3 ∨ k = 4 ∨ k = 5 ∨ (6 ≤ k ∧ k ≤ 9) := by omega

set_option maxRecDepth 100000 in
set_option maxHeartbeats 4000000 in
theorem ranges_any (k : Int) (w : World) : Calls Tryd.prog 58 #[.int .i64 k] w fun r w' => r = .returned (.tuple #[sp (spanA k), sp (spanB k), .bool (okKind k)]) ∧ Same w w' := by
  rcases kind_cases k with h | h | rfl | rfl | rfl | rfl | rfl | rfl | h
  · have E1 := hid (show spanA k = (0, 0) by unfold spanA; rw [if_neg (by omega), if_neg (by omega), if_neg (by omega), if_neg (by omega), if_neg (by omega), if_neg (by omega)])
    have E2 := hid (show spanB k = (0, 0) by unfold spanB; rw [if_neg (by omega), if_neg (by omega), if_neg (by omega)])
    have E3 := hid (show okKind k = false by unfold okKind; simp; omega)
    go_enter Tryd.func58, Tryd.ntmps58
    go_wp2
    go_region
    all_goals
      go_wp2
      refine bodyPost_ret (v := .tuple #[sp (0, 0), sp (0, 0), .bool false]) (by simp [results, Tryd.results58, go_sem, sp]) rfl ⟨by rw [E1.out, E2.out, E3.out], ?_⟩
      repeat (first | exact Chg.refl _ | refine Chg.drew ?_ | refine Chg.drewN _ ?_ | refine Chg.alloc _ ?_)
  · have E1 := hid (show spanA k = (0, 0) by unfold spanA; rw [if_neg (by omega), if_neg (by omega), if_neg (by omega), if_neg (by omega), if_neg (by omega), if_neg (by omega)])
    have E2 := hid (show spanB k = (0, 0) by unfold spanB; rw [if_neg (by omega), if_neg (by omega), if_neg (by omega)])
    have E3 := hid (show okKind k = false by unfold okKind; simp; omega)
    go_enter Tryd.func58, Tryd.ntmps58
    go_wp2
    go_region
    all_goals
      go_wp2
      refine bodyPost_ret (v := .tuple #[sp (0, 0), sp (0, 0), .bool false]) (by simp [results, Tryd.results58, go_sem, sp]) rfl ⟨by rw [E1.out, E2.out, E3.out], ?_⟩
      repeat (first | exact Chg.refl _ | refine Chg.drew ?_ | refine Chg.drewN _ ?_ | refine Chg.alloc _ ?_)
  · have E1 := hid (show spanA 0 = (-1048576, 1048576) by decide)
    have E2 := hid (show spanB 0 = (-1048576, 1048576) by decide)
    have E3 := hid (show okKind 0 = true by decide)
    go_enter Tryd.func58, Tryd.ntmps58
    go_wp2
    refine bodyPost_ret (v := .tuple #[sp (-1048576, 1048576), sp (-1048576, 1048576), .bool true]) (by simp [results, Tryd.results58, go_sem, sp]) rfl ⟨by rw [E1.out, E2.out, E3.out], ?_⟩
    repeat (first | exact Chg.refl _ | refine Chg.drew ?_ | refine Chg.drewN _ ?_ | refine Chg.alloc _ ?_)
  · have E1 := hid (show spanA 2 = (-1048576, 1048576) by decide)
    have E2 := hid (show spanB 2 = (-1048576, 1048576) by decide)
    have E3 := hid (show okKind 2 = true by decide)
    go_enter Tryd.func58, Tryd.ntmps58
    go_wp2
    refine bodyPost_ret (v := .tuple #[sp (-1048576, 1048576), sp (-1048576, 1048576), .bool true]) (by simp [results, Tryd.results58, go_sem, sp]) rfl ⟨by rw [E1.out, E2.out, E3.out], ?_⟩
    repeat (first | exact Chg.refl _ | refine Chg.drew ?_ | refine Chg.drewN _ ?_ | refine Chg.alloc _ ?_)
  · have E1 := hid (show spanA 1 = (0, 1048576) by decide)
    have E2 := hid (show spanB 1 = (0, 1048576) by decide)
    have E3 := hid (show okKind 1 = true by decide)
    go_enter Tryd.func58, Tryd.ntmps58
    go_wp2
    refine bodyPost_ret (v := .tuple #[sp (0, 1048576), sp (0, 1048576), .bool true]) (by simp [results, Tryd.results58, go_sem, sp]) rfl ⟨by rw [E1.out, E2.out, E3.out], ?_⟩
    repeat (first | exact Chg.refl _ | refine Chg.drew ?_ | refine Chg.drewN _ ?_ | refine Chg.alloc _ ?_)
  · have E1 := hid (show spanA 3 = (0, 0) by decide)
    have E2 := hid (show spanB 3 = (0, 0) by decide)
    have E3 := hid (show okKind 3 = true by decide)
    go_enter Tryd.func58, Tryd.ntmps58
    go_wp2
    go_region
    all_goals
      go_wp2
      refine bodyPost_ret (v := .tuple #[sp (0, 0), sp (0, 0), .bool true]) (by simp [results, Tryd.results58, go_sem, sp]) rfl ⟨by rw [E1.out, E2.out, E3.out], ?_⟩
      repeat (first | exact Chg.refl _ | refine Chg.drew ?_ | refine Chg.drewN _ ?_ | refine Chg.alloc _ ?_)
  · have E1 := hid (show spanA 4 = (0, 255) by decide)
    have E2 := hid (show spanB 4 = (0, 0) by decide)
    have E3 := hid (show okKind 4 = true by decide)
    go_enter Tryd.func58, Tryd.ntmps58
    go_wp2
    go_region
    all_goals
      go_wp2
      refine bodyPost_ret (v := .tuple #[sp (0, 255), sp (0, 0), .bool true]) (by simp [results, Tryd.results58, go_sem, sp]) rfl ⟨by rw [E1.out, E2.out, E3.out], ?_⟩
      repeat (first | exact Chg.refl _ | refine Chg.drew ?_ | refine Chg.drewN _ ?_ | refine Chg.alloc _ ?_)
  · have E1 := hid (show spanA 5 = (0, 1048576) by decide)
    have E2 := hid (show spanB 5 = (0, 0) by decide)
    have E3 := hid (show okKind 5 = true by decide)
    go_enter Tryd.func58, Tryd.ntmps58
    go_wp2
    go_region
    all_goals
      go_wp2
      refine bodyPost_ret (v := .tuple #[sp (0, 1048576), sp (0, 0), .bool true]) (by simp [results, Tryd.results58, go_sem, sp]) rfl ⟨by rw [E1.out, E2.out, E3.out], ?_⟩
      repeat (first | exact Chg.refl _ | refine Chg.drew ?_ | refine Chg.drewN _ ?_ | refine Chg.alloc _ ?_)
  · have E1 := hid (show spanA k = (-4194304, 4194304) by unfold spanA; rw [if_neg (by omega), if_neg (by omega), if_neg (by omega), if_neg (by omega), if_neg (by omega), if_pos h])
    have E2 := hid (show spanB k = (-4194304, 4194304) by unfold spanB; rw [if_neg (by omega), if_neg (by omega), if_pos h])
    have E3 := hid (show okKind k = true by unfold okKind; simp; omega)
    obtain ⟨h6, h9⟩ := h
    have n0 : (k == 0) = false := by rw [beq_eq_false_iff_ne]; omega
    have n2 : (k == 2) = false := by rw [beq_eq_false_iff_ne]; omega
    have n1 : (k == 1) = false := by rw [beq_eq_false_iff_ne]; omega
    have n3 : (k == 3) = false := by rw [beq_eq_false_iff_ne]; omega
    have n4 : (k == 4) = false := by rw [beq_eq_false_iff_ne]; omega
    have n5 : (k == 5) = false := by rw [beq_eq_false_iff_ne]; omega
    go_enter Tryd.func58, Tryd.ntmps58
    go_wp2
    refine bodyPost_ret (v := .tuple #[sp (-4194304, 4194304), sp (-4194304, 4194304), .bool true]) (by simp [results, Tryd.results58, go_sem, sp]) rfl ⟨by rw [E1.out, E2.out, E3.out], ?_⟩
    repeat (first | exact Chg.refl _ | refine Chg.drew ?_ | refine Chg.drewN _ ?_ | refine Chg.alloc _ ?_)
theorem has_any (s : Int × Int) (n : Int) (w : World) : Calls Tryd.prog 59 #[sp s, .int .i64 n] w fun r w' => r = .returned (.bool (inS s n)) ∧ Same w w' := by
  obtain ⟨lo, hi⟩ := s
  by_cases h1 : lo ≤ n
  · by_cases h2 : n ≤ hi
    · have E := hid (show inS (lo, hi) n = true by simp [inS, h1, h2])
      go_enter Tryd.func59, Tryd.ntmps59
      go_wp2
      go_ret
      exact ⟨ret_bool (by rw [E.out]), (Chg.refl _).alloc _⟩
    · have E := hid (show inS (lo, hi) n = false by simp [inS, h2])
      go_enter Tryd.func59, Tryd.ntmps59
      go_wp2
      go_ret
      exact ⟨ret_bool (by rw [E.out]), (Chg.refl _).alloc _⟩
  · have E := hid (show inS (lo, hi) n = false by simp [inS, h1])
    go_enter Tryd.func59, Tryd.ntmps59
    go_wp2
    go_ret
    exact ⟨ret_bool (by rw [E.out]), (Chg.refl _).alloc _⟩
theorem chk_kind {v : Vl} (h : okKind v.k = false) : chkN v = 5 := by unfold chkN; rw [h]; rfl
theorem chk_range {v : Vl} (h : okKind v.k = true) (h2 : (inS (spanA v.k) v.a && inS (spanB v.k) v.b) = false) : chkN v = 1 := by unfold chkN; rw [h, h2]; rfl
theorem chk_ok {v : Vl} (h : okKind v.k = true) (h1 : inS (spanA v.k) v.a = true) (h2 : inS (spanB v.k) v.b = true) : chkN v = 0 := by unfold chkN; rw [h, h1, h2]; rfl

set_option maxRecDepth 100000 in
set_option maxHeartbeats 4000000 in
theorem check_any (v : Vl) (w : World) (ad : Nat → Addr) (hE : Err.ErrsT w ad) : Calls Tryd.prog 47 #[vV v] w fun r w' => r = .returned (Err.errV ad (chkN v)) ∧ Same w w' := by
  obtain ⟨k, a, b⟩ := v
  have S0 := hid (show Same w (w.alloc (.cells #[.int .i64 k, .int .i64 a, .int .i64 b] 37)) from (Chg.refl _).alloc _)
  have hb := alloc_new w (.cells #[.int .i64 k, .int .i64 a, .int .i64 b] 37)
  have HB := hid hb
  have HE := hid hE
  clear hb hE
  go_enter Tryd.func47, Tryd.ntmps47
  go_wp2_with fail
  generalize w.alloc _ = w1 at *
  generalize w.heap.size = q at *
  refine (ranges_any k _).mono ?_
  rintro r w2 ⟨rfl, hs⟩
  have S2 := hid (S0.out.trans hs (fun _ _ f => f))
  have HB2 := hid (hs.heap HB.out (fun f => f))
  clear hs HB
  obtain ⟨lo, hi, hA⟩ : ∃ lo hi, spanA k = (lo, hi) := ⟨_, _, rfl⟩
  obtain ⟨lo2, hi2, hB⟩ : ∃ lo hi, spanB k = (lo, hi) := ⟨_, _, rfl⟩
  rw [hA, hB]
  have HA := hid hA
  have HBB := hid hB
  clear hA hB
  cases hk : okKind k with
  | false =>
    have HC := hid (chk_kind (v := ⟨k, a, b⟩) hk)
    have hE4 := (HE.out.same S2.out).c4
    have hlt := World.block_lt_of_cell? _ _ hE4
    clear hk
    go_wp2
    go_ret
    rw [HC.out]
    exact ⟨rfl, by repeat (first | exact S2.out | refine Chg.drew ?_ | refine Chg.drewN _ ?_ | refine Chg.alloc _ ?_)⟩
  | true =>
    have HK := hid hk
    clear hk
    have Y := hid (((Star.new w2).alloc #[.int .i64 lo, .int .i64 hi] 117).alloc #[.int .i64 lo2, .int .i64 hi2] 117)
    have hq : ∀ j v, (#[Value.int .i64 k, .int .i64 a, .int .i64 b] : Array Value)[j]? = some v → ((w2.alloc (.cells #[.int .i64 lo, .int .i64 hi] 117)).alloc (.cells #[.int .i64 lo2, .int .i64 hi2] 117)).cell? ⟨q, j, none⟩ = some v := fun j v h => Y.out.keepCell ((cell_of HB2.out j).trans h)
    have q1 := hq 1 _ rfl
    have q2 := hq 2 _ rfl
    have ql : q < ((w2.alloc (.cells #[.int .i64 lo, .int .i64 hi] 117)).alloc (.cells #[.int .i64 lo2, .int .i64 hi2] 117)).heap.size := Nat.lt_of_lt_of_le (lt_of HB2.out) Y.out.same.size
    have hb0 := (Y.out.blk 0 rfl).1
    have b0 := cell_of hb0 0
    have b1 := cell_of hb0 1
    have bl := lt_of hb0
    simp only [List.getElem?_toArray, List.getElem?_cons_zero, List.getElem?_cons_succ, World.size_alloc] at b0 b1
    clear hq hb0
    go_wp2_with fail
    refine (has_any (lo, hi) a _).mono ?_
    rintro r w4 ⟨rfl, hs⟩
    have S4 := hid (S2.out.trans (Y.out.same.trans hs (fun _ _ f => f)) (fun _ _ f => f))
    have k2 := hs.keep q2
    have kl := Nat.lt_of_lt_of_le ql hs.size
    have d0 := hs.keep b0
    have d1 := hs.keep b1
    have dl := Nat.lt_of_lt_of_le bl hs.size
    have hE4 := (HE.out.same S4.out).c0
    have hlt := World.block_lt_of_cell? _ _ hE4
    clear hs q1 q2 ql b0 b1 bl Y HB2
    cases h1 : inS (lo, hi) a with
    | false =>
      have HC := hid (chk_range (v := ⟨k, a, b⟩) HK.out (by rw [HA.out, h1]; rfl))
      clear h1
      go_wp2
      go_ret
      rw [HC.out]
      exact ⟨rfl, by repeat (first | exact S4.out | refine Chg.drew ?_ | refine Chg.drewN _ ?_ | refine Chg.alloc _ ?_)⟩
    | true =>
      have H1 := hid h1
      clear h1 hE4 hlt
      simp only [World.size_alloc] at dl
      go_wp2_with fail
      refine (has_any (lo2, hi2) b _).mono ?_
      rintro r w5 ⟨rfl, hs⟩
      have S5 := hid (S4.out.trans hs (fun _ _ f => f))
      have hE4 := (HE.out.same S5.out).c0
      have hlt := World.block_lt_of_cell? _ _ hE4
      clear hs k2 kl d0 d1 dl
      cases h2 : inS (lo2, hi2) b with
      | false =>
        have HC := hid (chk_range (v := ⟨k, a, b⟩) HK.out (by rw [HBB.out, h2, Bool.and_false]))
        clear h2
        go_wp2
        go_ret
        rw [HC.out]
        exact ⟨rfl, by repeat (first | exact S5.out | refine Chg.drew ?_ | refine Chg.drewN _ ?_ | refine Chg.alloc _ ?_)⟩
      | true =>
        have HC := hid (chk_ok (v := ⟨k, a, b⟩) HK.out (by rw [HA.out]; exact H1.out) (by rw [HBB.out]; exact h2))
        clear h2
        go_wp2
        go_ret
        rw [HC.out]
        exact ⟨rfl, by repeat (first | exact S5.out | refine Chg.drew ?_ | refine Chg.drewN _ ?_ | refine Chg.alloc _ ?_)⟩
end Go.Proofs.YtegcnkcjmebheaaDoor.Tab
