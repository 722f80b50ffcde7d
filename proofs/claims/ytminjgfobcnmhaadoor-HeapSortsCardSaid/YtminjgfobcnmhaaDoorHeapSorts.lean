/-
  HeapSorts: the walk.
-/
import Derived.Test.YtminjgfobcnmhaaDoorHeapPut
namespace Go.Proofs.YtminjgfobcnmhaaDoor.HeapSorts
open Go Go.RowKit Go.Proofs.YtminjgfobcnmhaaDoor.Hp

set_option maxRecDepth 100000 in
set_option maxHeartbeats 2000000 in
theorem walk (xs : List (Int × Int)) (v : Value) (w : World) (hr : Reads w v xs.length 2 (flat xs)) (hm : xs.length ≤ 9223372036854775807) :
    Calls Tryd.prog 6 #[v] w fun r w' => r = .returned (.bool true) ∧ Same w w' := by
  obtain ⟨i0, hi, hz0, hz1, hz2⟩ := info_parts info
  obtain ⟨a, c, rfl⟩ := hr.slice
  have HR := hid hr
  clear hr
  obtain ⟨n, hn⟩ : ∃ n, n = xs.length := ⟨_, rfl⟩
  rw [← hn] at hm
  have HN := hid hn
  simp only [← hn] at HR ⊢
  clear hn
  go_enter Tryd.func6, Tryd.ntmps6
  go_wp2_with fail
  refine (alive _).mono ?_
  rintro r w1 ⟨rfl, hs1⟩
  have S1 := hid hs1
  clear hs1
  by_cases h1 : 300 < n
  · go_wp2
    go_ret
    exact ⟨rfl, S1.out⟩
  have HUB := hid (flat_one xs)
  go_wp2_with (at_builtin; refine wpList_app rfl _ _ 22 rfl 31 i0 (.agg #[.int .i64 0, .int .i64 0]) 2 16 Tryd.underlying22 hi hz0 hz1 hz2 rfl (by decide) _ 0 [] rfl (World.ownsRow_lit (base := 0) w1 #[] 0 (Nat.zero_le _) (by decide) rfl) a n c (flat xs) rfl ((HR.out.same S1.out).same ((Chg.refl _).alloc _)) HUB.out (by omega) (by omega) ?_; intro a3 c3 w3; rw [show 0 + n = n from Nat.zero_add _, List.nil_append]; intro ho3 hg3 hn3)
  have hs3 : Same w1 w3 := Chg.grown ((Chg.refl _).alloc _) hg3 (fun k e hk => absurd hk (by have : w1.heap.size = k := Option.some.inj e; omega))
  have IN := hid ho3
  have S3 := hid (S1.out.trans hs3 (fun _ _ f => f))
  clear hs3 ho3 hg3 hn3
  refine (sort_any xs _ n _ _ HN.out (Reads.of_own IN.out) (by intro y e _; cases e; exact own_lt IN.out _ rfl) (by omega)).mono ?_
  rintro r w4 ⟨u, out, rfl, hf4, hp4, hr4, hs4⟩
  have S4 := hid (S3.out.trans hs4 (fun _ _ f => f))
  have IN4 := hid (own_chg IN.out hs4 (fun _ _ f => f))
  have OUT4 := hid hf4.1
  have P4 := hid hp4
  have R4 := hid hr4
  clear hf4 hp4 hr4 hs4
  have hlo : out.length = n := by have := P4.out.length_eq; have := HN.out; omega
  obtain ⟨au, cu, rfl, -⟩ := own_slice OUT4.out
  rw [hlo] at OUT4 ⊢
  have HLO := hid hlo
  clear hlo
  have HM0 := hid (World.ownsRow_lit (base := 0) (e := 64) (size := 2) w4 #[] 0 (Nat.zero_le _) (by decide) rfl)
  go_wp2_with fail
  have hs5 : Same w4 (w4.alloc (.cells #[] 64)) := (Chg.refl _).alloc _
  have S5 := hid (S4.out.trans hs5 (fun _ _ f => f))
  have IN5 := hid (own_chg IN4.out hs5 (fun _ _ f => f))
  have OUT5 := hid (own_chg OUT4.out hs5 (fun _ _ f => f))
  clear hs5
  generalize w4.alloc (.cells #[] 64) = w5 at *
  generalize w4.heap.size = q at *
  go_loopw [6, 26] (fun mv iv wr => ∃ (k g cp : Nat) (l : List (Int × Int)), k ≤ n ∧ iv = .int .i64 k ∧ mv = .slice (some ⟨g, 0, none⟩) k cp ∧ l.length = k ∧ l.Perm (xs.take k) ∧ Rising l ∧ wr.ownsRow 0 64 2 (.slice (some ⟨g, 0, none⟩) k cp) k (flat l) ∧ Same w5 wr) (fun _ iv _ => n - (intOf iv).toNat)
  case atStart => exact ⟨0, q, 0, [], Nat.zero_le _, rfl, rfl, rfl, by simp, List.Pairwise.nil, HM0.out, Chg.refl _⟩
  case round =>
    obtain ⟨k, g, cp, l, hk, rfl, rfl, hl, hlp, hlr, hlo, hls⟩ := hrel
    have HL := hid hl
    have HLP := hid hlp
    have HLR := hid hlr
    have ROW := hid hlo
    have HLS := hid hls
    clear hl hlp hlr hlo hls HM0
    by_cases hlt : k < n
    · obtain ⟨b, off, cap, e1, hb, hcl⟩ := HR.out.open (by omega)
      cases e1
      have hxk := at_eq (es := xs) (k := k) (by have := HN.out; omega)
      have g1 := HLS.out.keep (S5.out.keep (hcl (k * 2) _ (flat_0 _ _ _ hxk)))
      have g2 := HLS.out.keep (S5.out.keep (hcl (k * 2 + 1) _ (flat_1 _ _ _ hxk)))
      rw [← Nat.add_assoc] at g2
      obtain ⟨gi, ci, e2⟩ := own_shape IN5.out (by omega)
      cases e2
      have HIN := hid ((IN5.out.cellAt (k * 2) (by omega)).trans (flat_0 _ _ _ hxk))
      have HIN' := hid ((IN5.out.cellAt (k * 2 + 1) (by omega)).trans (flat_1 _ _ _ hxk))
      have HTK := hid (show (at_ xs k :: xs.take k).Perm (xs.take (k + 1)) by
        have hk' : k < xs.length := by have := HN.out; omega
        rw [List.take_succ_eq_append_getElem hk']
        have : at_ xs k = xs[k] := by simp [at_, List.getD, hk']
        rw [this]
        exact (List.perm_append_comm (l₁ := [xs[k]])))
      clear hcl hxk
      generalize at_ xs k = e at *
      have hgb := own_lt ROW.out g rfl
      have hcp := own_cap ROW.out
      go_wp2_with fail
      have hsA : Same wr (wr.alloc (.cells #[.int .i64 e.1, .int .i64 e.2] 31)) := (Chg.refl _).alloc _
      have HQ := hid (alloc_new wr (.cells #[.int .i64 e.1, .int .i64 e.2] 31))
      refine (put_some l e g 0 cp k _ HL.out.symm (Reads.of_own (own_chg ROW.out hsA (fun _ _ f => f))) hcp (by omega) (Nat.lt_of_lt_of_le hgb hsA.size)).mono ?_
      rintro r w6 ⟨u6, rfl, k6, hpl6, hf6, hs6⟩
      have HS6 := hid ((HLS.out.trans hsA (fun _ _ f => f)).trans hs6 (fun _ _ f => f))
      have hq6 := hs6.heap HQ.out (fun f => f)
      have c0 := cell_of hq6 0
      have c1 := cell_of hq6 1
      have d0 := HS6.out.keep HIN.out
      have d1 := HS6.out.keep HIN'.out
      have hqb := lt_of hq6
      obtain ⟨g6, cp6, e6⟩ := own_shape hf6.1 (by omega)
      subst e6
      have OW6 := hid hf6.1
      have PL6 := hid hpl6
      clear hq6 hpl6 hf6 hs6 hsA g1 g2
      generalize wr.heap.size = qq at *
      go_wp2_with fail
      go_quiet (fail)
      go_wp2
      go_roundw
      case rel => exact ⟨k + 1, g6, cp6, ins l k6 e, by omega, by go_num, rfl, by rw [ins_length _ _ _ PL6.out.le, HL.out], ((ins_perm l k6 e).trans (HLP.out.cons e)).trans HTK.out, ins_rising l k6 e HLR.out PL6.out, own_chg OW6.out ((Chg.refl _).drewN _ : Same w6 _) (fun _ _ f => f), HS6.out.drewN _⟩
      case measure => simp [intOf]; omega
    · have hkn : k = n := by omega
      have hlx : l = out := rising_unique _ _ HLR.out R4.out (HLP.out.trans (by rw [List.take_of_length_le (by have := HN.out; omega)]; exact P4.out.symm))
      subst hkn
      subst hlx
      have hOU := own_chg OUT5.out HLS.out (fun _ _ f => f)
      have OU := hid hOU
      have S6 := hid (S5.out.trans HLS.out (fun _ _ f => f))
      clear hOU HLS
      go_wp2_with fail
      go_loopw [52] (fun i wx => ∃ j : Nat, j ≤ k ∧ i = .int .i64 j ∧ Same wr wx) (fun i _ => k - (intOf i).toNat)
      case atStart => exact ⟨0, Nat.zero_le _, rfl, Chg.refl _⟩
      case round =>
        obtain ⟨j, hj, rfl, hs⟩ := hrel
        have HS := hid hs
        clear hs
        by_cases hlt : j < k
        · have ho := at_eq (es := l) (k := j) (by have := HLO.out; omega)
          obtain ⟨gu, cu', e2⟩ := own_shape OU.out (by omega)
          cases e2
          have g1 := HS.out.keep ((OU.out.cellAt (j * 2) (by omega)).trans (flat_0 _ _ _ ho))
          have g2 := HS.out.keep ((OU.out.cellAt (j * 2 + 1) (by omega)).trans (flat_1 _ _ _ ho))
          have g3 := HS.out.keep ((ROW.out.cellAt (j * 2) (by omega)).trans (flat_0 _ _ _ ho))
          have g4 := HS.out.keep ((ROW.out.cellAt (j * 2 + 1) (by omega)).trans (flat_1 _ _ _ ho))
          generalize at_ l j = e at *
          clear ho
          go_wp2
          go_quiet (fail)
          go_wp2
          go_roundw
          case rel => exact ⟨j + 1, by omega, by go_num, HS.out.drewN _⟩
          case measure => simp [intOf]; omega
        · go_wp2
          go_ret
          exact ⟨rfl, S6.out.trans HS.out (fun _ _ f => f)⟩
end Go.Proofs.YtminjgfobcnmhaaDoor.HeapSorts
