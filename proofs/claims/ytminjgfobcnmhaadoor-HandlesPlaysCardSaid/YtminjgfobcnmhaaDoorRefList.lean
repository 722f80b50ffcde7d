/-
  The document's pool: List, Same, Copy; paddockref02.Same.
-/
import Derived.Test.YtminjgfobcnmhaaDoorRefRel
import Derived.Test.YtminjgfobcnmhaaDoorKept
namespace Go.Proofs.YtminjgfobcnmhaaDoor.Pool
open Go Go.RowKit

section
variable {w0 w : World} {L : List Res} {p : Nat} {S : List Slot} {f : List Nat}
set_option maxRecDepth 100000 in
set_option maxHeartbeats 1000000 in
theorem rlist_any (X : Star w0 w (RefR p S f :: L)) (hS : S.length ≤ 1000) :
    Calls Tryd.prog 41 #[.pointer (some ⟨p, 0, none⟩)] w fun r w' => ∃ v, r = .returned v ∧ Star w0 w' (Row 42 2 v (live S).length ((live S).flatMap hl) :: RefR p S f :: L) := by
  obtain ⟨i0, hi0, hz0, hz1, hz2⟩ := info_parts infoH
  obtain ⟨vs, vf, hY⟩ := RefR.open X
  have Y := hid hY
  obtain ⟨av, cs, m, rfl, hm, hmc, hmx⟩ := rslots_shape hY
  have HM := hid hm
  have hm1 : m ≤ 1000 := by omega
  clear hY X hm hS
  have hbk8 := Y.out.blk 0 rfl
  have pc0 : w.cell? ⟨p, 0, none⟩ = some (.slice av m cs) := cell_of hbk8.1 0
  have pcl : p < w.heap.size := lt_of hbk8.1
  clear hbk8
  have Y1 := hid (Y.out.add (w' := w.alloc (.cells #[] 42)) ((Chg.refl _).alloc _) (R := Row 42 2 (.slice (some ⟨w.heap.size, 0, none⟩) 0 0) 0 []) ⟨World.ownsRow_lit (base := 0) _ #[] 0 (Nat.zero_le _) (by unfold maxLen; omega) rfl, rfl⟩ (fun k h => by simp only [Value.ownBlock, Option.some.injEq] at h; omega))
  clear Y
  go_enter Tryd.func41, Tryd.ntmps41
  go_wp2
  go_loopw [3, 12] (fun v iv wr => ∃ k : Nat, k ≤ m ∧ iv = .int .i64 k ∧ Star w0 wr (Row 42 2 v (live (S.take k)).length ((live (S.take k)).flatMap hl) :: rblkR p (.slice av m cs) vf :: slotsR (.slice av m cs) S :: freeR vf f :: L)) (fun _ iv _ => m - (intOf iv).toNat)
  case atStart => exact ⟨0, by omega, rfl, Y1.out⟩
  case round =>
    obtain ⟨k, hk, rfl, hZ⟩ := hrel
    have Z := hid hZ
    obtain ⟨a, cp, n, e, hn⟩ : ∃ a cp n, _ = Value.slice a n cp ∧ n = (live (S.take k)).length := by
      obtain ⟨a, cp, h, _⟩ := own_slice (hZ.row 0 rfl).1
      exact ⟨a, cp, _, h, rfl⟩
    subst e
    have HN := hid hn
    clear hZ Y1 pc0 pcl hn
    by_cases hkm : k < m
    · have hks : k < S.length := by have := HM.out; omega
      obtain ⟨⟨g, b⟩, hs⟩ : ∃ s, S[k]? = some s := ⟨_, List.getElem?_eq_getElem hks⟩
      have hrow := Z.out.row 2 rfl
      rw [← HM.out] at hrow
      obtain ⟨gs, cs', e⟩ := own_shape hrow.1 (by omega)
      cases e
      have e0 : wr.cell? ⟨gs, k * 2, none⟩ = some (.int .i64 g) := (hrow.1.cellAt (k * 2) (by omega)).trans ((rows_get sl sl_len S k 0 (g, b) hs (by omega)).trans rfl)
      have e1 : wr.cell? ⟨gs, k * 2 + 1, none⟩ = some (.bool b) := (hrow.1.cellAt (k * 2 + 1) (by omega)).trans ((rows_get sl sl_len S k 1 (g, b) hs (by omega)).trans rfl)
      have hgl := (hrow.1.lt gs rfl).2
      have hnk : n ≤ k := by
        have := live_le (S.take k) 0
        rw [List.length_take] at this
        have h2 := HN.out
        unfold live at h2
        omega
      have HT := hid (live_take S k (g, b) hs)
      have hr0 := hid (Z.out.row 0 rfl).1
      rw [← HN.out] at hr0
      clear hrow hs
      cases b with
      | false =>
        go_wp2
        go_roundw
        case rel =>
          refine ⟨k + 1, by omega, by go_num, ?_⟩
          rw [HT.out]
          simp only [Bool.false_eq_true, if_false, List.append_nil]
          exact Z.out.go ((Chg.refl _).alloc _)
        case measure => simp [intOf]; omega
      | true =>
        go_wp2_with (at_builtin; refine wpList_app rfl _ _ 45 rfl 42 i0 (.agg #[.int .i64 0, .int .i64 0]) 2 16 Tryd.underlying45 hi0 hz0 hz1 hz2 rfl (by decide) _ n ((live (S.take k)).flatMap hl) rfl (own_chg (S := fun _ => False) hr0.out (by repeat (first | exact Chg.refl _ | refine Chg.drew ?_ | refine Chg.alloc _ ?_)) (fun _ _ f => f)) (some _) 1 1 (hl ((k : Int), g)) rfl (reads_blk (cs := #[.int .i64 k, .int .i64 g]) (E := 42) (f := (0, 0)) (by first | exact alloc_new _ _ | exact alloc2_new _ _ _) 1 1 2 rfl) (hl_one _) (by omega) (by omega) ?_)
        intro a7 c7 w7 ho7 hg7 hn7
        have hZ7 := (Z.out.go (by repeat (first | exact Chg.refl _ | refine Chg.drew ?_ | refine Chg.alloc _ ?_))).grown 0 rfl ho7 hg7 hn7
        have Z7 := hid hZ7
        clear hZ7 ho7 hg7 hn7 e0 e1 hgl hr0
        go_wp2
        go_roundw
        case rel =>
          refine ⟨k + 1, by omega, by go_num, ?_⟩
          have e2 : (live (S.take k)).flatMap hl ++ hl ((k : Int), g) = (live (S.take k) ++ [((k : Int), g)]).flatMap hl := by simp
          have e3 : n + 1 = (live (S.take k) ++ [((k : Int), g)]).length := by rw [HN.out]; simp
          have h := Z7.out
          rw [e2, e3] at h
          rw [HT.out]
          simp only [if_true]
          rw [e3]
          exact h
        case measure => simp [intOf]; omega
    · go_wp2
      go_ret
      have e : S.take k = S := List.take_of_length_le (by have := HM.out; omega)
      have h := Z.out
      rw [e] at h
      refine ⟨_, rfl, ?_⟩
      exact (RefR.close (((h.pull 3 rfl).pull 3 rfl).pull 3 rfl)).swap
end

set_option maxRecDepth 100000 in
set_option maxHeartbeats 1000000 in
/-- Two lists of handles that are the same. -/
theorem sameHands (va vb : Value) (hs : List Hand) (w : World) (ha : Reads w va hs.length 2 (hs.flatMap hl)) (hb : Reads w vb hs.length 2 (hs.flatMap hl)) (hm : hs.length ≤ 1000) :
    Calls Tryd.prog 42 #[va, vb] w fun r w' => r = .returned (.bool true) ∧ Same w w' := by
  obtain ⟨a, c, rfl⟩ := ha.slice
  obtain ⟨b, d, rfl⟩ := hb.slice
  have HA := hid ha
  have HB := hid hb
  obtain ⟨n, hn⟩ : ∃ n, n = hs.length := ⟨_, rfl⟩
  rw [← hn] at hm HA HB ⊢
  have HN := hid hn
  clear ha hb hn
  go_enter Tryd.func42, Tryd.ntmps42
  go_wp2
  go_loopw [13] (fun i wr => ∃ k : Nat, k ≤ n ∧ i = .int .i64 k ∧ Same w wr) (fun i _ => n - (intOf i).toNat)
  case atStart => exact ⟨0, by omega, rfl, Chg.refl _⟩
  case round =>
    obtain ⟨k, hk, rfl, hs'⟩ := hrel
    have HS := hid hs'
    clear hs'
    by_cases hkn : k < n
    · obtain ⟨h, hh⟩ : ∃ h, hs[k]? = some h := ⟨_, List.getElem?_eq_getElem (by have := HN.out; omega)⟩
      obtain ⟨b1, o1, c1, e1, -, hc1⟩ := HA.out.open (by omega)
      cases e1
      obtain ⟨b2, o2, c2, e2, -, hc2⟩ := HB.out.open (by omega)
      cases e2
      obtain ⟨x, g⟩ := h
      have g1 := HS.out.keep (hc1 (k * 2 + 0) _ ((rows_get hl hl_len hs k 0 _ hh (by omega)).trans rfl))
      have g2 := HS.out.keep (hc1 (k * 2 + 1) _ ((rows_get hl hl_len hs k 1 _ hh (by omega)).trans rfl))
      have g3 := HS.out.keep (hc2 (k * 2 + 0) _ ((rows_get hl hl_len hs k 0 _ hh (by omega)).trans rfl))
      have g4 := HS.out.keep (hc2 (k * 2 + 1) _ ((rows_get hl hl_len hs k 1 _ hh (by omega)).trans rfl))
      rw [Nat.add_zero] at g1 g3
      rw [← Nat.add_assoc] at g2 g4
      clear hc1 hc2 hh
      go_wp2
      go_quiet (fail)
      go_wp2
      go_roundw
      case rel => exact ⟨k + 1, by omega, by go_num, HS.out.drewN _⟩
      case measure => simp [intOf]; omega
    · go_wp2
      go_ret
      exact ⟨rfl, HS.out⟩

section
variable {w0 w : World} {L : List Res} {p : Nat} {S : List Slot} {f : List Nat}
theorem nat_ints (f : List Nat) : f.map nv = (f.map (fun i : Nat => (i : Int))).map (Value.int .i64) := by
  rw [List.map_map]; rfl
set_option maxRecDepth 100000 in
set_option maxHeartbeats 1000000 in
/-- Slots and free places that are the model's. -/
theorem rsame_any (X : Star w0 w (RefR p S f :: L)) (va vb : Value) (ha : Reads w va S.length 2 (S.flatMap sl)) (hb : Reads w vb f.length 1 (f.map nv)) (hS : S.length ≤ 1000) (hf : f.length ≤ 1000) :
    Calls Tryd.prog 43 #[.pointer (some ⟨p, 0, none⟩), va, vb] w fun r w' => r = .returned (.bool true) ∧ Same w w' := by
  obtain ⟨a, c, rfl⟩ := ha.slice
  obtain ⟨b, d, rfl⟩ := hb.slice
  obtain ⟨vs, vf, hY⟩ := RefR.open X
  have HR := hid (Reads.of_own (hY.row 1 rfl).1)
  have HF := hid (Reads.of_own (hY.row 2 rfl).1)
  obtain ⟨a', c', rfl⟩ := HR.out.slice
  obtain ⟨b', d', rfl⟩ := HF.out.slice
  have HA := hid ha
  have HB := hid hb
  obtain ⟨h0, h1, -, hp⟩ := rblk_facts hY
  obtain ⟨n, hn⟩ : ∃ n, n = S.length := ⟨_, rfl⟩
  obtain ⟨m, hm⟩ : ∃ m, m = f.length := ⟨_, rfl⟩
  rw [← hn] at hS HA HR h0 ⊢
  rw [← hm] at hf HB HF h1 ⊢
  have HN := hid hn
  have HM := hid hm
  have H0 := hid h0
  have H1 := hid h1
  clear X hY ha hb hn hm
  go_enter Tryd.func43, Tryd.ntmps43
  go_wp2
  go_loopw [18] (fun i wr => ∃ k : Nat, k ≤ n ∧ i = .int .i64 k ∧ Same w wr) (fun i _ => n - (intOf i).toNat)
  case atStart => exact ⟨0, by omega, rfl, Chg.refl _⟩
  case round =>
    obtain ⟨k, hk, rfl, hs'⟩ := hrel
    have HS := hid hs'
    clear hs' h0 h1
    have h0 := HS.out.keep H0.out
    have h1 := HS.out.keep H1.out
    have hpl := Nat.lt_of_lt_of_le hp HS.out.size
    by_cases hkn : k < n
    · obtain ⟨s, hh⟩ : ∃ s, S[k]? = some s := ⟨_, List.getElem?_eq_getElem (by have := HN.out; omega)⟩
      obtain ⟨b1, o1, c1, e1, -, hc1⟩ := HA.out.open (by omega)
      cases e1
      obtain ⟨b2, o2, c2, e2, -, hc2⟩ := HR.out.open (by omega)
      cases e2
      obtain ⟨x, g⟩ := s
      have g1 := HS.out.keep (hc1 (k * 2 + 0) _ ((rows_get sl sl_len S k 0 _ hh (by omega)).trans rfl))
      have g2 := HS.out.keep (hc1 (k * 2 + 1) _ ((rows_get sl sl_len S k 1 _ hh (by omega)).trans rfl))
      have g3 := HS.out.keep (hc2 (k * 2 + 0) _ ((rows_get sl sl_len S k 0 _ hh (by omega)).trans rfl))
      have g4 := HS.out.keep (hc2 (k * 2 + 1) _ ((rows_get sl sl_len S k 1 _ hh (by omega)).trans rfl))
      rw [Nat.add_zero] at g1 g3
      rw [← Nat.add_assoc] at g2 g4
      clear hc1 hc2 hh
      go_wp2
      go_quiet (fail)
      go_wp2
      go_roundw
      case rel => exact ⟨k + 1, by omega, by go_num, HS.out.drewN _⟩
      case measure => simp [intOf]; omega
    · have hfi : ∀ {v : Value}, Reads w v m 1 (f.map nv) → Ints wr v (f.map (fun i : Nat => (i : Int))) := fun h => by
        have h' := h.same HS.out
        rw [HM.out, nat_ints] at h'
        unfold Ints
        rw [List.length_map]
        exact h'
      have I1 := hid (hfi HB.out)
      have I2 := hid (hfi HF.out)
      clear hfi
      go_wp2_with fail
      refine (Num.sameInts _ _ _ _ _ I1.out I2.out (by rw [List.length_map, ← HM.out]; omega) (by rw [List.length_map, ← HM.out]; omega)).mono ?_
      rintro r w1 ⟨rfl, hs1⟩
      rw [decide_eq_true rfl]
      have HS1 := hid hs1
      clear hs1
      go_wp2
      go_ret
      exact ⟨rfl, HS.out.trans HS1.out (fun _ _ f => f)⟩

theorem lit0 (w : World) (T size : Nat) : (w.alloc (.cells #[] T)).ownsRow 0 T size (.slice (some ⟨w.heap.size, 0, none⟩) 0 0) 0 [] :=
  World.ownsRow_lit (base := 0) w #[] 0 (Nat.zero_le _) (by unfold maxLen; omega) (by simp)
theorem Star.lit0 {L : List Res} (X : Star w0 w L) (T size : Nat) : Star w0 (w.alloc (.cells #[] T)) (Row T size (.slice (some ⟨w.heap.size, 0, none⟩) 0 0) 0 [] :: L) :=
  X.add ((Chg.refl _).alloc _) ⟨Pool.lit0 w T size, rfl⟩ (fun k h => by simp only [Value.ownBlock, Option.some.injEq] at h; omega)
set_option maxRecDepth 100000 in
set_option maxHeartbeats 4000000 in
theorem rcopy_any (X : Star w0 w L) (q : Nat) (vs vf : Value) (hq : w.heap[q]? = some (.cells #[vs, vf] 82 (0, 0))) (ha : Reads w vs S.length 2 (S.flatMap sl)) (hb : Reads w vf f.length 1 (f.map nv)) (hS : S.length ≤ 1000) (hf : f.length ≤ 1000) :
    Calls Tryd.prog 38 #[.pointer (some ⟨q, 0, none⟩)] w fun r w' => ∃ p, r = .returned (.pointer (some ⟨p, 0, none⟩)) ∧ Star w0 w' (RefR p S f :: L) := by
  obtain ⟨i0, hi0, hz0, hz1, hz2⟩ := info_parts info
  obtain ⟨j0, hj0, hy0, hy1, hy2⟩ := info_parts infoI
  obtain ⟨a, c, rfl⟩ := ha.slice
  obtain ⟨b, d, rfl⟩ := hb.slice
  have HA := hid ha
  have HB := hid hb
  have UA := hid (rows_one sl sl_one S)
  have UB := hid (nv_one f)
  obtain ⟨n, hn⟩ : ∃ n, n = S.length := ⟨_, rfl⟩
  obtain ⟨m, hm⟩ : ∃ m, m = f.length := ⟨_, rfl⟩
  have q0 : w.cell? ⟨q, 0, none⟩ = some (.slice a S.length c) := cell_of hq 0
  have q1 : w.cell? ⟨q, 1, none⟩ = some (.slice b f.length d) := cell_of hq 1
  have ql := lt_of hq
  rw [← hn] at hS HA q0
  rw [← hm] at hf HB q1
  have HN := hid hn
  have HM := hid hm
  have Ya := hid ((Star.lit0 X 58 2).go ((Chg.refl _).drew))
  have Yb := hid ((Star.lit0 (Star.lit0 X 58 2) 3 1).go ((Chg.refl _).drew))
  have Yc := hid ((Star.lit0 (Star.lit0 X 3 1) 58 2).go ((Chg.refl _).drew))
  rw [World.size_alloc] at Yb Yc
  have Sa := hid (show Same w (w.alloc (.cells #[] 58)).drew from ((Chg.refl _).alloc _).drew)
  have Sb := hid (show Same w ((w.alloc (.cells #[] 58)).alloc (.cells #[] 3)).drew from (((Chg.refl _).alloc _).alloc _).drew)
  have Sc := hid (show Same w ((w.alloc (.cells #[] 3)).alloc (.cells #[] 58)).drew from (((Chg.refl _).alloc _).alloc _).drew)
  clear X ha hb hq hn hm
  go_enter Tryd.func38, Tryd.ntmps38
  go_wp2_with fail
  go_region_law (first
    | (refine step_app rfl (.tmp 3) (.tmp 7) 52 rfl 58 i0 (.agg #[.int .i64 0, .bool false]) 2 16 Tryd.underlying52 hi0 hz0 hz1 hz2 rfl (by decide) _ 0 [] rfl (Ya.out.row 0 rfl).1 a n c (S.flatMap sl) rfl (HA.out.same Sa.out) UA.out (by omega) (by omega) ?_; intro a8 c8 w8; rw [Nat.zero_add, List.nil_append]; intro ho8 hg8 hn8; have Y8 := hid (Ya.out.grown 0 rfl ho8 hg8 hn8); have S8 : Same w w8 := Chg.grown Sa.out hg8 (fun k e hk => by have : w.heap.size = k := Option.some.inj e; omega); have k0 := S8.keep q0; have k1 := S8.keep q1; have kl := Nat.lt_of_lt_of_le ql S8.size; have HB8 := hid (HB.out.same S8); clear ho8 hg8 hn8 S8)
    | (refine step_app rfl (.tmp 3) (.tmp 7) 52 rfl 58 i0 (.agg #[.int .i64 0, .bool false]) 2 16 Tryd.underlying52 hi0 hz0 hz1 hz2 rfl (by decide) _ 0 [] rfl (Yb.out.row 1 rfl).1 a n c (S.flatMap sl) rfl (HA.out.same Sb.out) UA.out (by omega) (by omega) ?_; intro a8 c8 w8; rw [Nat.zero_add, List.nil_append]; intro ho8 hg8 hn8; have Y8 := hid (Yb.out.grown 1 rfl ho8 hg8 hn8).swap; have S8 : Same w w8 := Chg.grown Sb.out hg8 (fun k e hk => by have : w.heap.size = k := Option.some.inj e; omega); have k0 := S8.keep q0; have k1 := S8.keep q1; have kl := Nat.lt_of_lt_of_le ql S8.size; have HB8 := hid (HB.out.same S8); clear ho8 hg8 hn8 S8)
    | (refine step_app rfl (.tmp 3) (.tmp 7) 52 rfl 58 i0 (.agg #[.int .i64 0, .bool false]) 2 16 Tryd.underlying52 hi0 hz0 hz1 hz2 rfl (by decide) _ 0 [] rfl (Yc.out.row 0 rfl).1 a n c (S.flatMap sl) rfl (HA.out.same Sc.out) UA.out (by omega) (by omega) ?_; intro a8 c8 w8; rw [Nat.zero_add, List.nil_append]; intro ho8 hg8 hn8; have Y8 := hid (Yc.out.grown 0 rfl ho8 hg8 hn8); have S8 : Same w w8 := Chg.grown Sc.out hg8 (fun k e hk => by have : w.heap.size + 1 = k := Option.some.inj e; omega); have k0 := S8.keep q0; have k1 := S8.keep q1; have kl := Nat.lt_of_lt_of_le ql S8.size; have HB8 := hid (HB.out.same S8); clear ho8 hg8 hn8 S8)
    | (refine step_app rfl (.tmp 9) (.tmp 13) 53 rfl 3 j0 (.int .i64 0) 1 8 Tryd.underlying53 hj0 hy0 hy1 hy2 rfl (by decide) _ 0 [] rfl (Y8.out.row 1 rfl).1 b m d (f.map nv) rfl HB8.out UB.out (by omega) (by omega) ?_; intro a9 c9 w9; rw [Nat.zero_add, List.nil_append]; intro ho9 hg9 hn9; have Y9 := hid (Y8.out.grown 1 rfl ho9 hg9 hn9).swap; clear ho9 hg9 hn9)
    | (refine step_app rfl (.tmp 9) (.tmp 13) 53 rfl 3 j0 (.int .i64 0) 1 8 Tryd.underlying53 hj0 hy0 hy1 hy2 rfl (by decide) _ 0 [] rfl (lit0 w8 _ 1) b m d (f.map nv) rfl (HB8.out.same ((Chg.refl _).alloc _)) UB.out (by omega) (by omega) ?_; intro a9 c9 w9; rw [Nat.zero_add, List.nil_append]; intro ho9 hg9 hn9; have Y9 := hid ((Star.lit0 Y8.out 3 1).grown 0 rfl ho9 hg9 hn9); clear ho9 hg9 hn9))
  all_goals
    have hY9 : Star w0 w9 (Row 3 1 (.slice a9 m c9) m (f.map nv) :: Row 58 2 (.slice a8 n c8) n (S.flatMap sl) :: L) := Y9.out
    rw [HN.out, HM.out] at hY9
    have h := (((hY9.alloc #[.slice a8 S.length c8, .slice a9 f.length c9] 82).pull 2 rfl).swap)
    have XR := hid (RefR.close h)
    rw [← HN.out, ← HM.out] at XR
    clear Y9 hY9 h
    go_wp2
    go_ret
    exact ⟨_, rfl, XR.out⟩
end
end Go.Proofs.YtminjgfobcnmhaaDoor.Pool
