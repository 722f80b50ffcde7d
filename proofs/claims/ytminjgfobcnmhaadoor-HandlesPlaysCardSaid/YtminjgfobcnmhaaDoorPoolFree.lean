/-
  Package handles: Lives, Free, List, Slots, Clone.
-/
import Derived.Test.YtminjgfobcnmhaaDoorPoolTake
import Derived.Test.YtminjgfobcnmhaaDoorCloneI
import Derived.Test.YtminjgfobcnmhaaDoorCloneS
namespace Go.Proofs.YtminjgfobcnmhaaDoor.Pool
open Go Go.RowKit

/-- Does a handle live? -/
def livesB (S : List Slot) (h : Hand) : Bool := decide (0 ≤ h.1) && (S[h.1.toNat]? == some (h.2, true))

set_option maxRecDepth 100000 in
theorem lives_any {w0 w : World} {L : List Res} {p : Nat} {S : List Slot} {f : List Nat} {c : Int} (X : Star w0 w (PoolR p S f c :: L)) (h : Hand) :
    Calls Tryd.prog 30 #[.pointer (some ⟨p, 0, none⟩), hv h] w fun r w' => r = .returned (.bool (livesB S h)) ∧ Same w w' := by
  obtain ⟨x, g⟩ := h
  obtain ⟨vs, vf, hY⟩ := PoolR.open X
  have Y := hid hY
  clear X hY
  by_cases h0 : 0 ≤ x
  · obtain ⟨i, rfl⟩ := Int.eq_ofNat_of_zero_le h0
    by_cases hi : i < S.length
    · obtain ⟨⟨g', b⟩, hs⟩ : ∃ s, S[i]? = some s := ⟨_, List.getElem?_eq_getElem hi⟩
      obtain ⟨gs, cs, m, rfl, ⟨hm, hmc, hmx⟩, e0, e1, -, hgs, hgp⟩ := slot_facts Y.out i _ hs
      have hres : livesB S ((i : Int), g) = ((g' == g) && b) := by
        unfold livesB
        simp only [Int.toNat_natCast, hs]
        rw [Bool.eq_iff_iff]
        cases b <;> simp
      have HR := hid hres
      have him : i < m := by omega
      simp only at e0 e1
      clear hres hs hm hi
      have hbk1 := Y.out.blk 0 rfl
      have h0 : w.cell? ⟨p, 0, none⟩ = some (.slice (some ⟨gs, 0, none⟩) m cs) := cell_of hbk1.1 0
      have hl : p < w.heap.size := lt_of hbk1.1
      clear hbk1

      cases b <;> by_cases hg : g' = g
      all_goals
        first | subst hg | (have hgb : (g' == g) = false := by simpa using hg)
        go_enter Tryd.func30, Tryd.ntmps30
        go_wp2
        go_quiet (fail)
        go_wp2
        go_ret
        exact ⟨ret_bool (by rw [HR.out]; simp [*]), (((Chg.refl _).alloc _).drewN _)⟩
    · obtain ⟨av, cs, m, rfl, hm, hmc, hmx⟩ := slots_shape Y.out
      have hres : livesB S ((i : Int), g) = false := by
        unfold livesB
        simp only [Int.toNat_natCast, List.getElem?_eq_none (Nat.le_of_not_lt hi)]
        simp
      have HR := hid hres
      have him : ¬ i < m := by omega
      have hd : decide (i < m) = false := by simpa using him
      clear hres hm hi
      have hbk2 := Y.out.blk 0 rfl
      have h0 : w.cell? ⟨p, 0, none⟩ = some (.slice av m cs) := cell_of hbk2.1 0
      have hl : p < w.heap.size := lt_of hbk2.1
      clear hbk2

      go_enter Tryd.func30, Tryd.ntmps30
      go_wp2
      go_quiet (fail)
      go_wp2
      go_ret
      exact ⟨ret_bool HR.out.symm, (((Chg.refl _).alloc _).drewN _)⟩
  · have hres : livesB S (x, g) = false := by
      unfold livesB
      simp only [h0]
      simp
    have HR := hid hres
    have hd : decide (0 ≤ x) = false := by simpa using h0
    clear hres
    go_enter Tryd.func30, Tryd.ntmps30
    go_wp2
    go_quiet (fail)
    go_wp2
    go_ret
    exact ⟨ret_bool HR.out.symm, (((Chg.refl _).alloc _).drewN _)⟩

set_option maxRecDepth 100000 in
theorem free_no {w0 w : World} {L : List Res} {p : Nat} {S : List Slot} {f : List Nat} {c : Int} (X : Star w0 w (PoolR p S f c :: L)) (h : Hand) (hl : livesB S h = false) (e : Value) (he : w0.cell? ⟨1, 0, none⟩ = some e) :
    Calls Tryd.prog 22 #[.pointer (some ⟨p, 0, none⟩), hv h] w fun r w' => r = .returned e ∧ Same w w' := by
  have H := hid X
  have HL := hid hl
  have HE := hid he
  obtain ⟨x, g⟩ := h
  clear X hl he
  go_enter Tryd.func22, Tryd.ntmps22
  go_wp2_with fail
  have H1 := hid (H.out.go (w' := w.alloc (.cells #[.int .i64 x, .int .i64 g] 42)) ((Chg.refl _).alloc _))
  refine (lives_any H1.out (x, g)).mono ?_
  rintro r w1 ⟨rfl, hs⟩
  rw [HL.out]
  have H2 := hid (H1.out.go hs)
  have HS := hid (Chg.trans (S := fun _ => False) ((Chg.refl w).alloc (.cells #[.int .i64 x, .int .i64 g] 42)) hs (fun _ _ f => f))
  have hE := H2.out.keepCell HE.out
  clear hs H H1
  go_wp2
  go_ret
  exact ⟨rfl, HS.out⟩

/-- What freeing leaves. -/
def gone (g : Int) : Slot := (if g < 1073741824 then g + 1 else g, false)
def freed (f : List Nat) (i : Nat) (g : Int) : List Nat := if g < 1073741824 then f ++ [i] else f

set_option maxRecDepth 100000 in
set_option maxHeartbeats 1000000 in
theorem free_yes {w0 w : World} {L : List Res} {p : Nat} {S : List Slot} {f : List Nat} {c : Int} (X : Star w0 w (PoolR p S f c :: L)) (i : Nat) (g : Int) (hi : S[i]? = some (g, true)) (hg : 1 ≤ g ∧ g ≤ 1073741824) (hc : 0 ≤ c ∧ c ≤ 1000) (hf : f.length ≤ 1000) :
    Calls Tryd.prog 22 #[.pointer (some ⟨p, 0, none⟩), hv (i, g)] w fun r w' => r = .returned .nilIface ∧ Star w0 w' (PoolR p (S.set i (gone g)) (freed f i g) (c - 1) :: L) := by
  obtain ⟨i0, hi0, hz0, hz1, hz2⟩ := info_parts infoI
  have X0 := hid ((X.alloc #[.int .i64 i, .int .i64 g] 42).swap)
  have HI := hid hi
  have hlt := (List.getElem?_eq_some_iff.1 hi).1
  have HL := hid (show livesB S (i, g) = true by unfold livesB; simp [hi])
  clear X hi
  go_enter Tryd.func22, Tryd.ntmps22
  go_wp2_with fail
  refine (lives_any X0.out (i, g)).mono ?_
  rintro r w1 ⟨rfl, hs⟩
  rw [HL.out]
  obtain ⟨vs, vf, hY⟩ := PoolR.open (X0.out.go hs)
  have Y := hid hY
  obtain ⟨gs, cs, m, rfl, ⟨hm, hmc, hmx⟩, e0, e1, hfs, hgs, hgp⟩ := slot_facts hY i (g, true) HI.out
  obtain ⟨bf, cf, n, rfl, hn, hnc, hnx⟩ := free_shape hY
  have HM := hid hm
  have HN := hid hn
  have him : i < m := by omega
  have hn1 : n ≤ 1000 := by omega
  clear hY hm hn hs X0 e0 e1 hfs hgs
  have hbk3 := Y.out.blk 0 rfl
  have h0 : w1.cell? ⟨p, 0, none⟩ = some (.slice (some ⟨gs, 0, none⟩) m cs) := cell_of hbk3.1 0
  have hl : p < w1.heap.size := lt_of hbk3.1
  clear hbk3
  have hbk4 := Y.out.blk 3 rfl
  have b0 : w1.cell? ⟨w.heap.size, 0, none⟩ = some (.int .i64 i) := cell_of hbk4.1 0
  have b1 : w1.cell? ⟨w.heap.size, 1, none⟩ = some (.int .i64 g) := cell_of hbk4.1 1
  have bl : w.heap.size < w1.heap.size := lt_of hbk4.1
  clear hbk4

  generalize w.heap.size = q at *
  go_wp2
  go_quiet (fail)
  have Y2 := hid (Y.out.go ((Chg.refl _).drewN nq))
  clear Y h0 hl b0 b1 bl
  generalize w1.drewN nq = w2 at *
  have hrow := Y2.out.row 1 rfl
  rw [← HM.out] at hrow
  have e0 : w2.cell? ⟨gs, i * 2, none⟩ = some (.int .i64 g) := (hrow.1.cellAt (i * 2) (by omega)).trans ((rows_get sl sl_len S i 0 (g, true) HI.out (by omega)).trans rfl)
  have e1 : w2.cell? ⟨gs, i * 2 + 1, none⟩ = some (.bool true) := (hrow.1.cellAt (i * 2 + 1) (by omega)).trans ((rows_get sl sl_len S i 1 (g, true) HI.out (by omega)).trans rfl)
  have e0f := hrow.1.frozenAt (i * 2)
  have e1f := hrow.1.frozenAt (i * 2 + 1)
  have hgl := (hrow.1.lt gs rfl).2
  clear hrow
  have hbk5 := Y2.out.blk 0 rfl
  have h1 : w2.cell? ⟨p, 1, none⟩ = some (.slice bf n cf) := cell_of hbk5.1 1
  have h2 : w2.cell? ⟨p, 2, none⟩ = some (.int .i64 c) := cell_of hbk5.1 2
  have hf2 : w2.frozen? ⟨p, 2, none⟩ = false := free_of hbk5.1 2
  have hl : p < w2.heap.size := lt_of hbk5.1
  clear hbk5
  obtain ⟨n1a, n1b⟩ := Y2.out.neBR 0 1 rfl rfl (by omega)

  by_cases hg2 : g < 1073741824
  · go_wp2
    have hY3 := ((Y2.out.store 1 rfl (i * 2 + 1) (.bool false)).put 0 rfl 2 (.int .i64 (c - 1))).store 1 rfl (i * 2) (.int .i64 (g + 1))
    have Y3 := hid hY3
    clear Y2 h1 h2 hf2 hl e0 e1 e0f e1f hgl hY3
    generalize ((w2.setCell _ _).setCell _ _).setCell _ _ = w3 at *
    have hbk6 := Y3.out.blk 0 rfl
    have h1 : w3.cell? ⟨p, 1, none⟩ = some (.slice bf n cf) := cell_of hbk6.1 1
    have hl : p < w3.heap.size := lt_of hbk6.1
    clear hbk6
    have hbk7 := Y3.out.blk 3 rfl
    have b0 : w3.cell? ⟨q, 0, none⟩ = some (.int .i64 i) := cell_of hbk7.1 0
    have bl : q < w3.heap.size := lt_of hbk7.1
    clear hbk7

    have hrow := hid (Y3.out.row 2 rfl)
    rw [← HN.out] at hrow
    have HP := hid (Y3.out.blk 0 rfl).1
    go_region_law ((refine step_app rfl (.tmp 44) (.tmp 47) 53 rfl 3 i0 (.int .i64 0) 1 8 Tryd.underlying53 hi0 hz0 hz1 hz2 rfl (by decide) (.slice bf n cf) n (f.map nv) (by simp [Act.eval, Act.put]) (by exact own_chg (S := fun _ => False) hrow.out.1 (by repeat (first | exact Chg.refl _ | refine Chg.drew ?_ | refine Chg.alloc _ ?_)) (fun _ _ f => f)) (some ⟨w3.heap.size, 0, none⟩) 1 1 [.int .i64 i] (by simp [Act.eval, Act.put]) (by exact reads_blk (cs := #[.int .i64 i]) (E := 3) (f := (0, 0)) (alloc_new w3 _) 1 1 1 rfl) (by intro u hu; simp at hu; subst hu; rfl) (by omega) (by omega) ?_); intro a8 c8 w8 ho8 hg8 hn8; have Y8 := hid ((Y3.out.go (show Same w3 _ by repeat (first | exact Chg.refl _ | refine Chg.drew ?_ | refine Chg.alloc _ ?_))).grown 2 rfl ho8 hg8 hn8); have p1 := cell_of (Y8.out.blk 0 rfl).1 1; have p1f := free_of (Y8.out.blk 0 rfl).1 1; clear ho8 hg8 hn8)
    all_goals
      go_wp2
      go_ret
      refine ⟨rfl, ?_⟩
      have h3 : Star w0 _ (blkR p (.slice (some ⟨gs, 0, none⟩) m cs) (.slice a8 (n + 1) c8) (c - 1) :: Row 58 2 (.slice (some ⟨gs, 0, none⟩) m cs) S.length (((S.flatMap sl).set (i * 2 + 1) (.bool false)).set (i * 2) (.int .i64 (g + 1))) :: Row 3 1 (.slice a8 (n + 1) c8) (n + 1) (f.map nv ++ [.int .i64 i]) :: L) := ((Y8.out.put 0 rfl 1 (.slice a8 (n + 1) c8)).pull 3 rfl).drop
      have e2 := rows_set1 sl sl_len (S.set i (g, false)) i 0 (g, false) (g + 1, false) (.int .i64 (g + 1)) (by simp [hlt]) (by omega) rfl
      rw [Nat.add_zero, List.set_set] at e2
      have eg : gone g = (g + 1, false) := by unfold gone; rw [if_pos hg2]
      have ef : freed f i g = f ++ [i] := by unfold freed; rw [if_pos hg2]
      rw [rows_set1 sl sl_len S i 1 (g, true) (g, false) (.bool false) HI.out (by omega) rfl, e2, ← eg] at h3
      rw [ef]
      have hl1 : (S.set i (gone g)).length = S.length := List.length_set
      have hl2 : n + 1 = (f ++ [i]).length := by rw [HN.out]; simp
      have em : f.map nv ++ [.int .i64 i] = (f ++ [i]).map nv := by simp [nv]
      rw [← hl1, em] at h3
      generalize n + 1 = n1 at *
      subst hl2
      exact PoolR.close h3
  · go_wp2
    go_ret
    refine ⟨rfl, ?_⟩
    have h3 : Star w0 _ (blkR p (.slice (some ⟨gs, 0, none⟩) m cs) (.slice bf n cf) (c - 1) :: Row 58 2 (.slice (some ⟨gs, 0, none⟩) m cs) S.length ((S.flatMap sl).set (i * 2 + 1) (.bool false)) :: freeR (.slice bf n cf) f :: L) := ((((Y2.out.store 1 rfl (i * 2 + 1) (.bool false)).put 0 rfl 2 (.int .i64 (c - 1)))).pull 3 rfl).drop
    have eg : gone g = (g, false) := by unfold gone; rw [if_neg (by omega)]
    have ef : freed f i g = f := by unfold freed; rw [if_neg (by omega)]
    rw [rows_set1 sl sl_len S i 1 (g, true) (g, false) (.bool false) HI.out (by omega) rfl, ← eg] at h3
    rw [ef]
    have hl1 : (S.set i (gone g)).length = S.length := List.length_set
    rw [← hl1] at h3
    exact PoolR.close h3

/-- The handles that live. -/
def liveFrom : Nat → List Slot → List Hand
  | _, [] => []
  | k, (g, b) :: S => if b then ((k : Int), g) :: liveFrom (k + 1) S else liveFrom (k + 1) S
def live (S : List Slot) : List Hand := liveFrom 0 S
theorem liveFrom_append (A B : List Slot) : ∀ k, liveFrom k (A ++ B) = liveFrom k A ++ liveFrom (k + A.length) B := by
  induction A with
  | nil => intro k; simp [liveFrom]
  | cons s A ih =>
    intro k
    obtain ⟨g, b⟩ := s
    cases b <;> simp [liveFrom, ih, Nat.add_assoc, Nat.add_comm 1]
theorem live_take (S : List Slot) (k : Nat) (s : Slot) (h : S[k]? = some s) : live (S.take (k + 1)) = live (S.take k) ++ if s.2 then [((k : Int), s.1)] else [] := by
  obtain ⟨hk, rfl⟩ := List.getElem?_eq_some_iff.1 h
  unfold live
  rw [List.take_succ_eq_append_getElem hk, liveFrom_append, List.length_take, Nat.min_eq_left (Nat.le_of_lt hk), Nat.zero_add]
  rcases hs : S[k] with ⟨g, b⟩
  cases b <;> simp [liveFrom]
theorem live_le (S : List Slot) : ∀ k, (liveFrom k S).length ≤ S.length := by
  induction S with
  | nil => intro k; simp [liveFrom]
  | cons s S ih =>
    intro k
    obtain ⟨g, b⟩ := s
    have := ih (k + 1)
    cases b <;> simp [liveFrom] <;> omega
theorem infoH : (Tryd.prog.info? 42).map (fun i => (i.zero, i.size, i.bytes)) = some (some (.agg #[.int .i64 0, .int .i64 0]), 2, 16) := by kernel_rfl

set_option maxRecDepth 100000 in
set_option maxHeartbeats 1000000 in
theorem list_any {w0 w : World} {L : List Res} {p : Nat} {S : List Slot} {f : List Nat} {c : Int} (X : Star w0 w (PoolR p S f c :: L)) (hS : S.length ≤ 1000) :
    Calls Tryd.prog 21 #[.pointer (some ⟨p, 0, none⟩)] w fun r w' => ∃ v, r = .returned v ∧ Star w0 w' (Row 42 2 v (live S).length ((live S).flatMap hl) :: PoolR p S f c :: L) := by
  obtain ⟨i0, hi0, hz0, hz1, hz2⟩ := info_parts infoH
  obtain ⟨vs, vf, hY⟩ := PoolR.open X
  have Y := hid hY
  obtain ⟨av, cs, m, rfl, hm, hmc, hmx⟩ := slots_shape hY
  have HM := hid hm
  have hm1 : m ≤ 1000 := by omega
  clear hY X hm hS
  have hbk8 := Y.out.blk 0 rfl
  have pc0 : w.cell? ⟨p, 0, none⟩ = some (.slice av m cs) := cell_of hbk8.1 0
  have pcl : p < w.heap.size := lt_of hbk8.1
  clear hbk8

  go_enter Tryd.func21, Tryd.ntmps21
  go_wp2
  go_loopw [3, 11] (fun v iv wr => ∃ k : Nat, k ≤ m ∧ iv = .int .i64 k ∧ Star w0 wr (Row 42 2 v (live (S.take k)).length ((live (S.take k)).flatMap hl) :: blkR p (.slice av m cs) vf c :: slotsR (.slice av m cs) S :: freeR vf f :: L)) (fun _ iv _ => m - (intOf iv).toNat)
  case atStart => exact ⟨0, by omega, rfl, Y.out.nilRow _ _⟩
  case round =>
    obtain ⟨k, hk, rfl, hZ⟩ := hrel
    have Z := hid hZ
    obtain ⟨a, cp, n, e, hn⟩ : ∃ a cp n, _ = Value.slice a n cp ∧ n = (live (S.take k)).length := by
      obtain ⟨a, cp, h, _⟩ := own_slice (hZ.row 0 rfl).1
      exact ⟨a, cp, _, h, rfl⟩
    subst e
    have HN := hid hn
    clear hZ Y pc0 pcl hn
    by_cases hkm : k < m
    · have hks : k < S.length := by have := HM.out; omega
      obtain ⟨⟨g, b⟩, hs⟩ : ∃ s, S[k]? = some s := ⟨_, List.getElem?_eq_getElem hks⟩
      have hrow := Z.out.row 2 rfl
      rw [← HM.out] at hrow
      obtain ⟨gs, cs', e⟩ := own_shape hrow.1 (by omega)
      cases e
      have e0 : wr.cell? ⟨gs, k * 2, none⟩ = some (.int .i64 g) := (hrow.1.cellAt (k * 2) (by omega)).trans ((rows_get sl sl_len S k 0 (g, b) hs (by omega)).trans rfl)
      have e1 : wr.cell? ⟨gs, k * 2 + 1, none⟩ = some (.bool b) := (hrow.1.cellAt (k * 2 + 1) (by omega)).trans ((rows_get sl sl_len S k 1 (g, b) hs (by omega)).trans rfl)
      have hgl := (hrow.1.lt gs rfl).2
      have hnk : n ≤ k := by
        have := live_le (S.take k) 0
        rw [List.length_take] at this
        have h2 := HN.out
        unfold live at h2
        omega
      have HT := hid (live_take S k (g, b) hs)
      have hr0 := hid (Z.out.row 0 rfl).1
      rw [← HN.out] at hr0
      clear hrow hs
      cases b with
      | false =>
        go_wp2
        go_roundw
        case rel =>
          refine ⟨k + 1, by omega, by go_num, ?_⟩
          rw [HT.out]
          simp only [Bool.false_eq_true, if_false, List.append_nil]
          exact Z.out.go ((Chg.refl _).alloc _)
        case measure => simp [intOf]; omega
      | true =>
        go_wp2_with (at_builtin; refine wpList_app rfl _ _ 45 rfl 42 i0 (.agg #[.int .i64 0, .int .i64 0]) 2 16 Tryd.underlying45 hi0 hz0 hz1 hz2 rfl (by decide) _ n ((live (S.take k)).flatMap hl) rfl (own_chg (S := fun _ => False) hr0.out (by repeat (first | exact Chg.refl _ | refine Chg.drew ?_ | refine Chg.alloc _ ?_)) (fun _ _ f => f)) (some _) 1 1 (hl ((k : Int), g)) rfl (reads_blk (cs := #[.int .i64 k, .int .i64 g]) (E := 42) (f := (0, 0)) (by first | exact alloc_new _ _ | exact alloc2_new _ _ _) 1 1 2 rfl) (hl_one _) (by omega) (by omega) ?_)
        intro a7 c7 w7 ho7 hg7 hn7
        have hZ7 := (Z.out.go (by repeat (first | exact Chg.refl _ | refine Chg.drew ?_ | refine Chg.alloc _ ?_))).grown 0 rfl ho7 hg7 hn7
        have Z7 := hid hZ7
        clear hZ7 ho7 hg7 hn7 e0 e1 hgl hr0
        go_wp2
        go_roundw
        case rel =>
          refine ⟨k + 1, by omega, by go_num, ?_⟩
          have e2 : (live (S.take k)).flatMap hl ++ hl ((k : Int), g) = (live (S.take k) ++ [((k : Int), g)]).flatMap hl := by simp
          have e3 : n + 1 = (live (S.take k) ++ [((k : Int), g)]).length := by rw [HN.out]; simp
          have h := Z7.out
          rw [e2, e3] at h
          rw [HT.out]
          simp only [if_true]
          rw [e3]
          exact h
        case measure => simp [intOf]; omega
    · go_wp2
      go_ret
      have e : S.take k = S := List.take_of_length_le (by have := HM.out; omega)
      have h := Z.out
      rw [e] at h
      refine ⟨_, rfl, ?_⟩
      exact (PoolR.close (((h.pull 3 rfl).pull 3 rfl).pull 3 rfl)).swap
end Go.Proofs.YtminjgfobcnmhaaDoor.Pool
