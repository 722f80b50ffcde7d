/-
  paddockref18's Turns, by its contract.
-/
import Derived.Test.YtdihnjhbopogoaaDoorTurnsP
import Derived.Test.YtdihnjhbopogoaaDoorRefCost
import Derived.Test.YtdihnjhbopogoaaDoorSearchAll
namespace Go.Proofs.YtdihnjhbopogoaaDoor
section
variable {G : Gr}
/-- What the document's loop has after so many tiles. -/
def Gr.rt (G : Gr) (ns : List Nat) (k : Nat) : List Nat := if k = 0 then [] else if k < ns.length then G.tr ns k else G.turns ns
theorem Gr.rt_len (ns : List Nat) (k : Nat) : (G.rt ns k).length ≤ k + ns.length + 1 := by
  unfold Gr.rt
  split
  · simp
  · split
    · have := Gr.tr_len (G := G) ns k; omega
    · have := Gr.turns_len (G := G) ns; omega
theorem Gr.rt_first {ns : List Nat} {t : Nat} (h : ns[0]? = some t) : G.rt ns (0 + 1) = G.rt ns 0 ++ [t] := by
  have hl := (List.getElem?_eq_some_iff.1 h).1
  unfold Gr.rt
  rw [if_neg (by omega), if_pos rfl, List.nil_append]
  split
  · unfold Gr.tr
    have : G.turnAt ns 0 = false := rfl
    rw [this]
    simp only [Gr.tr, getD_of h]
    rfl
  · unfold Gr.turns
    rw [if_neg (by omega)]
    simp only [Gr.tr, getD_of h]
theorem Gr.rt_last {ns : List Nat} {t k : Nat} (h0 : k ≠ 0) (hk : k = ns.length - 1) (h : ns[k]? = some t) : G.rt ns (k + 1) = G.rt ns k ++ [t] := by
  have hl := (List.getElem?_eq_some_iff.1 h).1
  unfold Gr.rt
  rw [if_neg (by omega), if_neg (by omega), if_neg h0, if_pos hl]
  unfold Gr.turns
  rw [if_pos (by omega), ← hk, getD_of h]
theorem Gr.rt_mid {ns : List Nat} {t k : Nat} (h0 : k ≠ 0) (hk : k + 1 < ns.length) (h : ns[k]? = some t) : G.rt ns (k + 1) = G.rt ns k ++ (if G.turnAt ns k = true then [t] else []) := by
  unfold Gr.rt
  rw [if_neg (by omega), if_pos hk, if_neg h0, if_pos (by omega)]
  conv => lhs; unfold Gr.tr
  rw [getD_of h]
theorem Gr.mid_turn (hG : G.Ok) {ns : List Nat} {c : Int} (hw : G.walkC ns = some c) {k a t b : Nat} (ha : ns[k]? = some a) (ht : ns[k + 1]? = some t) (hb : ns[k + 1 + 1]? = some b) : G.turnAt ns (k + 1) = G.refTurn a t b := by
  obtain ⟨e0, he0⟩ := Gr.walkC_edge ns hw k a t ha ht
  obtain ⟨e1, he1⟩ := Gr.walkC_edge ns hw (k + 1) t b ht hb
  obtain ⟨d, _, h1, h2, _⟩ := Gr.edge_dir he0
  obtain ⟨e, _, h3, h4, _⟩ := Gr.edge_dir he1
  rw [Gr.turn_ref hG h1 h3]
  unfold Gr.turnAt
  rw [Nat.add_sub_cancel, getD_of ha, getD_of ht, getD_of hb, h2, h4, decide_eq_true (by omega), Bool.true_and]
end
end Go.Proofs.YtdihnjhbopogoaaDoor
namespace Go.Proofs.YtdihnjhbopogoaaDoor.Jmp
open Go Go.RowKit Go.Proofs.YtdihnjhbopogoaaDoor.Steps Go.Proofs.YtdihnjhbopogoaaDoor.Route
section
variable {w : World} {p pg pc : Nat} {G : Gr}
set_option maxRecDepth 100000 in
set_option maxHeartbeats 8000000 in
theorem rturns_any (h : Gnd 71 w p pg pc G) (v : Value) (xs : List Int) (hr : Ints w v xs) (hx : xs.length ≤ 100000) (hne : xs ≠ []) (hhas : ∀ x ∈ xs, G.has x = true) (hfree : ∀ x ∈ xs, G.free x.toNat = true) (kc : Int) (hwk : G.walkC (xs.map Int.toNat) = some kc) :
    Calls Tryd.prog 24 #[.pointer (some ⟨p, 0, none⟩), v] w fun r w' => ∃ u, r = .returned u ∧ Star w w' [Row 3 1 u (G.turns (xs.map Int.toNat)).length (gC (G.turns (xs.map Int.toNat)))] := by
  obtain ⟨i0, hi0, hz0, hz1, hz2⟩ := info_parts infoInt
  obtain ⟨a, cp, rfl⟩ := hr.slice
  have H := hid h
  obtain ⟨n, hn⟩ : ∃ n, n = xs.length := ⟨_, rfl⟩
  have hn1 : 1 ≤ n := by rw [hn]; cases xs with | nil => exact absurd rfl hne | cons _ _ => simp
  obtain ⟨b, off, cap, e1, hb, hcl⟩ := hr.cells (by omega)
  cases e1
  obtain ⟨ns, hns⟩ : ∃ ns, ns = xs.map Int.toNat := ⟨_, rfl⟩
  have hnsl : ns.length = n := by rw [hns, List.length_map, ← hn]
  have hnsg : ∀ (j : Nat) (x : Nat), ns[j]? = some x → w.cell? ⟨b, off + j, none⟩ = some (.int .i64 (x : Nat)) ∧ G.free x = true := by
    intro j x hj
    have hjx : j < xs.length := by have := (List.getElem?_eq_some_iff.1 hj).1; omega
    have h1 := hcl j hjx
    have h3 : 0 ≤ xs[j] ∧ xs[j] < G.fs.length := of_decide_eq_true (hhas xs[j] (List.getElem_mem hjx))
    have e : x = (xs[j]).toNat := by
      rw [hns, List.getElem?_map, List.getElem?_eq_getElem hjx] at hj
      exact (Option.some.inj hj).symm
    rw [e, h1, Int.toNat_of_nonneg h3.1]
    exact ⟨rfl, hfree _ (List.getElem_mem hjx)⟩
  have HNG := hid hnsg
  have HNL := hid hnsl
  have HW := hid (show G.walkC ns = some kc by rw [hns]; exact hwk)
  rw [← hns, ← hn]
  rw [← hn] at hx
  have X0 := hid ((Star.new w).add (w' := w.alloc (.cells #[] 3)) ((Chg.refl _).alloc _) (R := Row 3 1 (.slice (some ⟨w.heap.size, 0, none⟩) 0 0) 0 (gC [])) ⟨World.ownsRow_lit (base := 0) w #[] 0 (Nat.zero_le _) (by unfold maxLen; omega) rfl, rfl⟩ (fun k h => by simp [Value.ownBlock] at h; omega))
  obtain ⟨nl, hnl⟩ : ∃ nl : Nat, nl = n - 1 := ⟨_, rfl⟩
  have hnl2 : (n : Int) - 1 = (nl : Int) := by omega
  have hwnl : IntKind.i64.wrap (nl : Int) = (nl : Int) := IntWalk.i64_in _ (by omega)
  have HNN := hid (show n = nl + 1 by omega)
  clear h hr hn hcl hne hhas hfree hwk hns hnsl hnsg hnl
  go_enter Tryd.func24, Tryd.ntmps24
  go_wp2_with fail
  go_loopw [5, 13] (fun ov iv wr => ∃ k : Nat, k ≤ n ∧ iv = .int .i64 k ∧ Star w wr [Row 3 1 ov (G.rt ns k).length (gC (G.rt ns k))]) (fun _ iv _ => n - (intOf iv).toNat)
  case atStart => exact ⟨0, by omega, rfl, by unfold Gr.rt; rw [if_pos rfl]; exact X0.out⟩
  case round =>
    obtain ⟨k, hk, rfl, hX⟩ := hrel
    have X2 := hid hX
    obtain ⟨oa, oc, rfl, -⟩ := own_slice (hX.row 0 rfl).1
    have htl := Gr.rt_len (G := G) ns k
    rw [HNL.out] at htl
    obtain ⟨acc, hacc⟩ : ∃ acc, acc = G.rt ns k := ⟨_, rfl⟩
    have HAC := hid hacc
    rw [← hacc] at X2 htl
    rw [← hacc]
    obtain ⟨m, hm⟩ : ∃ m, m = acc.length := ⟨_, rfl⟩
    have HM := hid hm
    rw [← hm] at X2 htl
    rw [← hm]
    clear hX hacc hm X0
    by_cases hkn : k < n
    · obtain ⟨t, hkt⟩ : ∃ t, ns[k]? = some t := ⟨_, List.getElem?_eq_getElem (by have := HNL.out; omega)⟩
      have gt := X2.out.same.keep (HNG.out k t hkt).1
      have HFT := hid (HNG.out k t hkt).2
      have gtl := World.block_lt_of_cell? _ _ gt
      have HKT := hid hkt
      clear hkt
      by_cases hk0 : k = 0
      · subst hk0
        rw [Nat.add_zero] at gt
        have HT := hid (show G.rt ns (0 + 1) = acc ++ [t] by rw [Gr.rt_first HKT.out, HAC.out])
        have XD := hid (X2.out.alloc #[.int .i64 t] 3)
        go_wp2_with (at_builtin; refine wpList_app rfl (.tmp 27) (.tmp 29) 24 rfl 3 i0 (.int .i64 0) 1 8 Tryd.underlying24 hi0 hz0 hz1 hz2 rfl (by decide) _ m (gC acc) rfl (XD.out.row 1 rfl).1 (some ⟨wr.heap.size, 0, none⟩) 1 1 [.int .i64 t] rfl (reads_blk (XD.out.blk 0 rfl).1 1 1 1 rfl) (by simp [Value.oneCell']) (by omega) (by omega) ?_; intro a5 c5 w9 ho5 hg5 hn5; have X9 := hid (XD.out.grown 1 rfl ho5 hg5 hn5); clear ho5 hg5 hn5)
        go_roundw
        case rel =>
          have hrel : ∃ k' : Nat, k' ≤ n ∧ Value.int .i64 (((0 : Nat) : Int) + 1) = .int .i64 k' ∧ Star w _ [Row 3 1 (.slice a5 (m + 1) c5) (G.rt ns k').length (gC (G.rt ns k'))] := ⟨0 + 1, by omega, by go_num, by rw [HT.out]; rw [List.length_append, List.length_singleton, ← HM.out, show gC (acc ++ [t]) = gC acc ++ [.int .i64 t] by simp [gC]]; exact X9.out.drop⟩
          first | exact hrel | ((repeat apply Exists.intro); exact ⟨hrel, rfl⟩)
        case measure => simp [intOf]; omega
      · have hkz : ((k : Int) == 0) = false := by rw [beq_eq_false_iff_ne]; omega
        by_cases hkl : k = nl
        · have HT := hid (show G.rt ns (k + 1) = acc ++ [t] by rw [Gr.rt_last hk0 (by have := HNN.out; have := HNL.out; omega) HKT.out, HAC.out])
          subst hkl
          have XD := hid (X2.out.alloc #[.int .i64 t] 3)
          go_wp2_with (at_builtin; refine wpList_app rfl (.tmp 27) (.tmp 29) 24 rfl 3 i0 (.int .i64 0) 1 8 Tryd.underlying24 hi0 hz0 hz1 hz2 rfl (by decide) _ m (gC acc) rfl (XD.out.row 1 rfl).1 (some ⟨wr.heap.size, 0, none⟩) 1 1 [.int .i64 t] rfl (reads_blk (XD.out.blk 0 rfl).1 1 1 1 rfl) (by simp [Value.oneCell']) (by omega) (by omega) ?_; intro a5 c5 w9 ho5 hg5 hn5; have X9 := hid (XD.out.grown 1 rfl ho5 hg5 hn5); clear ho5 hg5 hn5)
          go_roundw
          case rel =>
            have hrel : ∃ k' : Nat, k' ≤ n ∧ Value.int .i64 ((k : Int) + 1) = .int .i64 k' ∧ Star w _ [Row 3 1 (.slice a5 (m + 1) c5) (G.rt ns k').length (gC (G.rt ns k'))] := ⟨k + 1, by omega, by go_num, by rw [HT.out]; rw [List.length_append, List.length_singleton, ← HM.out, show gC (acc ++ [t]) = gC acc ++ [.int .i64 t] by simp [gC]]; exact X9.out.drop⟩
            first | exact hrel | ((repeat apply Exists.intro); exact ⟨hrel, rfl⟩)
          case measure => simp [intOf]; omega
        · have hkb : ((k : Int) == (nl : Int)) = false := by rw [beq_eq_false_iff_ne]; omega
          have hk1 : k + 1 < n := by have := HNN.out; omega
          obtain ⟨km, hkm⟩ : ∃ km : Nat, k = km + 1 := ⟨k - 1, by omega⟩
          obtain ⟨a, hka⟩ : ∃ a, ns[km]? = some a := ⟨_, List.getElem?_eq_getElem (by have := HNL.out; omega)⟩
          obtain ⟨d, hkd⟩ : ∃ d, ns[k + 1]? = some d := ⟨_, List.getElem?_eq_getElem (by have := HNL.out; omega)⟩
          have ga := X2.out.same.keep (HNG.out km a hka).1
          have gd := X2.out.same.keep (HNG.out (k + 1) d hkd).1
          have hfa := (HNG.out km a hka).2
          have hfd := (HNG.out (k + 1) d hkd).2
          have hta : G.turnAt ns k = G.refTurn a t d := by
            subst hkm
            exact Gr.mid_turn H.out.ok HW.out hka HKT.out hkd
          have HT0 := hid (show G.rt ns (k + 1) = acc ++ (if G.refTurn a t d = true then [t] else []) by rw [Gr.rt_mid hk0 (by rw [HNL.out]; exact hk1) HKT.out, hta, HAC.out])
          have hkm2 : (k : Int) - 1 = (km : Int) := by omega
          have hwkm : IntKind.i64.wrap (km : Int) = (km : Int) := IntWalk.i64_in _ (by omega)
          have hkmn : km < n := by omega
          have hkmn2 : (km : Int) < (n : Int) := by omega
          have hwk1 : IntKind.i64.wrap ((k : Int) + 1) = (k : Int) + 1 := IntWalk.i64_in _ (by omega)
          have hk2 : (k : Int) + 1 < (n : Int) := by omega
          have hk3 : ((k : Int) + 1).toNat = k + 1 := by omega
          have hk4 : (0 : Int) ≤ (k : Int) + 1 := by omega
          have c0 := (H.out.same X2.out.same).c0
          have pl := (H.out.same X2.out.same).pl
          have hw1 := H.out.ok.w1
          have hw2 := H.out.ok.w2
          have hXa : (a : Int).tmod (G.W : Int) = G.X a := (Int.ofNat_tmod a G.W).symm
          have hYa : (a : Int).tdiv (G.W : Int) = G.Y a := (Int.ofNat_tdiv a G.W).symm
          have hXt : (t : Int).tmod (G.W : Int) = G.X t := (Int.ofNat_tmod t G.W).symm
          have hYt : (t : Int).tdiv (G.W : Int) = G.Y t := (Int.ofNat_tdiv t G.W).symm
          have hXd : (d : Int).tmod (G.W : Int) = G.X d := (Int.ofNat_tmod d G.W).symm
          have hYd : (d : Int).tdiv (G.W : Int) = G.Y d := (Int.ofNat_tdiv d G.W).symm
          obtain ⟨ax1, ax2, ax3, -⟩ := Gr.XY H.out.ok a
          have ax4 := Gr.Yin H.out.ok (Gr.free_in hfa)
          obtain ⟨tx1, tx2, tx3, -⟩ := Gr.XY H.out.ok t
          have tx4 := Gr.Yin H.out.ok (Gr.free_in HFT.out)
          obtain ⟨dx1, dx2, dx3, -⟩ := Gr.XY H.out.ok d
          have dx4 := Gr.Yin H.out.ok (Gr.free_in hfd)
          have hh2 := H.out.ok.h2
          have HRT := hid (show G.refTurn a t d = ((G.X t - G.X a != G.X d - G.X t) || (G.Y t - G.Y a != G.Y d - G.Y t)) from rfl)
          clear hka hkd hfa hfd hta hkm
          by_cases hx : G.X t - G.X a = G.X d - G.X t
          · by_cases hy : G.Y t - G.Y a = G.Y d - G.Y t
            · have HT := hid (show G.rt ns (k + 1) = acc by rw [HT0.out, if_neg (by rw [HRT.out]; simp [hx, hy]), List.append_nil])
              go_wp2_with fail
              go_quiet (fail)
              clear ga gd gt gtl
              have S1 := hid (show Same wr (wr.drewN nq) from (Chg.refl _).drewN _)
              have c0 := S1.out.keep c0
              have pl := Nat.lt_of_lt_of_le pl S1.out.size
              generalize wr.drewN nq = w2 at *
              go_wp2_with fail
              go_quiet (fail)
              have S2 := hid (show Same wr (w2.drewN nq) from S1.out.drewN _)
              clear c0 pl hXa hYa hXt hYt hXd hYd S1
              generalize w2.drewN nq = w3 at *
              have X3 := hid (X2.out.go S2.out)
              go_wp2
              go_roundw
              case rel =>
                have hrel : ∃ k' : Nat, k' ≤ n ∧ Value.int .i64 ((k : Int) + 1) = .int .i64 k' ∧ Star w _ [Row 3 1 (.slice oa m oc) (G.rt ns k').length (gC (G.rt ns k'))] := ⟨k + 1, by omega, by go_num, by rw [HT.out]; rw [← HM.out]; exact X3.out⟩
                first | exact hrel | ((repeat apply Exists.intro); exact ⟨hrel, rfl⟩)
              case measure => simp [intOf]; omega
            · have HT := hid (show G.rt ns (k + 1) = acc ++ [t] by rw [HT0.out, if_pos (by rw [HRT.out]; simp [hy])])
              have hyb : (G.Y t - G.Y a == G.Y d - G.Y t) = false := by rw [beq_eq_false_iff_ne]; exact hy
              go_wp2_with fail
              go_quiet (fail)
              clear ga gd gt gtl
              have S1 := hid (show Same wr (wr.drewN nq) from (Chg.refl _).drewN _)
              have c0 := S1.out.keep c0
              have pl := Nat.lt_of_lt_of_le pl S1.out.size
              generalize wr.drewN nq = w2 at *
              go_wp2_with fail
              go_quiet (fail)
              have S2 := hid (show Same wr (w2.drewN nq) from S1.out.drewN _)
              clear c0 pl hXa hYa hXt hYt hXd hYd S1
              generalize w2.drewN nq = w3 at *
              have X3 := hid (X2.out.go S2.out)
              have XD := hid (X3.out.alloc #[.int .i64 t] 3)
              go_wp2_with (at_builtin; refine wpList_app rfl (.tmp 97) (.tmp 99) 24 rfl 3 i0 (.int .i64 0) 1 8 Tryd.underlying24 hi0 hz0 hz1 hz2 rfl (by decide) _ m (gC acc) rfl (XD.out.row 1 rfl).1 (some ⟨w3.heap.size, 0, none⟩) 1 1 [.int .i64 t] rfl (reads_blk (XD.out.blk 0 rfl).1 1 1 1 rfl) (by simp [Value.oneCell']) (by omega) (by omega) ?_; intro a5 c5 w9 ho5 hg5 hn5; have X9 := hid (XD.out.grown 1 rfl ho5 hg5 hn5); clear ho5 hg5 hn5)
              go_roundw
              case rel =>
                have hrel : ∃ k' : Nat, k' ≤ n ∧ Value.int .i64 ((k : Int) + 1) = .int .i64 k' ∧ Star w _ [Row 3 1 (.slice a5 (m + 1) c5) (G.rt ns k').length (gC (G.rt ns k'))] := ⟨k + 1, by omega, by go_num, by rw [HT.out]; rw [List.length_append, List.length_singleton, ← HM.out, show gC (acc ++ [t]) = gC acc ++ [.int .i64 t] by simp [gC]]; exact X9.out.drop⟩
                first | exact hrel | ((repeat apply Exists.intro); exact ⟨hrel, rfl⟩)
              case measure => simp [intOf]; omega
          · have HT := hid (show G.rt ns (k + 1) = acc ++ [t] by rw [HT0.out, if_pos (by rw [HRT.out]; simp [hx])])
            have hxb : (G.X t - G.X a == G.X d - G.X t) = false := by rw [beq_eq_false_iff_ne]; exact hx
            have hxf : (G.X t - G.X a != G.X d - G.X t) = true := bne_iff_ne.2 hx
            clear hx
            go_wp2_with fail
            go_quiet (fail)
            clear ga gd gt gtl
            have S1 := hid (show Same wr (wr.drewN nq) from (Chg.refl _).drewN _)
            have c0 := S1.out.keep c0
            have pl := Nat.lt_of_lt_of_le pl S1.out.size
            generalize wr.drewN nq = w2 at *
            go_wp2_with fail
            go_quiet (fail)
            have S2 := hid (show Same wr (w2.drewN nq) from S1.out.drewN _)
            clear c0 pl hXa hYa hXt hYt hXd hYd S1
            generalize w2.drewN nq = w3 at *
            have X3 := hid (X2.out.go S2.out)
            have XD := hid (X3.out.alloc #[.int .i64 t] 3)
            go_wp2_with (at_builtin; refine wpList_app rfl (.tmp 97) (.tmp 99) 24 rfl 3 i0 (.int .i64 0) 1 8 Tryd.underlying24 hi0 hz0 hz1 hz2 rfl (by decide) _ m (gC acc) rfl (XD.out.row 1 rfl).1 (some ⟨w3.heap.size, 0, none⟩) 1 1 [.int .i64 t] rfl (reads_blk (XD.out.blk 0 rfl).1 1 1 1 rfl) (by simp [Value.oneCell']) (by omega) (by omega) ?_; intro a5 c5 w9 ho5 hg5 hn5; have X9 := hid (XD.out.grown 1 rfl ho5 hg5 hn5); clear ho5 hg5 hn5)
            go_roundw
            case rel =>
              have hrel : ∃ k' : Nat, k' ≤ n ∧ Value.int .i64 ((k : Int) + 1) = .int .i64 k' ∧ Star w _ [Row 3 1 (.slice a5 (m + 1) c5) (G.rt ns k').length (gC (G.rt ns k'))] := ⟨k + 1, by omega, by go_num, by rw [HT.out]; rw [List.length_append, List.length_singleton, ← HM.out, show gC (acc ++ [t]) = gC acc ++ [.int .i64 t] by simp [gC]]; exact X9.out.drop⟩
              first | exact hrel | ((repeat apply Exists.intro); exact ⟨hrel, rfl⟩)
            case measure => simp [intOf]; omega
    · have hke : k = n := by omega
      have HT := hid (show acc = G.turns ns by rw [HAC.out, hke, ← HNL.out]; unfold Gr.rt; rw [if_neg (by have := HNL.out; omega), if_neg (by omega)])
      go_wp2
      go_ret
      refine ⟨_, rfl, ?_⟩
      rw [← HT.out, ← HM.out]
      exact X2.out
end
end Go.Proofs.YtdihnjhbopogoaaDoor.Jmp
