/-
  paddocklaw19's same: a field answers as the model says.
-/
import Derived.Test.YtilobedihjkpjaaDoorFieldStepsP
import Derived.Test.YtilobedihjkpjaaDoorRefCosts
import Derived.Test.YtilobedihjkpjaaDoorRefGo
import Derived.Test.YtilobedihjkpjaaDoorRouteFind
import Derived.Test.YtilobedihjkpjaaDoorFieldNearest
import Derived.Test.YtilobedihjkpjaaDoorErr
import Derived.Test.YtilobedihjkpjaaDoorNum
namespace Go.Proofs.YtilobedihjkpjaaDoor
/-- The best direction of the first d, as the document finds it. -/
def BestD (G : Gr) (c : List Int) (t d : Nat) (dir best : Int) : Prop :=
  (dir = -1 ∧ best = -1 ∧ ∀ y ∈ G.around t, ¬ y.d < d) ∨
  (0 ≤ best ∧ ∃ s ∈ G.around t, s.d < d ∧ dir = s.d ∧ best = cAt c s.to + s.c ∧ ∀ y ∈ G.around t, y.d < d → best ≤ cAt c y.to + y.c ∧ (y.d < s.d → best < cAt c y.to + y.c))
section
variable {G : Gr} {c : List Int} {gs : List Nat} {t d : Nat} {dir best : Int}
theorem BestD.start : BestD G c t 0 (-1) (-1) := .inl ⟨rfl, rfl, fun y _ => by omega⟩
theorem around_det {x y : Gr.St} (hx : x ∈ G.around t) (hy : y ∈ G.around t) (e : x.d = y.d) : x = y := by
  have h1 := Gr.mem_around.1 hx
  have h2 := Gr.mem_around.1 hy
  rw [e, h2] at h1
  obtain ⟨a, b, d⟩ := x
  obtain ⟨a', b', d'⟩ := y
  simp only [Option.some.injEq, Prod.mk.injEq] at h1 e
  rw [e, h1.1, h1.2]
theorem BestD.low (h : BestD G c t d dir best) : -1 ≤ best := by rcases h with h | h <;> omega
theorem BestD.none (h : BestD G c t d dir best) (hg : G.go t d = none) : BestD G c t (d + 1) dir best := by
  have key : ∀ y ∈ G.around t, y.d < d + 1 → y.d < d := by
    intro y hy hl
    rcases Nat.lt_or_ge y.d d with h | h
    · exact h
    · have e : y.d = d := by omega
      have := Gr.mem_around.1 hy
      rw [e, hg] at this; cases this
  rcases h with ⟨h1, h2, h3⟩ | ⟨h0, s, h1, h2, h3, h4, h5⟩
  · exact .inl ⟨h1, h2, fun y hy hl => h3 y hy (key y hy hl)⟩
  · exact .inr ⟨h0, s, h1, by omega, h3, h4, fun y hy hl => h5 y hy (key y hy hl)⟩
theorem BestD.keep {u : Nat} {k : Int} (h : BestD G c t d dir best) (hg : G.go t d = some (u, k)) (hb : ¬ best < 0) (hle : ¬ cAt c u + k < best) : BestD G c t (d + 1) dir best := by
  rcases h with ⟨h1, h2, h3⟩ | ⟨h0, s, h1, h2, h3, h4, h5⟩
  · omega
  · refine .inr ⟨h0, s, h1, by omega, h3, h4, fun y hy hl => ?_⟩
    rcases Nat.lt_or_ge y.d d with h | h
    · exact h5 y hy h
    · have e : y.d = d := by omega
      have h6 := Gr.mem_around.1 hy
      rw [e, hg] at h6
      simp only [Option.some.injEq, Prod.mk.injEq] at h6
      rw [← h6.1, ← h6.2]
      exact ⟨by omega, fun h => by omega⟩
theorem BestD.take {u : Nat} {k : Int} (h : BestD G c t d dir best) (hg : G.go t d = some (u, k)) (hu : 0 ≤ cAt c u) (hb : best < 0 ∨ cAt c u + k < best) : BestD G c t (d + 1) d (cAt c u + k) := by
  have hx : (⟨d, u, k⟩ : Gr.St) ∈ G.around t := Gr.mem_around.2 hg
  have hpos := Gr.go_pos hg
  refine .inr ⟨by omega, ⟨d, u, k⟩, hx, by simp, rfl, rfl, fun y hy hl => ?_⟩
  rcases Nat.lt_or_ge y.d d with h6 | h6
  · rcases h with ⟨h1, h2, h3⟩ | ⟨h0, s, h1, h2, h3, h4, h5⟩
    · exact absurd h6 (h3 y hy)
    · have h7 := (h5 y hy h6).1
      exact ⟨by omega, fun _ => by omega⟩
  · have e := around_det hy hx (show y.d = d by omega)
    subst e
    exact ⟨Int.le_refl _, fun h => by simp at h⟩
theorem BestD.done (hG : G.Ok) (hL : Least G gs c) (h : BestD G c t 8 dir best) (hp : 0 < cAt c t) : dir = G.dirOf c t := by
  obtain ⟨x, hx, hd⟩ := hL.dir hG hp
  obtain ⟨x1, x2, x3⟩ := Gr.nxt_some hx
  have x8 : x.d < 8 := (Gr.go_some (Gr.mem_around.1 x1)).2.1
  rcases h with ⟨_, _, h3⟩ | ⟨h0, s, h1, h2, h3, h4, h5⟩
  · exact absurd x8 (h3 x x1)
  · have h6 := h5 x x1 x8
    have hs := hL.near hG (by omega) h1
    have hm := hL.min t _ (.step (Gr.mem_around.1 h1) (hL.real _ hs.1))
    have hle : s.d ≤ x.d := by
      rcases Nat.lt_or_ge x.d s.d with h7 | h7
      · have := h6.2 h7; omega
      · exact h7
    rcases hL.each hG h1 with h7 | h7 | h7 | h7 <;> omega
theorem Gr.To.gsEq {gs gs' : List Nat} (h : ∀ x, x ∈ gs → x ∈ gs') {t : Nat} {k : Int} (hT : Gr.To G gs t k) : Gr.To G gs' t k := by
  induction hT with
  | goal h1 h2 => exact .goal (h _ h1) h2
  | step hg _ ih => exact .step hg ih
theorem Least.gsEq {gs gs' : List Nat} (h : ∀ x, x ∈ gs ↔ x ∈ gs') (hL : Least G gs c) : Least G gs' c :=
  ⟨hL.len, hL.low, fun t h0 => (hL.real t h0).gsEq (fun x hx => (h x).1 hx), fun t k hT => hL.min t k (hT.gsEq (fun x hx => (h x).2 hx))⟩
end
end Go.Proofs.YtilobedihjkpjaaDoor
namespace Go.Proofs.YtilobedihjkpjaaDoor.Fld
open Go Go.RowKit Go.Proofs.YtilobedihjkpjaaDoor.Steps Go.Proofs.YtilobedihjkpjaaDoor.Ord Go.Proofs.YtilobedihjkpjaaDoor.Route
theorem cells_snoc (G : Gr) (c : List Int) {n k : Nat} (h : k < n) : (G.cells c n).take (k + 1) = (G.cells c n).take k ++ [(cAt c k, G.dirOf c k)] := by
  obtain ⟨h1, h2⟩ := List.getElem?_eq_some_iff.1 (Gr.cells_get G c h)
  rw [List.take_succ_eq_append_getElem h1, h2]
theorem ceCs_snoc (l : List (Int × Int)) (a : Int × Int) : ceCs (l ++ [a]) = ceCs l ++ [.int .i64 a.1, .int .i64 a.2] := by simp [ceCs, ceC]
section
variable {w : World} {p pg pc : Nat} {G : Gr}
set_option maxRecDepth 100000 in
set_option maxHeartbeats 8000000 in
theorem rcells_any (hG : Gnd 76 w p pg pc G) (gs : List Nat) (v : Value) (hr : Reads w v gs.length 1 (gC gs)) (h8 : gs.length ≤ 1000000) (hin : ∀ t ∈ gs, t < G.fs.length) (c : List Int) (hc : Least G gs c) :
    Calls Tryd.prog 59 #[.pointer (some ⟨p, 0, none⟩), v] w fun r w' => ∃ v', r = .returned v' ∧ Star w w' [cellR v' (G.cells c G.fs.length)] := by
  obtain ⟨i0, hi0, hz0, hz1, hz2⟩ := info_parts infoC
  have HG := hid hG
  have HR := hid hr
  have HIN := hid hin
  have HC := hid hc
  have hN := hG.ok.max
  have hB : ∀ t, cAt c t ≤ 20000 := fun t => by have := hc.bound hG.ok t; omega
  have HB := hid hB
  have HCL := hid (Gr.cells_len G c G.fs.length)
  clear hG hr hin hc hB
  go_enter Tryd.func59, Tryd.ntmps59
  go_wp2_with fail
  refine (rcosts_any HG.out gs v HR.out h8 HIN.out).mono ?_
  rintro r w1 ⟨c1, g, cc, rfl, hc1, hX1⟩
  obtain rfl := hc1.unique HC.out
  obtain ⟨n, hn⟩ : ∃ n, n = G.fs.length := ⟨_, rfl⟩
  have HN := hid hn
  rw [← hn] at hN HCL hX1 ⊢
  have X1 := hid ((hX1.add (w' := w1.alloc (.cells #[] 41)) ((Chg.refl _).alloc _) (R := Row 41 2 (.slice (some ⟨w1.heap.size, 0, none⟩) 0 0) 0 (ceCs ((G.cells c1 n).take 0))) ⟨World.ownsRow_lit (base := 0) w1 #[] 0 (Nat.zero_le _) (by unfold maxLen; omega) rfl, rfl⟩ (fun k h => by simp [Value.ownBlock] at h; omega)))
  clear hX1 hc1 hn
  go_wp2_with fail
  go_loopw [6, 19] (fun ov iv wr => ∃ k : Nat, k ≤ n ∧ iv = .int .i64 k ∧ Star w wr [Row 41 2 ov k (ceCs ((G.cells c1 n).take k)), costR g n cc c1]) (fun _ iv _ => n - (intOf iv).toNat)
  case atStart => exact ⟨0, by omega, rfl, X1.out⟩
  case round =>
    obtain ⟨k, hk, rfl, hX⟩ := hrel
    have X := hid hX
    clear X1 hX
    by_cases hkn : k < n
    · obtain ⟨-, e0, -, gl⟩ := row_cell (X.out.swap) k hkn
      obtain ⟨oa, oc, rfl, -⟩ := own_slice (X.out.row 0 rfl).1
      have hbk := HB.out k
      have hlow := HC.out.low k
      obtain ⟨ck, hck⟩ : ∃ ck, ck = cAt c1 k := ⟨_, rfl⟩
      have HK := hid hck
      rw [← hck] at e0 hbk hlow
      have X2 := hid (X.out.alloc #[.int .i64 ck, .int .i64 (-1)] 41)
      clear X hck
      go_wp2_with fail
      clear e0 gl
      generalize wr.heap.size = q at *
      go_loopw [9, 10] (fun bv dv wx => ∃ (d : Nat) (dir best : Int), d ≤ 8 ∧ dv = .int .i64 d ∧ bv = .int .i64 best ∧ (0 < ck ∧ BestD G c1 k d dir best ∨ ¬ 0 < ck ∧ dir = -1) ∧ Star w wx [Blk q #[.int .i64 ck, .int .i64 dir] 41, Row 41 2 (.slice oa k oc) k (ceCs ((G.cells c1 n).take k)), costR g n cc c1]) (fun _ dv _ => 8 - (intOf dv).toNat)
      case atStart => exact ⟨0, -1, -1, by omega, rfl, rfl, by by_cases h : 0 < ck; exact .inl ⟨h, BestD.start⟩; exact .inr ⟨h, rfl⟩, X2.out⟩
      case round =>
        obtain ⟨d, dir, best, hd, rfl, rfl, hI, hX⟩ := hrel
        have X3 := hid hX
        have HI := hid hI
        clear hX hI X2
        obtain ⟨-, e0, -, gl⟩ := row_cell (X3.out.pull 2 rfl) k hkn
        rw [← HK.out] at e0
        have hb := (X3.out.blk 0 rfl).1
        have q0 := cell_of hb 0
        have q1 := cell_of hb 1
        have f1 := free_of hb 1
        have ql := lt_of hb
        simp only [List.getElem?_toArray, List.getElem?_cons_zero, List.getElem?_cons_succ] at q0 q1
        clear hb
        by_cases hgo8 : d < 8 ∧ 0 < ck
        · obtain ⟨hd8, hp⟩ := hgo8
          have HBD : Hid (BestD G c1 k d dir best) := hid (by rcases HI.out with h | h; exact h.2; exact absurd hp h.1)
          have H5 := hid (HG.out.same X3.out.same)
          clear HI
          go_wp2_with fail
          refine (rgo_any H5.out k d).mono ?_
          rintro r w6 ⟨rfl, hs6⟩
          rw [Gr.goI_nat]
          have X6 := hid (X3.out.go hs6)
          clear hs6 X3 H5 q0 q1 f1 ql e0 gl
          cases hgo : G.go k d with
          | none =>
            have HNX := hid (HBD.out.none hgo)
            unfold refV
            clear hgo
            go_wp2
            go_roundw
            case rel => exact ⟨d + 1, dir, best, by omega, by go_num, rfl, .inl ⟨hp, HNX.out⟩, X6.out⟩
            case measure => simp [intOf]; omega
          | some p1 =>
            obtain ⟨u, kc⟩ := p1
            have hpos := Gr.go_pos hgo
            have hul : u < n := by have := Gr.free_in (Gr.go_end HG.out.ok hgo).1; rwa [← HN.out] at this
            have hu0 := (HC.out.near HG.out.ok (t := k) (by rw [← HK.out]; omega) (Gr.mem_around.2 hgo : (⟨d, u, kc⟩ : Gr.St) ∈ G.around k)).1
            dsimp only at hu0
            have hub := HB.out u
            have HGO := hid hgo
            obtain ⟨-, u0, -, ul⟩ := row_cell (X6.out.pull 2 rfl) u hul
            have hb := (X6.out.blk 0 rfl).1
            have q1 := cell_of hb 1
            have f1 := free_of hb 1
            have ql := lt_of hb
            simp only [List.getElem?_toArray, List.getElem?_cons_zero, List.getElem?_cons_succ] at q1
            obtain ⟨cu, hcu⟩ : ∃ cu, cu = cAt c1 u := ⟨_, rfl⟩
            have HU := hid hcu
            rw [← hcu] at u0 hub hu0
            unfold refV
            clear hgo hb hcu
            by_cases hb0 : best < 0
            · have HNX := hid (HBD.out.take HGO.out (by rw [← HU.out]; exact hu0) (.inl hb0))
              rw [← HU.out] at HNX
              have X7 := hid (X6.out.put 0 rfl 1 (.int .i64 d))
              go_wp2
              go_roundw
              case rel => exact ⟨d + 1, d, _, by omega, by go_num, rfl, .inl ⟨hp, HNX.out⟩, X7.out⟩
              case measure => simp [intOf]; omega
            · by_cases hlt : cu + kc < best
              · have HNX := hid (HBD.out.take HGO.out (by rw [← HU.out]; exact hu0) (.inr (by rw [← HU.out]; exact hlt)))
                rw [← HU.out] at HNX
                have X7 := hid (X6.out.put 0 rfl 1 (.int .i64 d))
                go_wp2
                go_roundw
                case rel => exact ⟨d + 1, d, _, by omega, by go_num, rfl, .inl ⟨hp, HNX.out⟩, X7.out⟩
                case measure => simp [intOf]; omega
              · have HNX := hid (HBD.out.keep HGO.out hb0 (by rw [← HU.out]; exact hlt))
                go_wp2
                go_roundw
                case rel => exact ⟨d + 1, dir, best, by omega, by go_num, rfl, .inl ⟨hp, HNX.out⟩, X6.out⟩
                case measure => simp [intOf]; omega
        · have HDIR : Hid (dir = G.dirOf c1 k) := hid (by
            rcases HI.out with ⟨h1, h2⟩ | ⟨h1, h2⟩
            · obtain rfl : d = 8 := by omega
              exact h2.done HG.out.ok HC.out (by rw [← HK.out]; exact h1)
            · rw [h2, dirOf_zero (by rw [← HK.out]; exact h1)])
          have XD := hid ((X3.out.alloc #[.int .i64 ck, .int .i64 dir] 41).pull 2 rfl)
          clear HI
          have hxx := X3.out
          clear hxx
          by_cases hd8 : d < 8
          · have hp : ¬ 0 < ck := fun h => hgo8 ⟨hd8, h⟩
            clear hgo8
            go_wp2_with (at_builtin; refine wpList_app rfl (.tmp 76) (.tmp 78) 38 rfl 41 i0 (.agg #[.int .i64 0, .int .i64 0]) 2 16 Tryd.underlying38 hi0 hz0 hz1 hz2 rfl (by decide) _ k (ceCs ((G.cells c1 n).take k)) rfl (XD.out.row 0 rfl).1 (some ⟨wr.heap.size, 0, none⟩) 1 1 [.int .i64 ck, .int .i64 dir] rfl (reads_blk (XD.out.blk 1 rfl).1 1 1 2 rfl) (by simp [Value.oneCell']) (by omega) (by omega) ?_; intro a5 c5 w5 ho5 hg5 hn5; have X5 := hid ((XD.out.grown 0 rfl ho5 hg5 hn5)); clear ho5 hg5 hn5)
            go_roundw
            case rel =>
              refine ⟨k + 1, by omega, by go_num, ?_⟩
              rw [cells_snoc G c1 hkn, ceCs_snoc, ← HK.out, ← HDIR.out]
              exact ((X5.out.pull 1 rfl).drop.pull 1 rfl).drop
            case measure => simp [intOf]; omega
          · obtain rfl : d = 8 := by omega
            clear hgo8
            go_wp2_with (at_builtin; refine wpList_app rfl (.tmp 76) (.tmp 78) 38 rfl 41 i0 (.agg #[.int .i64 0, .int .i64 0]) 2 16 Tryd.underlying38 hi0 hz0 hz1 hz2 rfl (by decide) _ k (ceCs ((G.cells c1 n).take k)) rfl (XD.out.row 0 rfl).1 (some ⟨wr.heap.size, 0, none⟩) 1 1 [.int .i64 ck, .int .i64 dir] rfl (reads_blk (XD.out.blk 1 rfl).1 1 1 2 rfl) (by simp [Value.oneCell']) (by omega) (by omega) ?_; intro a5 c5 w5 ho5 hg5 hn5; have X5 := hid ((XD.out.grown 0 rfl ho5 hg5 hn5)); clear ho5 hg5 hn5)
            go_roundw
            case rel =>
              refine ⟨k + 1, by omega, by go_num, ?_⟩
              rw [cells_snoc G c1 hkn, ceCs_snoc, ← HK.out, ← HDIR.out]
              exact ((X5.out.pull 1 rfl).drop.pull 1 rfl).drop
            case measure => simp [intOf]; omega
    · obtain rfl : k = n := by omega
      go_wp2
      go_ret
      have h := X.out
      rw [List.take_of_length_le (by rw [HCL.out]; exact Nat.le_refl _)] at h
      refine ⟨_, rfl, ?_⟩
      unfold cellR
      rw [← HN.out, HCL.out]
      exact (h.swap).drop
end
end Go.Proofs.YtilobedihjkpjaaDoor.Fld
namespace Go.Proofs.YtilobedihjkpjaaDoor.Fld
open Go Go.RowKit Go.Proofs.YtilobedihjkpjaaDoor.Steps Go.Proofs.YtilobedihjkpjaaDoor.Ord Go.Proofs.YtilobedihjkpjaaDoor.Route
section
variable {w : World}
/-- Cells that are read. -/
theorem ceCs_read {v : Value} {l : List (Int × Int)} {n : Nat} (hn : n = l.length) (hr : Reads w v l.length 2 (ceCs l)) : ∃ va vc, v = .slice va n vc ∧ ∀ (j : Nat) (a : Int × Int), l[j]? = some a → ∃ b off cap, Value.slice va n vc = .slice (some ⟨b, off, none⟩) n cap ∧ w.cell? ⟨b, off + j * 2, none⟩ = some (.int .i64 a.1) ∧ w.cell? ⟨b, off + j * 2 + 1, none⟩ = some (.int .i64 a.2) := by
  subst hn
  obtain ⟨va, vc, rfl⟩ := hr.slice
  refine ⟨va, vc, rfl, fun j a ha => ?_⟩
  have hj := (List.getElem?_eq_some_iff.1 ha).1
  obtain ⟨b, off, cap, e, _, hc⟩ := hr.open (by omega)
  have h0 := hc (j * 2 + 0) _ ((rows_get ceC ceC_len l j 0 a ha (by omega)).trans rfl)
  have h1 := hc (j * 2 + 1) _ ((rows_get ceC ceC_len l j 1 a ha (by omega)).trans rfl)
  rw [Nat.add_zero] at h0
  rw [← Nat.add_assoc] at h1
  exact ⟨b, off, cap, e, h0, h1⟩
set_option maxRecDepth 100000 in
set_option maxHeartbeats 4000000 in
theorem rflat_any (l : List (Int × Int)) (v : Value) (hr : Reads w v l.length 2 (ceCs l)) (hl : l.length ≤ 4000) :
    Calls Tryd.prog 60 #[v] w fun r w' => ∃ v', r = .returned v' ∧ Star w w' [Row 3 1 v' (flatI l).length ((flatI l).map (Value.int .i64))] := by
  obtain ⟨i0, hi0, hz0, hz1, hz2⟩ := info_parts infoInt
  obtain ⟨n, hn⟩ : ∃ n, n = l.length := ⟨_, rfl⟩
  obtain ⟨va, vc, hv, hc⟩ := ceCs_read hn hr
  have HC := hid hc
  have HN := hid hn
  rw [← hn] at hl
  rw [hv]
  clear hr hv hc hn
  have X1 := hid ((Star.new w).add (w' := w.alloc (.cells #[] 3)) ((Chg.refl _).alloc _) (R := Row 3 1 (.slice (some ⟨w.heap.size, 0, none⟩) 0 0) (flatI (l.take 0)).length ((flatI (l.take 0)).map (Value.int .i64))) ⟨World.ownsRow_lit (base := 0) w #[] 0 (Nat.zero_le _) (by unfold maxLen; omega) rfl, rfl⟩ (fun k h => by simp [Value.ownBlock] at h; omega))
  go_enter Tryd.func60, Tryd.ntmps60
  go_wp2_with fail
  go_loopw [3, 9] (fun ov iv wr => ∃ k : Nat, k ≤ n ∧ iv = .int .i64 k ∧ Star w wr [Row 3 1 ov (flatI (l.take k)).length ((flatI (l.take k)).map (Value.int .i64))]) (fun _ iv _ => n - (intOf iv).toNat)
  case atStart => exact ⟨0, by omega, rfl, X1.out⟩
  case round =>
    obtain ⟨k, hk, rfl, hX⟩ := hrel
    have X := hid hX
    clear X1 hX
    by_cases hkn : k < n
    · obtain ⟨a, ha⟩ : ∃ a, l[k]? = some a := ⟨_, List.getElem?_eq_getElem (by have := HN.out; omega)⟩
      obtain ⟨b, off, cap, e1, g0, g1⟩ := HC.out k a ha
      cases e1
      have g0 := X.out.same.keep g0
      have g1 := X.out.same.keep g1
      have gvl := World.block_lt_of_cell? _ _ g0
      have HS := hid (flatI_snoc l k a ha)
      have hfl : (flatI (l.take k)).length ≤ 8000 := by have := flatI_len (l.take k); rw [List.length_take] at this; omega
      obtain ⟨av, cv, rfl, -⟩ := own_slice (X.out.row 0 rfl).1
      obtain ⟨m, hm⟩ : ∃ m, m = (flatI (l.take k)).length := ⟨_, rfl⟩
      have HM := hid hm
      rw [← hm] at hfl X ⊢
      have XD := hid ((X.out.alloc #[.int .i64 a.1, .int .i64 a.2] 41).alloc #[.int .i64 a.1, .int .i64 a.2] 3)
      rw [World.size_alloc] at XD
      clear ha X hm
      go_wp2_with (at_builtin; refine wpList_app rfl (.tmp 13) (.tmp 18) 24 rfl 3 i0 (.int .i64 0) 1 8 Tryd.underlying24 hi0 hz0 hz1 hz2 rfl (by decide) _ m ((flatI (l.take k)).map (Value.int .i64)) rfl (XD.out.row 2 rfl).1 (some ⟨wr.heap.size + 1, 0, none⟩) 2 2 [.int .i64 a.1, .int .i64 a.2] rfl (reads_blk (XD.out.blk 0 rfl).1 2 2 1 rfl) (by simp [Value.oneCell']) (by omega) (by omega) ?_; intro a5 c5 w5 ho5 hg5 hn5; have X5 := hid (XD.out.grown 2 rfl ho5 hg5 hn5).drop.drop; clear ho5 hg5 hn5)
      go_roundw
      case rel => exact ⟨k + 1, by omega, by go_num, by rw [HS.out, List.map_append, List.length_append, ← HM.out]; exact X5.out⟩
      case measure => simp [intOf]; omega
    · obtain rfl : k = n := by omega
      go_wp2
      go_ret
      have h := X.out
      rw [List.take_of_length_le (by have := HN.out; omega)] at h
      exact ⟨_, rfl, h⟩
end
section
variable {w : World} {p pg pc : Nat} {G : Gr} {gs : List Nat} {c : List Int}
theorem rwalk_no (v : Value) (s : Nat) (hsl : s < G.fs.length) (hr : Reads w v (G.cells c G.fs.length).length 2 (ceCs (G.cells c G.fs.length))) (hc : cAt c s < 0) :
    Calls Tryd.prog 61 #[.pointer (some ⟨p, 0, none⟩), v, .int .i64 s] w fun r w' => r = .returned (.tuple #[.slice none 0 0, .bool false]) ∧ Same w w' := by
  obtain ⟨n, hn⟩ : ∃ n, n = G.fs.length := ⟨_, rfl⟩
  obtain ⟨va, vc, hv, hcc⟩ := ceCs_read (n := n) (by rw [Gr.cells_len]; exact hn) hr
  obtain ⟨b, off, cap, e1, g0, -⟩ := hcc s _ (Gr.cells_get G c hsl)
  rw [← hn] at hsl
  cases e1
  rw [hv]
  have gvl := World.block_lt_of_cell? _ _ g0
  generalize cAt c s = cs at *
  clear hr hcc hv hn
  go_enter Tryd.func61, Tryd.ntmps61
  go_wp2
  go_ret2
  exact ⟨rfl, Chg.refl _⟩
set_option maxRecDepth 100000 in
set_option maxHeartbeats 4000000 in
theorem rwalk_ok (hG : Gnd 76 w p pg pc G) (hL : Least G gs c) (v : Value) (s : Nat) (hs : G.free s = true) (hr : Reads w v (G.cells c G.fs.length).length 2 (ceCs (G.cells c G.fs.length))) (h0 : 0 ≤ cAt c s) (V : List Nat) (hV : Gr.Fol G c s (some V)) :
    Calls Tryd.prog 61 #[.pointer (some ⟨p, 0, none⟩), v, .int .i64 s] w fun r w' => ∃ v', r = .returned (.tuple #[v', .bool true]) ∧ Star w w' [Row 3 1 v' V.length (gC V)] := by
  obtain ⟨i0, hi0, hz0, hz1, hz2⟩ := info_parts infoInt
  obtain ⟨n, hn⟩ : ∃ n, n = G.fs.length := ⟨_, rfl⟩
  obtain ⟨va, vc, hv, hcc⟩ := ceCs_read (n := n) (by rw [Gr.cells_len]; exact hn) hr
  have HG := hid hG
  have HL := hid hL
  have HV := hid hV
  have HS := hid hs
  have HN := hid hn
  have hN := hG.ok.max
  have hsl := Gr.free_in hs
  rw [← hn] at hN hsl
  have HC : Hid (∀ t, t < n → ∃ b off cap, Value.slice va n vc = .slice (some ⟨b, off, none⟩) n cap ∧ w.cell? ⟨b, off + t * 2, none⟩ = some (.int .i64 (cAt c t)) ∧ w.cell? ⟨b, off + t * 2 + 1, none⟩ = some (.int .i64 (G.dirOf c t))) := hid (fun t ht => hcc t _ (by rw [← hn]; exact Gr.cells_get G c ht))
  obtain ⟨b, off, cap, e1, g0, -⟩ := HC.out s hsl
  cases e1
  rw [hv]
  have gvl := World.block_lt_of_cell? _ _ g0
  have hns : ¬ cAt c s < 0 := by omega
  have X1 := hid ((Star.new w).add (w' := w.alloc (.cells #[.int .i64 s] 3)) ((Chg.refl _).alloc _) (R := Row 3 1 (.slice (some ⟨w.heap.size, 0, none⟩) 1 1) 1 (gC ([] ++ [s]))) ⟨World.ownsRow_lit w #[.int .i64 s] 1 (Nat.zero_le _) (by unfold maxLen; omega) rfl, rfl⟩ (fun k h => by have : w.heap.size = k := Option.some.inj h; omega))
  clear hr hcc hv hn hG hL hV hs
  go_enter Tryd.func61, Tryd.ntmps61
  go_wp2_with fail
  clear g0 gvl hns
  go_loopw [2, 8, 9] (fun sv wv rv wr => ∃ (pre : List Nat) (t : Nat), sv = .int .i64 t ∧ rv = .int .i64 pre.length ∧ FolI G c s pre t ∧ 0 ≤ cAt c t ∧ Star w wr [Row 3 1 wv (pre.length + 1) (gC (pre ++ [t]))]) (fun sv _ _ _ => (cAt c (intOf sv).toNat).toNat)
  case atStart => exact ⟨[], s, rfl, rfl, FolI.start HS.out, h0, X1.out⟩
  case round =>
    obtain ⟨pre, t, rfl, rfl, hI, ht0, hX⟩ := hrel
    have HI := hid hI
    have X := hid hX
    have htn : t < n := by have := Gr.free_in hI.here; rwa [← HN.out] at this
    have hpl : pre.length + 1 ≤ n := by have := hI.len; rwa [← HN.out] at this
    obtain ⟨wa, wc, rfl, -⟩ := own_slice (hX.row 0 rfl).1
    obtain ⟨b, off, cap, e1, g0, g1⟩ := HC.out t htn
    cases e1
    have g1 := X.out.same.keep g1
    have gvl := World.block_lt_of_cell? _ _ g1
    obtain ⟨k, hk⟩ : ∃ k, k = pre.length := ⟨_, rfl⟩
    have HK := hid hk
    rw [← hk] at X hpl ⊢
    clear hI hX X1 hk g0
    by_cases hp : 0 < cAt c t
    · obtain ⟨x1, hx, hd⟩ := HL.out.dir HG.out.ok hp
      rw [hd] at g1
      have hgo := Gr.mem_around.1 (Gr.nxt_some hx).1
      have HI2 := hid (HI.out.go HG.out.ok hp hx)
      have hless := Gr.nxt_less hx
      have hto0 := (Gr.nxt_some hx).2.1
      obtain ⟨xd, xto, xc⟩ := x1
      dsimp only at g1 hgo hless hto0
      have HGO := hid (show refV (G.goI t xd) = .tuple #[.int .i64 xto, .int .i64 xc] by rw [Gr.goI_nat, hgo]; rfl)
      have H5 := hid (HG.out.same X.out.same)
      have hxd : (0 : Int) ≤ (xd : Int) := by omega
      clear hx hd hgo
      go_wp2_with fail
      refine (rgo_any H5.out t xd).mono ?_
      rintro r w6 ⟨rfl, hs6⟩
      rw [HGO.out]
      have X6 := hid (X.out.go hs6)
      have XD := hid (X6.out.alloc #[.int .i64 xto] 3)
      clear hs6 X H5 g1 gvl X6
      go_wp2_with (at_builtin; refine wpList_app rfl (.tmp 43) (.tmp 45) 24 rfl 3 i0 (.int .i64 0) 1 8 Tryd.underlying24 hi0 hz0 hz1 hz2 rfl (by decide) _ (k + 1) (gC (pre ++ [t])) rfl (XD.out.row 1 rfl).1 (some ⟨w6.heap.size, 0, none⟩) 1 1 [.int .i64 xto] rfl (reads_blk (XD.out.blk 0 rfl).1 1 1 1 rfl) (by simp [Value.oneCell']) (by omega) (by omega) ?_; intro a5 c5 w5 ho5 hg5 hn5; have X5 := hid (XD.out.grown 1 rfl ho5 hg5 hn5).drop; clear ho5 hg5 hn5)
      go_roundw
      case rel => exact ⟨pre ++ [t], xto, rfl, by rw [List.length_append, ← HK.out]; go_num, HI2.out, hto0, by rw [gC_snoc, List.length_append, ← HK.out]; exact X5.out⟩
      case measure => simp [intOf]; omega
    · have HFF : Hid (V = pre ++ [t]) := hid (Option.some.inj (HV.out.det (HI.out.back _ (.done hp))))
      rw [dirOf_zero hp] at g1
      go_wp2
      go_ret2
      rw [HFF.out]
      exact ⟨_, rfl, by rw [List.length_append, ← HK.out]; exact X.out⟩
end
end Go.Proofs.YtilobedihjkpjaaDoor.Fld
namespace Go.Proofs.YtilobedihjkpjaaDoor.Fld
open Go Go.RowKit Go.Proofs.YtilobedihjkpjaaDoor.Steps Go.Proofs.YtilobedihjkpjaaDoor.Ord Go.Proofs.YtilobedihjkpjaaDoor.Route Go.Proofs.YtilobedihjkpjaaDoor.Err
theorem ints_gC {w : World} {v : Value} {xs : List Int} (h : Ints w v xs) (hp : ∀ x ∈ xs, 0 ≤ x) : Reads w v (xs.map Int.toNat).length 1 (gC (xs.map Int.toNat)) := by
  have e : gC (xs.map Int.toNat) = xs.map (Value.int .i64) := by
    unfold gC
    rw [List.map_map]
    apply List.map_congr_left
    intro x hx
    simp only [Function.comp_apply]
    rw [Int.toNat_of_nonneg (hp x hx)]
  rw [e, List.length_map]
  exact h
section
variable {w0 w : World} {L : List Res} {f m : Nat} {G : Gr} {gl c : List Int}
theorem _root_.Go.Proofs.YtilobedihjkpjaaDoor.Star.pull2 {A B C D : Res} {L : List Res} (X : Star w0 w (A :: B :: C :: D :: L)) : Star w0 w (A :: D :: L) := by
  have h := ((X.swap).drop).swap.drop
  exact h
set_option maxRecDepth 100000 in
set_option maxHeartbeats 8000000 in
theorem same_any (X : Star w0 w (fldR f G gl c :: gndR 76 m G :: L)) (hF : FOk G gl c) (v : Value) (xs : List Int) (hr : Ints w0 v xs) (hx : xs.length ≤ 1000000) (hin : ∀ x ∈ xs, 0 ≤ x ∧ x < G.fs.length) (hm : ∀ x, x ∈ goalsOf gl ↔ x ∈ xs.map Int.toNat) (t : Int) (ad : Nat → Addr) (hE : Errs w0 ad) :
    Calls Tryd.prog 34 #[.pointer (some ⟨f, 0, none⟩), .pointer (some ⟨m, 0, none⟩), v, .int .i64 t] w fun r w' => r = .returned (.bool true) ∧ Star w0 w' (fldR f G gl c :: gndR 76 m G :: L) := by
  have HF := hid hF
  have HE := hid hE
  have HRC := hid (fun (w : World) (mg mc : Nat) (hM : Gnd 76 w m mg mc G) (hs : Same w0 w) => rcells_any hM (xs.map Int.toNat) v (ints_gC (hr.same hs) (fun x hx => (hin x hx).1)) (by rw [List.length_map]; exact hx) (fun y hy => by obtain ⟨x, hx, rfl⟩ := List.mem_map.1 hy; have := hin x hx; omega) c (hF.least.gsEq hm))
  have HX := hid X
  have hok := hF.ok.max
  clear X hF hE hr hx hin hm
  go_enter Tryd.func34, Tryd.ntmps34
  go_wp2_with fail
  obtain ⟨mg, mc, hM, -⟩ := gnd_at HX.out 1 rfl
  refine (HRC.out w mg mc hM HX.out.same).mono ?_
  clear hM mg mc HRC
  rintro r w1 ⟨wv, rfl, hX1⟩
  have X1 : Hid (Star w0 w1 (fldR f G gl c :: cellR wv (G.cells c G.fs.length) :: gndR 76 m G :: L)) := hid ((HX.out.lift hX1).swap)
  clear hX1 HX
  go_wp2_with fail
  refine (cells_any X1.out HF.out).mono ?_
  rintro r w2 ⟨lv, rfl, hX2⟩
  obtain ⟨cl, hcl⟩ : ∃ cl, cl = G.cells c G.fs.length := ⟨_, rfl⟩
  have HCL := hid hcl
  obtain ⟨n, hn⟩ : ∃ n, n = cl.length := ⟨_, rfl⟩
  have HN := hid hn
  have HNF := hid (show n = G.fs.length by rw [hn, hcl, Gr.cells_len])
  have hX2 := hX2.swap
  unfold cellR at hX2
  rw [← hcl, ← hn] at hX2
  have hn1 : 1 ≤ n ∧ n ≤ 4000 := by have := HNF.out; omega
  clear hcl hn X1
  obtain ⟨la, lc, rfl, -⟩ := own_slice (hX2.row 1 rfl).1
  obtain ⟨wa, wc, rfl, -⟩ := own_slice (hX2.row 2 rfl).1
  have X2 : Hid (Star w0 w2 (fldR f G gl c :: Row 41 2 (.slice la n lc) n (ceCs cl) :: Row 41 2 (.slice wa n wc) n (ceCs cl) :: gndR 76 m G :: L)) := hid hX2
  clear hX2
  go_wp2_with fail
  refine (flat_any X2.out HF.out).mono ?_
  rintro r w3 ⟨fv, rfl, hX3⟩
  rw [← HCL.out] at hX3
  have X3 := hid hX3
  clear hX3 X2
  go_wp2_with fail
  refine (rflat_any cl (.slice wa n wc) (by rw [← HN.out]; exact Reads.of_own (X3.out.row 3 rfl).1) (by rw [← HN.out]; omega)).mono ?_
  rintro r w4 ⟨gv, rfl, hX4⟩
  have X4 := hid (X3.out.lift hX4)
  have hfl : (flatI cl).length ≤ 9223372036854775807 := by rw [flatI_len, ← HN.out]; omega
  have R1 := hid (show Ints w4 fv (flatI cl) from Reads.of_own (X4.out.row 1 rfl).1)
  have R2 := hid (show Ints w4 gv (flatI cl) from Reads.of_own (X4.out.row 0 rfl).1)
  clear hX4 X3
  go_wp2_with fail
  refine (Num.sameInts _ _ (flatI cl) (flatI cl) _ R1.out R2.out hfl hfl).mono ?_
  rintro r w5 ⟨rfl, hs5⟩
  rw [decide_eq_true rfl]
  have X5 : Hid (Star w0 w5 (fldR f G gl c :: Row 41 2 (.slice la n lc) n (ceCs cl) :: Row 41 2 (.slice wa n wc) n (ceCs cl) :: gndR 76 m G :: L)) := hid ((X4.out.go hs5).drop.drop)
  clear hs5 X4 R1 R2 hfl
  go_wp2_with fail
  go_loopw [42] (fun iv wr => ∃ k : Nat, k ≤ n ∧ iv = .int .i64 k ∧ Star w0 wr (fldR f G gl c :: Row 41 2 (.slice la n lc) n (ceCs cl) :: Row 41 2 (.slice wa n wc) n (ceCs cl) :: gndR 76 m G :: L)) (fun iv _ => n - (intOf iv).toNat)
  case atStart => exact ⟨0, by omega, rfl, X5.out⟩
  case round =>
    obtain ⟨k, hk, rfl, hX⟩ := hrel
    have X6 := hid hX
    clear hX X5
    by_cases hkn : k < n
    · go_wp2_with fail
      refine (cell_in X6.out HF.out k (by rw [← HNF.out]; exact hkn)).mono ?_
      rintro r w7 ⟨rfl, x, hX7⟩
      have X7 := hid (openL.shut HF.out.ok.max.2 hX7)
      clear hX7 X6
      obtain ⟨a1, ha1⟩ : ∃ a1, a1 = cAt c k := ⟨_, rfl⟩
      obtain ⟨a2, ha2⟩ : ∃ a2, a2 = G.dirOf c k := ⟨_, rfl⟩
      have hget : cl[k]? = some (a1, a2) := by rw [HCL.out, ha1, ha2]; exact Gr.cells_get G c (by rw [← HNF.out]; exact hkn)
      rw [← ha1, ← ha2]
      have X8 := hid (X7.out.alloc #[.int .i64 a1, .int .i64 a2] 41)
      have hb0 := cell_of (X8.out.blk 0 rfl).1 0
      have hb1 := cell_of (X8.out.blk 0 rfl).1 1
      have hbl := lt_of (X8.out.blk 0 rfl).1
      simp only [List.getElem?_toArray, List.getElem?_cons_zero, List.getElem?_cons_succ] at hb0 hb1
      obtain ⟨lg, lgc, e1⟩ := own_shape (X8.out.row 2 rfl).1 (by omega)
      cases e1
      obtain ⟨wg, wgc, e2⟩ := own_shape (X8.out.row 3 rfl).1 (by omega)
      cases e2
      have hce : (ceCs cl)[k * 2]? = some (.int .i64 a1) ∧ (ceCs cl)[k * 2 + 1]? = some (.int .i64 a2) := ⟨by have := rows_get ceC ceC_len cl k 0 _ hget (by omega); rwa [Nat.add_zero] at this, rows_get ceC ceC_len cl k 1 _ hget (by omega)⟩
      have l0 := ((X8.out.row 2 rfl).1.cellAt (k * 2) (by omega)).trans hce.1
      have l1 := ((X8.out.row 2 rfl).1.cellAt (k * 2 + 1) (by omega)).trans hce.2
      have m0 := ((X8.out.row 3 rfl).1.cellAt (k * 2) (by omega)).trans hce.1
      have m1 := ((X8.out.row 3 rfl).1.cellAt (k * 2 + 1) (by omega)).trans hce.2
      have lgl := World.block_lt_of_cell? _ _ l0
      have mgl := World.block_lt_of_cell? _ _ m0
      clear hce hget ha1 ha2 X7
      go_wp2_with fail
      go_quiet (fail)
      have X9 := hid (X8.out.go ((Chg.refl _).drewN nq)).drop
      clear X8 hb0 hb1 hbl l0 l1 m0 m1 lgl mgl
      go_wp2
      go_roundw
      case rel =>
        have hrel : ∃ k' : Nat, k' ≤ n ∧ Value.int .i64 ((k : Int) + 1) = .int .i64 k' ∧ Star w0 _ (fldR f G gl c :: Row 41 2 (.slice (some ⟨lg, 0, none⟩) n lc) n (ceCs cl) :: Row 41 2 (.slice (some ⟨wg, 0, none⟩) n wc) n (ceCs cl) :: gndR 76 m G :: L) := ⟨k + 1, by omega, by go_num, X9.out⟩
        first | exact hrel | ((repeat apply Exists.intro); exact ⟨hrel, rfl⟩)
      case measure => simp [intOf]; omega
    · by_cases hti : 0 ≤ t ∧ t < G.fs.length
      · obtain ⟨t0, t1⟩ := hti
        obtain ⟨t, rfl⟩ := Int.eq_ofNat_of_zero_le t0
        have ht : t < G.fs.length := by omega
        have HHT := hid (show G.has (t : Int) = true from decide_eq_true (by omega))
        clear t0 t1
        go_wp2_with fail
        refine (cell_in X6.out HF.out t ht).mono ?_
        rintro r w7 ⟨rfl, x, hX7⟩
        have X7 := hid (openL.shut HF.out.ok.max.2 hX7)
        clear hX7 X6
        obtain ⟨a2, ha2⟩ : ∃ a2, a2 = G.dirOf c t := ⟨_, rfl⟩
        obtain ⟨a1, ha1⟩ : ∃ a1, a1 = cAt c t := ⟨_, rfl⟩
        rw [← ha1, ← ha2]
        have HA1 := hid ha1
        clear ha1 ha2
        have X8 : Hid (Star w0 (w7.alloc (.cells #[.int .i64 a1, .int .i64 a2] 41)) (fldR f G gl c :: Row 41 2 (.slice la n lc) n (ceCs cl) :: Row 41 2 (.slice wa n wc) n (ceCs cl) :: gndR 76 m G :: L)) := hid (X7.out.alloc #[.int .i64 a1, .int .i64 a2] 41).drop
        clear X7
        rcases HF.out.least.low t with h0 | h0
        · go_wp2_with fail
          refine (walk_no X8.out HF.out t ht h0 (ad 8) HE.out.c8).mono ?_
          rintro r w9 ⟨rfl, hX9⟩
          have X9 := hid hX9
          clear hX9 X8
          go_wp2_with fail
          refine (nearest_no X9.out HF.out t ht h0 (ad 8) HE.out.c8).mono ?_
          rintro r w10 ⟨rfl, hX10⟩
          have X10 := hid hX10
          clear hX10 X9
          obtain ⟨mg, mc, hM, -⟩ := gnd_at X10.out 3 rfl
          have HM := hid hM
          have HRW := hid (fun (h : n = G.fs.length) => h)
          clear hM HRW
          go_wp2_with fail
          refine (rhas_any HM.out _).mono ?_
          rintro r w' ⟨rfl, rfl⟩
          rw [HHT.out]
          go_wp2_with fail
          refine (rwalk_no (c := c) (G := G) (.slice wa n wc) t ht (by rw [← HCL.out, ← HN.out]; exact Reads.of_own (X10.out.row 2 rfl).1) (by omega)).mono ?_
          rintro r w11 ⟨rfl, hs⟩
          have X11 := hid (X10.out.go hs)
          clear hs X10 HM
          go_wp2_with fail
          refine (num_err ad 8 (by omega) _ (HE.out.same X11.out.same)).mono ?_
          rintro r w12 ⟨rfl, hs⟩
          have X12 := hid (X11.out.go hs)
          clear hs X11
          go_wp2_with fail
          refine (num_err ad 8 (by omega) _ (HE.out.same X12.out.same)).mono ?_
          rintro r w13 ⟨rfl, hs⟩
          have X13 := hid (X12.out.go hs)
          clear hs X12
          go_wp2
          go_ret
          exact ⟨rfl, X13.out.pull2⟩
        · have hfree := (HF.out.least.real t h0).free.1
          obtain ⟨V, hV⟩ := HF.out.least.fol HF.out.ok h0
          have hVl : V.length ≤ G.fs.length := Gr.Fol.len HF.out.ok hV hfree
          obtain ⟨⟨rest, hVc⟩, _, _, e, hVe, _⟩ := Gr.Fol.walk HF.out.ok hV hfree h0 V rfl
          have hVp : 1 ≤ V.length := by rw [hVc]; simp
          have HV := hid hV
          have HVE := hid hVe
          have HFR := hid hfree
          clear hV hVe hVc hfree
          go_wp2_with fail
          refine (walk_ok X8.out HF.out t HFR.out h0 V HV.out).mono ?_
          rintro r w9 ⟨v9, rfl, hX9⟩
          obtain ⟨nV, hnV⟩ : ∃ nV, nV = V.length := ⟨_, rfl⟩
          have HNV := hid hnV
          rw [← hnV] at hX9 hVl hVp
          clear hnV
          obtain ⟨v9a, v9c, rfl, -⟩ := own_slice (hX9.row 0 rfl).1
          have X9 := hid hX9.swap
          clear hX9 X8
          go_wp2_with fail
          refine (nearest_ok X9.out HF.out t HFR.out h0 V HV.out e HVE.out (by rw [← HNV.out]; have := HF.out.ok.max; omega)).mono ?_
          rintro r w10 ⟨rfl, hX10⟩
          have X10 := hid hX10
          clear hX10 X9
          obtain ⟨mg, mc, hM, -⟩ := gnd_at X10.out 4 rfl
          have HM := hid hM
          clear hM
          go_wp2_with fail
          refine (rhas_any HM.out _).mono ?_
          rintro r w' ⟨rfl, rfl⟩
          rw [HHT.out]
          go_wp2_with fail
          refine (rwalk_ok HM.out HF.out.least (.slice wa n wc) t HFR.out (by rw [← HCL.out, ← HN.out]; exact Reads.of_own (X10.out.row 3 rfl).1) h0 V HV.out).mono ?_
          rintro r w11 ⟨v11, rfl, hX11⟩
          rw [← HNV.out] at hX11
          obtain ⟨wg11, wc11, e11⟩ := own_shape (hX11.row 0 rfl).1 (by omega)
          subst e11
          have hrow := (hX11.row 0 rfl).1
          obtain ⟨nl, hnl⟩ : ∃ nl, nl = nV - 1 := ⟨_, rfl⟩
          have hge : (gC V)[nl]? = some (.int .i64 e) := by
            have h1 := HVE.out
            rw [List.getLast?_eq_getElem?, ← HNV.out, ← hnl] at h1
            rw [gC, List.getElem?_map, h1]; rfl
          have z1 : w11.cell? ⟨wg11, nl, none⟩ = some (.int .i64 e) := (hrow.cellAt nl (by omega)).trans hge
          have zl := World.block_lt_of_cell? _ _ z1
          have X11 := hid (X10.out.lift hX11)
          have R1 := hid (show Ints w11 (.slice v9a nV v9c) (V.map Int.ofNat) by
            unfold Ints
            rw [List.length_map, ← HNV.out, show (V.map Int.ofNat).map (Value.int .i64) = gC V by simp [gC, List.map_map, Function.comp_def]]
            exact Reads.of_own (X11.out.row 2 rfl).1)
          have R2 := hid (show Ints w11 (.slice (some ⟨wg11, 0, none⟩) nV wc11) (V.map Int.ofNat) by
            unfold Ints
            rw [List.length_map, ← HNV.out, show (V.map Int.ofNat).map (Value.int .i64) = gC V by simp [gC, List.map_map, Function.comp_def]]
            exact Reads.of_own (X11.out.row 0 rfl).1)
          have hnl2 : (nV : Int) - 1 = (nl : Int) := by omega
          have hwnl : IntKind.i64.wrap (nl : Int) = (nl : Int) := IntWalk.i64_in _ (by have := HF.out.ok.max; omega)
          have hnl3 : nl < nV := by omega
          have hnl4 : (nl : Int) < (nV : Int) := by omega
          have hVm : (V.map Int.ofNat).length ≤ 9223372036854775807 := by rw [List.length_map, ← HNV.out]; have := HF.out.ok.max; omega
          clear hX11 hrow hge hnl X10 HM
          go_wp2_with fail
          refine (Num.sameInts _ _ (V.map Int.ofNat) (V.map Int.ofNat) _ R1.out R2.out hVm hVm).mono ?_
          rintro r w12 ⟨rfl, hs⟩
          rw [decide_eq_true rfl]
          have X12 := hid (X11.out.go hs)
          have z2 := hs.keep z1
          have zl2 := Nat.lt_of_lt_of_le zl hs.size
          clear hs X11 R1 R2 z1 zl
          go_wp2
          go_ret
          exact ⟨rfl, ((X12.out.drop).swap.drop).pull2⟩
      · have hto : t < 0 ∨ (G.fs.length : Int) ≤ t := by omega
        have HHT := hid (show G.has t = false from decide_eq_false hti)
        clear hti
        go_wp2_with fail
        refine (cell_out X6.out HF.out t hto _ HE.out.c0).mono ?_
        rintro r w7 ⟨rfl, hX7⟩
        have X8 : Hid (Star w0 (w7.alloc (.cells #[.int .i64 0, .int .i64 0] 41)) (Blk w7.heap.size #[.int .i64 0, .int .i64 0] 41 :: fldR f G gl c :: Row 41 2 (.slice la n lc) n (ceCs cl) :: Row 41 2 (.slice wa n wc) n (ceCs cl) :: gndR 76 m G :: L)) := hid (hX7.alloc #[.int .i64 0, .int .i64 0] 41)
        clear hX7 X6
        have X8 := hid (X8.out.swap)
        go_wp2_with fail
        generalize w7.alloc _ = w8 at *
        generalize w7.heap.size = q at *
        refine (walk_out X8.out HF.out t hto (ad 0) HE.out.c0).mono ?_
        rintro r w9 ⟨rfl, hX9⟩
        have X9 := hid hX9
        clear hX9 X8
        go_wp2_with fail
        refine (nearest_out X9.out HF.out t hto (ad 0) HE.out.c0).mono ?_
        rintro r w10 ⟨rfl, hX10⟩
        have X10 := hid hX10
        clear hX10 X9
        obtain ⟨mg, mc, hM, -⟩ := gnd_at X10.out 4 rfl
        have HM := hid hM
        clear hM
        have b0 := cell_of (X10.out.blk 1 rfl).1 0
        have b1 := cell_of (X10.out.blk 1 rfl).1 1
        have bl := lt_of (X10.out.blk 1 rfl).1
        simp only [List.getElem?_toArray, List.getElem?_cons_zero, List.getElem?_cons_succ] at b0 b1
        go_wp2_with fail
        refine (rhas_any HM.out _).mono ?_
        rintro r w' ⟨rfl, rfl⟩
        rw [HHT.out]
        clear HM
        go_wp2_with fail
        refine (num_err ad 0 (by omega) _ (HE.out.same X10.out.same)).mono ?_
        rintro r w11 ⟨rfl, hs⟩
        have X11 := hid (X10.out.go hs)
        clear hs X10 b0 b1 bl
        go_wp2_with fail
        refine (num_err ad 0 (by omega) _ (HE.out.same X11.out.same)).mono ?_
        rintro r w12 ⟨rfl, hs⟩
        have X12 := hid (X11.out.go hs)
        clear hs X11
        go_wp2_with fail
        refine (num_err ad 0 (by omega) _ (HE.out.same X12.out.same)).mono ?_
        rintro r w13 ⟨rfl, hs⟩
        have X13 := hid (X12.out.go hs)
        clear hs X12
        go_wp2
        go_ret
        exact ⟨rfl, ((X13.out.swap).drop).pull2⟩
end
end Go.Proofs.YtilobedihjkpjaaDoor.Fld
