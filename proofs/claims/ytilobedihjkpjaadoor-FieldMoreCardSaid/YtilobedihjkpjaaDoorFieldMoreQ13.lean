/-
  FieldMore: the texts RouteFind, FieldNew, FieldMore, joined.
-/
import Derived.Test.YtilobedihjkpjaaDoorFieldMoreQ12
import Derived.Test.YtilobedihjkpjaaDoorFieldMoreQ11
import Derived.Test.YtilobedihjkpjaaDoorFieldMoreQ10
import Derived.Test.YtilobedihjkpjaaDoorFieldMoreQ3

/-
  route.Find and route.Cost.
-/
namespace Go.Proofs.YtilobedihjkpjaaDoor
section
variable {G : Gr} {gs : List Nat}
noncomputable def leastOf (G : Gr) (gs : List Nat) (t : Nat) : Int := @ite _ (∃ k : Nat, Gr.To G gs t k) (Classical.propDecidable _) ((leastN fun k : Nat => Gr.To G gs t k : Nat) : Int) (-1)
theorem Least.exists (G : Gr) (gs : List Nat) : ∃ c, Least G gs c := by
  have hof : ∀ t k, Gr.To G gs t k → ∃ j : Nat, k = j ∧ Gr.To G gs t (j : Int) := fun t k h => by
    have := h.free.2
    exact ⟨k.toNat, by omega, by rw [show ((k.toNat : Nat) : Int) = k by omega]; exact h⟩
  have hat : ∀ t, cAt ((List.range G.fs.length).map (leastOf G gs)) t = leastOf G gs t := fun t => by
    unfold cAt
    rw [List.getD_eq_getElem?_getD, List.getElem?_map]
    by_cases h : t < G.fs.length
    · simp [h]
    · rw [List.getElem?_eq_none (by simp; omega)]
      unfold leastOf
      rw [if_neg]
      · rfl
      · rintro ⟨k, hk⟩; exact h (Gr.free_in hk.free.1)
  refine ⟨(List.range G.fs.length).map (leastOf G gs), by simp, fun t => ?_, fun t => ?_, fun t k hT => ?_⟩
  · rw [hat]; unfold leastOf
    split
    · right; omega
    · left; rfl
  · rw [hat]; unfold leastOf
    split
    · rename_i h; intro _; exact leastN_spec (P := fun k : Nat => Gr.To G gs t k) h
    · intro h; omega
  · obtain ⟨j, rfl, hj⟩ := hof t k hT
    rw [hat]; unfold leastOf
    rw [if_pos ⟨j, hj⟩]
    have := leastN_le (P := fun k : Nat => Gr.To G gs t k) hj
    omega
end
end Go.Proofs.YtilobedihjkpjaaDoor
namespace Go.Proofs.YtilobedihjkpjaaDoor.Route
open Go Go.RowKit Go.Proofs.YtilobedihjkpjaaDoor.Hp Go.Proofs.YtilobedihjkpjaaDoor.Steps
section
variable {w : World} {p pg pc : Nat} {G : Gr}
set_option maxRecDepth 100000 in
theorem find_range (hG : Gnd 92 w p pg pc G) (s t : Int) (hst : ¬ (0 ≤ s ∧ s < G.fs.length) ∨ ¬ (0 ≤ t ∧ t < G.fs.length)) (T : TypeId) (u : Addr) (he : w.cell? ⟨1, 0, none⟩ = some (.iface T (.pointer (some u)))) :
    Calls Tryd.prog 62 #[.pointer (some ⟨p, 0, none⟩), .int .i64 s, .int .i64 t] w fun r w' => r = .returned (.tuple #[.slice none 0 0, .int .i64 0, .iface T (.pointer (some u))]) ∧ Same w w' := by
  have HG := hid hG
  have HST := hid hst
  obtain ⟨n, hn⟩ : ∃ n, n = G.fs.length := ⟨_, rfl⟩
  have HN := hid hn
  clear hG hst hn
  go_enter Tryd.func62, Tryd.ntmps62
  by_cases h0 : s < 0
  · go_wp2
    go_quiet (fail)
    go_wp2
    go_ret3
    exact ⟨rfl, (Chg.refl _).drewN _⟩
  · by_cases hsn : s < n
    · have ht : ¬ (0 ≤ t ∧ t < G.fs.length) := by have := HST.out; rw [← HN.out] at this ⊢; omega
      have HT := hid ht
      clear ht
      go_wp2_with fail
      refine (len_any HG.out).mono ?_
      rintro r w' ⟨rfl, rfl⟩
      rw [← HN.out]
      have X := hid ((Star.new w).alloc #[.int .i64 t] 3)
      go_wp2_with fail
      refine (costs_range (HG.out.same X.out.same) t _ (reads_blk (X.out.blk 0 rfl).1 1 1 1 rfl) HT.out _ (X.out.same.keep he)).mono ?_
      rintro r w2 ⟨rfl, hs⟩
      have X2 := hid (X.out.go hs)
      clear hs X
      go_wp2
      go_ret3
      exact ⟨rfl, X2.out.same⟩
    · have hsn' : (n : Int) ≤ s := by omega
      go_wp2_with fail
      refine (len_any HG.out).mono ?_
      rintro r w' ⟨rfl, rfl⟩
      rw [← HN.out]
      go_wp2
      go_quiet (fail)
      go_wp2
      go_ret3
      exact ⟨rfl, (Chg.refl _).drewN _⟩

set_option maxRecDepth 100000 in
set_option maxHeartbeats 1000000 in
theorem find_path (hG : Gnd 92 w p pg pc G) (s t : Nat) (hsl : s < G.fs.length) (htl : t < G.fs.length) {c : List Int} (hL : Least G [t] c) (h0 : cAt c s = -1) (T : TypeId) (u : Addr) (he : w.cell? ⟨9, 0, none⟩ = some (.iface T (.pointer (some u)))) :
    Calls Tryd.prog 62 #[.pointer (some ⟨p, 0, none⟩), .int .i64 s, .int .i64 t] w fun r w' => r = .returned (.tuple #[.slice none 0 0, .int .i64 0, .iface T (.pointer (some u))]) ∧ Same w w' := by
  have HG := hid hG
  have HL := hid hL
  have H0 := hid h0
  have HE := hid he
  obtain ⟨n, hn⟩ : ∃ n, n = G.fs.length := ⟨_, rfl⟩
  have HN := hid hn
  rw [← hn] at hsl htl
  clear hG hn hL h0 he
  go_enter Tryd.func62, Tryd.ntmps62
  go_wp2_with fail
  refine (len_any HG.out).mono ?_
  rintro r w' ⟨rfl, rfl⟩
  rw [← HN.out]
  have X := hid ((Star.new w).alloc #[.int .i64 t] 3)
  go_wp2_with fail
  refine (costs_ok (HG.out.same X.out.same) [t] _ (reads_blk (X.out.blk 0 rfl).1 1 1 1 rfl) (by simp) (by simp) (by intro x hx; simp only [List.mem_singleton] at hx; subst hx; rw [← HN.out]; exact htl)).mono ?_
  rintro r w2 ⟨c', g, cc, rfl, hL', hT', hX2⟩
  obtain rfl := hL'.unique HL.out
  have hcl : c'.length = n := by rw [HL.out.len, HN.out]
  have X2 := hid (X.out.lift hX2)
  have hrow := (X2.out.row 0 rfl).1
  have HC := hid (show Reads w2 (.slice (some ⟨g, 0, none⟩) c'.length cc) c'.length 1 (c'.map (Value.int .i64)) by rw [HL.out.len]; exact Reads.of_own hrow)
  rw [← HN.out] at X2 ⊢
  rw [hcl] at HC
  clear hX2 X hL' hT' hrow hcl
  go_wp2_with fail
  refine (follow_no (HG.out.same X2.out.same) c' _ (by rw [HL.out.len, ← HN.out]; exact HC.out) HL.out.len s (by rw [← HN.out]; exact hsl) (.inr (by rw [H0.out]; omega)) _ (X2.out.same.keep HE.out)).mono ?_
  rintro r w3 ⟨rfl, hs⟩
  have X3 := hid (X2.out.go hs)
  clear hs X2
  go_wp2
  go_ret3
  exact ⟨rfl, X3.out.same⟩

set_option maxRecDepth 100000 in
set_option maxHeartbeats 1000000 in
theorem find_ok (hG : Gnd 92 w p pg pc G) (s t : Nat) (hsl : s < G.fs.length) (htl : t < G.fs.length) {c : List Int} (hL : Least G [t] c) (h0 : 0 ≤ cAt c s) {W : List Nat} (hW : Gr.Fol G c s (some W)) (T : TypeId) (u : Addr) (he : w.cell? ⟨9, 0, none⟩ = some (.iface T (.pointer (some u)))) :
    Calls Tryd.prog 62 #[.pointer (some ⟨p, 0, none⟩), .int .i64 s, .int .i64 t] w fun r w' => ∃ v, r = .returned (.tuple #[v, .int .i64 (cAt c s), .nilIface]) ∧ Star w w' [Row 3 1 v W.length (gC W)] := by
  have HG := hid hG
  have HL := hid hL
  have HW := hid hW
  have HE := hid he
  have hN := hG.ok.max
  obtain ⟨n, hn⟩ : ∃ n, n = G.fs.length := ⟨_, rfl⟩
  have HN := hid hn
  rw [← hn] at hsl htl hN
  clear hG hn hL hW he
  go_enter Tryd.func62, Tryd.ntmps62
  go_wp2_with fail
  refine (len_any HG.out).mono ?_
  rintro r w' ⟨rfl, rfl⟩
  rw [← HN.out]
  have X := hid ((Star.new w).alloc #[.int .i64 t] 3)
  go_wp2_with fail
  refine (costs_ok (HG.out.same X.out.same) [t] _ (reads_blk (X.out.blk 0 rfl).1 1 1 1 rfl) (by simp) (by simp) (by intro x hx; simp only [List.mem_singleton] at hx; subst hx; rw [← HN.out]; exact htl)).mono ?_
  rintro r w2 ⟨c', g, cc, rfl, hL', hT', hX2⟩
  obtain rfl := hL'.unique HL.out
  have hcl : c'.length = n := by rw [HL.out.len, HN.out]
  have HT' := hid hT'
  have X2 := hid (X.out.lift hX2)
  have hrow := (X2.out.row 0 rfl).1
  have HC := hid (show Reads w2 (.slice (some ⟨g, 0, none⟩) c'.length cc) c'.length 1 (c'.map (Value.int .i64)) by rw [HL.out.len]; exact Reads.of_own hrow)
  rw [← HN.out] at X2 HT' ⊢
  rw [hcl] at HC
  clear hX2 X hL' hT' hrow
  go_wp2_with fail
  refine (follow_ok (HG.out.same X2.out.same) c' _ (by rw [HL.out.len, ← HN.out]; exact HC.out) HL.out.len s (HL.out.real s h0).free.1 h0 (fun t => by have := HT'.out t; omega) _ (X2.out.same.keep HE.out) _ HW.out).mono ?_
  rintro r w3 ⟨v, rfl, hX3⟩
  have X3 := hid (X2.out.lift hX3)
  obtain ⟨va, vc, rfl, -⟩ := own_slice (hX3.row 0 rfl).1
  have hrow := (X3.out.row 1 rfl).1
  have hc : w3.cell? ⟨g, s, none⟩ = some (.int .i64 (cAt c' s)) := (hrow.cellAt s (by omega)).trans (by rw [List.getElem?_map, cAt_get (by omega)]; rfl)
  have hgl := (hrow.lt g rfl).2
  clear hX3 X2 hrow HC
  go_wp2
  go_quiet (fail)
  go_wp2
  go_ret3
  exact ⟨_, rfl, ((X3.out.swap).drop.swap.drop).go ((Chg.refl _).drewN _)⟩

set_option maxRecDepth 100000 in
theorem cost_range (hG : Gnd 92 w p pg pc G) (s t : Int) (hst : ¬ (0 ≤ s ∧ s < G.fs.length) ∨ ¬ (0 ≤ t ∧ t < G.fs.length)) (T : TypeId) (u : Addr) (he : w.cell? ⟨1, 0, none⟩ = some (.iface T (.pointer (some u)))) :
    Calls Tryd.prog 36 #[.pointer (some ⟨p, 0, none⟩), .int .i64 s, .int .i64 t] w fun r w' => r = .returned (.tuple #[.int .i64 0, .iface T (.pointer (some u))]) ∧ Same w w' := by
  have HF := hid (find_range hG s t hst T u he)
  clear hG hst
  go_enter Tryd.func36, Tryd.ntmps36
  go_wp2_with fail
  refine HF.out.mono ?_
  rintro r w2 ⟨rfl, hs⟩
  have S := hid hs
  clear hs HF
  go_wp2
  go_ret2
  exact ⟨rfl, S.out⟩
set_option maxRecDepth 100000 in
theorem cost_path (hG : Gnd 92 w p pg pc G) (s t : Nat) (hsl : s < G.fs.length) (htl : t < G.fs.length) {c : List Int} (hL : Least G [t] c) (h0 : cAt c s = -1) (T : TypeId) (u : Addr) (he : w.cell? ⟨9, 0, none⟩ = some (.iface T (.pointer (some u)))) :
    Calls Tryd.prog 36 #[.pointer (some ⟨p, 0, none⟩), .int .i64 s, .int .i64 t] w fun r w' => r = .returned (.tuple #[.int .i64 0, .iface T (.pointer (some u))]) ∧ Same w w' := by
  have HF := hid (find_path hG s t hsl htl hL h0 T u he)
  clear hG hL h0
  go_enter Tryd.func36, Tryd.ntmps36
  go_wp2_with fail
  refine HF.out.mono ?_
  rintro r w2 ⟨rfl, hs⟩
  have S := hid hs
  clear hs HF
  go_wp2
  go_ret2
  exact ⟨rfl, S.out⟩
set_option maxRecDepth 100000 in
theorem cost_ok (hG : Gnd 92 w p pg pc G) (s t : Nat) (hsl : s < G.fs.length) (htl : t < G.fs.length) {c : List Int} (hL : Least G [t] c) (h0 : 0 ≤ cAt c s) (T : TypeId) (u : Addr) (he : w.cell? ⟨9, 0, none⟩ = some (.iface T (.pointer (some u)))) :
    Calls Tryd.prog 36 #[.pointer (some ⟨p, 0, none⟩), .int .i64 s, .int .i64 t] w fun r w' => r = .returned (.tuple #[.int .i64 (cAt c s), .nilIface]) ∧ Same w w' := by
  obtain ⟨W, hW⟩ := hL.fol hG.ok h0
  have HF := hid (find_ok hG s t hsl htl hL h0 hW T u he)
  generalize cAt c s = x at *
  clear hG hL h0 hW
  go_enter Tryd.func36, Tryd.ntmps36
  go_wp2_with fail
  refine HF.out.mono ?_
  rintro r w2 ⟨v, rfl, hX⟩
  have S := hid hX.same
  obtain ⟨va, vc, rfl, -⟩ := own_slice (hX.row 0 rfl).1
  clear hX HF
  go_wp2
  go_ret2
  exact ⟨rfl, S.out⟩
end
end Go.Proofs.YtilobedihjkpjaaDoor.Route

/-
  field.New, all its ways.
-/
namespace Go.Proofs.YtilobedihjkpjaaDoor.Err
open Go Go.RowKit
/-- The three errors that fields need. -/
structure ErrsF (w : World) (ad : Nat → Addr) : Prop where
  c0 : w.cell? ⟨1, 0, none⟩ = some (.iface 205 (.pointer (some (ad 0))))
  c6 : w.cell? ⟨7, 0, none⟩ = some (.iface 205 (.pointer (some (ad 6))))
  c9 : w.cell? ⟨0, 0, none⟩ = some (.iface 205 (.pointer (some (ad 9))))
theorem ErrsF.same {w w' : World} {ad : Nat → Addr} (h : ErrsF w ad) (hs : Same w w') : ErrsF w' ad := ⟨hs.keep h.c0, hs.keep h.c6, hs.keep h.c9⟩
theorem ErrsF.two {w : World} {ad : Nat → Addr} (h : ErrsF w ad) : Errs2 w ad := ⟨h.c0, h.c6⟩
theorem Errs.fld {w : World} {ad : Nat → Addr} (h : Errs w ad) : ErrsF w ad := ⟨h.c0, h.c6, h.c9⟩
theorem errsF_of {w : World} {a0 a6 a9 : Addr} (h0 : w.cell? ⟨1, 0, none⟩ = some (.iface 205 (.pointer (some a0))))
    (h6 : w.cell? ⟨7, 0, none⟩ = some (.iface 205 (.pointer (some a6)))) (h9 : w.cell? ⟨0, 0, none⟩ = some (.iface 205 (.pointer (some a9)))) : ∃ ad, ErrsF w ad :=
  ⟨fun k => match k with | 0 => a0 | 6 => a6 | _ => a9, h0, h6, h9⟩
end Go.Proofs.YtilobedihjkpjaaDoor.Err
namespace Go.Proofs.YtilobedihjkpjaaDoor.Fld
open Go Go.RowKit Go.Proofs.YtilobedihjkpjaaDoor.Err Go.Proofs.YtilobedihjkpjaaDoor.Steps Go.Proofs.YtilobedihjkpjaaDoor.Ord Go.Proofs.YtilobedihjkpjaaDoor.Route
/-- Goals that a field takes. -/
def GoalsOk (G : Gr) (xs : List Int) : Prop := 1 ≤ xs.length ∧ xs.length ≤ 8 ∧ ∀ x ∈ xs, 0 ≤ x ∧ x < G.fs.length
section
variable {w : World} {p pg pc : Nat} {G : Gr}
theorem new_all (hG : Gnd 92 w p pg pc G) (xs : List Int) (v : Value) (hr : Ints w v xs) (hb : xs.length ≤ 9223372036854775807) (ad : Nat → Addr) (hE : ErrsF w ad) :
    Calls Tryd.prog 11 #[.pointer (some ⟨p, 0, none⟩), v] w fun r w' =>
      (∃ f gl c, OrdOf xs gl ∧ FOk G gl c ∧ GoalsOk G xs ∧ r = .returned (.tuple #[.pointer (some ⟨f, 0, none⟩), .nilIface]) ∧ Star w w' [fldR f G gl c]) ∨
      (∃ k, ¬ GoalsOk G xs ∧ (k = 0 ∧ 1 ≤ xs.length ∧ xs.length ≤ 8 ∨ k = 9 ∧ ¬ (1 ≤ xs.length ∧ xs.length ≤ 8)) ∧ r = .returned (.tuple #[.pointer none, .iface 205 (.pointer (some (ad k)))]) ∧ Same w w') := by
  by_cases hl : 1 ≤ xs.length ∧ xs.length ≤ 8
  · by_cases hin : ∀ x ∈ xs, 0 ≤ x ∧ x < G.fs.length
    · refine (new_ok hG xs v hr hl.1 hl.2 hin).mono ?_
      rintro r w' ⟨f, gl, ho, rfl, hX⟩
      obtain ⟨c, hc⟩ := Least.exists G (goalsOf gl)
      exact .inl ⟨f, gl, c, ho, fokOf ho hG.ok hl.2 hin hc, ⟨hl.1, hl.2, hin⟩, rfl, hX c⟩
    · have hout : ∃ x ∈ xs, x < 0 ∨ (G.fs.length : Int) ≤ x := by
        refine Classical.byContradiction (fun h => hin (fun x hx => ?_))
        refine Classical.byContradiction (fun h2 => h ⟨x, hx, by omega⟩)
      refine (new_range hG xs v hr hl.1 hl.2 hout _ hE.c0).mono ?_
      rintro r w' ⟨rfl, hs⟩
      exact .inr ⟨0, fun h => hin h.2.2, .inl ⟨rfl, hl⟩, rfl, hs⟩
  · refine (new_goal v xs hr hb (by omega) _ hE.c9).mono ?_
    rintro r w' ⟨rfl, hs⟩
    exact .inr ⟨9, fun h => hl ⟨h.1, h.2.1⟩, .inr ⟨rfl, hl⟩, rfl, hs⟩
end
/-- More goals, no dearer way. -/
theorem To.more {G : Gr} {gs gs' : List Nat} (hs : ∀ x ∈ gs, x ∈ gs') {t : Nat} {k : Int} (h : Gr.To G gs t k) : Gr.To G gs' t k := by
  induction h with
  | goal h1 h2 => exact .goal (hs _ h1) h2
  | step hg _ ih => exact .step hg ih
theorem goals_sub {xs ys gl gl' : List Int} (ho : OrdOf xs gl) (ho' : OrdOf ys gl') (hs : ∀ x ∈ xs, x ∈ ys) : ∀ x ∈ goalsOf gl, x ∈ goalsOf gl' := by
  intro x hx
  obtain ⟨y, hy, rfl⟩ := List.mem_map.1 hx
  exact List.mem_map.2 ⟨y, (ho'.mem y).2 (hs y ((ho.mem y).1 hy)), rfl⟩
end Go.Proofs.YtilobedihjkpjaaDoor.Fld

/-
  FieldMore: the walk. 
-/
namespace Go.Proofs.YtilobedihjkpjaaDoor.FieldMore
open Go Go.RowKit Go.Proofs.YtilobedihjkpjaaDoor.Err Go.Proofs.YtilobedihjkpjaaDoor.Steps Go.Proofs.YtilobedihjkpjaaDoor.Ord Go.Proofs.YtilobedihjkpjaaDoor.Route Go.Proofs.YtilobedihjkpjaaDoor.Fld

set_option maxRecDepth 100000 in
set_option maxHeartbeats 8000000 in
theorem walk (g : Grd) (bv : Value) (bl : List Int) (gv : Value) (xs : List Int) (sv : Value) (t : Int) (goal : Int) (w : World) (hr : Ints w bv bl) (hb : bl.length ≤ 9223372036854775807) (hrg : Ints w gv xs) (hbg : xs.length ≤ 9223372036854775807) (ad : Nat → Addr) (hE : ErrsF w ad) :
    Calls Tryd.prog 4 #[ask19V g bv gv sv t, .int .i64 goal] w fun r w' => r = .returned (.bool true) ∧ Same w w' := by
  obtain ⟨i0, hi0, hz0, hz1, hz2⟩ := info_parts infoInt
  obtain ⟨a, cb, rfl⟩ := hr.slice
  obtain ⟨ga, gc, rfl⟩ := hrg.slice
  have HE := hid hE
  have HR := hid hr
  have HRG := hid hrg
  obtain ⟨l, hl⟩ : ∃ l, l = bl.length := ⟨_, rfl⟩
  obtain ⟨gn, hgn⟩ : ∃ gn, gn = xs.length := ⟨_, rfl⟩
  have HGN := hid hgn
  by_cases hc : g.right = true ∧ g.W * g.H ≤ 150 ∧ bl.length ≤ 200
  · have MY := hid (fun (w : World) hr hE => made_yes (w := w) g bl (.slice a bl.length cb) hr hc.2.2 hc.1 hc.2.1 ad hE)
    rw [← hl] at MY HR ⊢
    rw [← hgn] at HRG hbg ⊢
    obtain ⟨W, H, S, X, Y⟩ := g
    unfold ask19V
    unfold Grd.v at MY
    simp only at MY ⊢
    have Z := hid ((Star.new w).alloc #[.int .i64 W, .int .i64 H, .int .i64 S, .int .i64 X, .int .i64 Y, .slice a l cb, .slice ga gn gc, sv, .int .i64 t] 27)
    have HL := hid hl
    clear hc hr hE hl hb hrg hgn
    go_enter Tryd.func4, Tryd.ntmps4
    go_wp2_with fail
    generalize w.alloc _ = w1 at *
    generalize w.heap.size = q at *
    refine (alive_any ad (HE.out.same Z.out.same).two).mono ?_
    rintro r w2 ⟨rfl, hs⟩
    have Z2 := hid (Z.out.go hs)
    have hbk := (Z2.out.blk 0 rfl).1
    have hql := lt_of hbk
    have c0 := cell_of hbk 0
    have c1 := cell_of hbk 1
    have c2 := cell_of hbk 2
    have c3 := cell_of hbk 3
    have c4 := cell_of hbk 4
    have c5 := cell_of hbk 5
    have c6 := cell_of hbk 6
    have c7 := cell_of hbk 7
    have c8 := cell_of hbk 8
    simp only [List.getElem?_toArray, List.getElem?_cons_zero, List.getElem?_cons_succ] at c0 c1 c2 c3 c4 c5 c6 c7 c8
    clear hbk hs Z
    go_wp2_with fail
    refine (MY.out _ (HR.out.same Z2.out.same) (HE.out.same Z2.out.same).two).mono ?_
    rintro r w3 ⟨p, m, G, hok, hmax, rfl, hX3⟩
    have X3 : Hid (Star w w3 [gndR 76 m G, gndR 92 p G, Blk q #[.int .i64 W, .int .i64 H, .int .i64 S, .int .i64 X, .int .i64 Y, .slice a l cb, .slice ga gn gc, sv, .int .i64 t] 27]) := hid (Z2.out.lift hX3)
    have OK := hid hok
    clear c0 c1 c2 c3 c4 c5 c6 c7 c8 hql hX3 Z2 MY hok
    have hbk := (X3.out.blk 2 rfl).1
    have hql := lt_of hbk
    have c6 := cell_of hbk 6
    have c7 := cell_of hbk 7
    have c8 := cell_of hbk 8
    simp only [List.getElem?_toArray, List.getElem?_cons_zero, List.getElem?_cons_succ] at c6 c7 c8
    clear hbk
    obtain ⟨pg, pc, hG, -⟩ := gnd_at X3.out 1 rfl
    have HG := hid hG
    clear hG
    by_cases h7 : gn ≤ 7
    · go_wp2_with fail
      refine (new_all HG.out xs _ (HRG.out.same X3.out.same) (by rw [← HGN.out]; exact hbg) ad (HE.out.same X3.out.same)).mono ?_
      rintro r w4 hcase
      rcases hcase with ⟨f, gl, c, ho, hF, hgo, rfl, hX4⟩ | ⟨k, -, -, rfl, hs4⟩
      · have X4 : Hid (Star w w4 [fldR f G gl c, gndR 76 m G, gndR 92 p G, Blk q #[.int .i64 W, .int .i64 H, .int .i64 S, .int .i64 X, .int .i64 Y, .slice a l cb, .slice ga gn gc, sv, .int .i64 t] 27]) := hid (X3.out.lift hX4)
        have HF := hid hF
        have HO := hid ho
        have HGO := hid hgo
        obtain ⟨n, hn⟩ : ∃ n, n = G.fs.length := ⟨_, rfl⟩
        have HN := hid hn
        have hN := hF.ok.max
        rw [← hn] at hN hmax
        obtain ⟨mm, hm, hmod⟩ := mod_small goal n (by omega) (by omega)
        have hwu : IntKind.u64.wrap (n : Int) = (n : Int) := by simp only [IntKind.wrap, IntKind.bits, IntKind.signed]; simp; omega
        have HM := hid hm
        have X5 := hid (X4.out.add (w' := w4.alloc (.cells #[] 3)) ((Chg.refl _).alloc _) (R := Row 3 1 (.slice (some ⟨w4.heap.size, 0, none⟩) 0 0) 0 (([] : List Int).map (Value.int .i64))) ⟨World.ownsRow_lit w4 #[] 0 (Nat.zero_le _) (by unfold maxLen; omega) rfl, rfl⟩ (fun k h => by have : w4.heap.size = k := Option.some.inj h; omega))
        have hbk := (X4.out.blk 3 rfl).1
        have kql := lt_of hbk
        have k6 := cell_of hbk 6
        simp only [List.getElem?_toArray, List.getElem?_cons_zero, List.getElem?_cons_succ] at k6
        clear hbk hX4 hF ho hgo hn c6 c7 c8 hql X3 HG
        obtain ⟨pg, pc, hG, -⟩ := gnd_at X4.out 2 rfl
        have HG4 := hid hG
        clear hG
        have HRD := hid (show Reads w (.slice ga gn gc) gn 1 (xs.map (Value.int .i64)) by have h := HRG.out; unfold Ints at h; rw [← HGN.out] at h; exact h)
        go_wp2_with (at_builtin; refine wpList_app rfl (.tmp 44) (.tmp 46) 24 rfl 3 i0 (.int .i64 0) 1 8 Tryd.underlying24 hi0 hz0 hz1 hz2 rfl (by decide) _ 0 [] rfl (X5.out.row 0 rfl).1 ga gn gc (xs.map (Value.int .i64)) rfl (HRD.out.same (X5.out).same) (nums_one _) (by omega) (by omega) ?_; intro a5 c5 w5 ho5 hg5 hn5; have X6 := hid (X5.out.grown 0 rfl ho5 hg5 hn5); clear ho5 hg5 hn5)
        have X7 : Hid (Star w w5 [Row 3 1 (.slice a5 gn c5) gn (xs.map (Value.int .i64)), fldR f G gl c, gndR 76 m G, gndR 92 p G, Blk q #[.int .i64 W, .int .i64 H, .int .i64 S, .int .i64 X, .int .i64 Y, .slice a l cb, .slice ga gn gc, sv, .int .i64 t] 27]) := hid (by have h := X6.out; rw [Nat.zero_add] at h; exact h)
        clear X6 X5 X4 k6 kql HG4
        obtain ⟨pg, pc, hG, -⟩ := gnd_at X7.out 3 rfl
        refine (len_any hG).mono ?_
        rintro r w' ⟨rfl, rfl⟩
        rw [← HN.out]
        clear hG
        have X8 := hid (X7.out.alloc #[.int .i64 mm] 3)
        go_wp2_with (at_builtin; refine wpList_app rfl (.tmp 47) (.tmp 55) 24 rfl 3 i0 (.int .i64 0) 1 8 Tryd.underlying24 hi0 hz0 hz1 hz2 rfl (by decide) _ gn (xs.map (Value.int .i64)) rfl (X8.out.row 1 rfl).1 (some ⟨w5.heap.size, 0, none⟩) 1 1 [.int .i64 mm] rfl (reads_blk (X8.out.blk 0 rfl).1 1 1 1 rfl) (by simp [Value.oneCell']) (by omega) (by omega) ?_; intro a9 c9 w9 ho9 hg9 hn9; have X9 := hid (X8.out.grown 1 rfl ho9 hg9 hn9).drop; clear ho9 hg9 hn9)
        have X10 : Hid (Star w w9 [Row 3 1 (.slice a9 (gn + 1) c9) (gn + 1) (xs.map (Value.int .i64) ++ [.int .i64 mm]), fldR f G gl c, gndR 76 m G, gndR 92 p G, Blk q #[.int .i64 W, .int .i64 H, .int .i64 S, .int .i64 X, .int .i64 Y, .slice a l cb, .slice ga gn gc, sv, .int .i64 t] 27]) := X9
        clear X9 X8 X7
        obtain ⟨pg, pc, hG, -⟩ := gnd_at X10.out 3 rfl
        have hl2 : (xs ++ [(mm : Int)]).length = gn + 1 := by rw [List.length_append, ← HGN.out]; rfl
        have hm2 : (xs ++ [(mm : Int)]).map (Value.int .i64) = xs.map (Value.int .i64) ++ [.int .i64 mm] := by simp
        refine (new_all hG (xs ++ [(mm : Int)]) _ (by unfold Ints; rw [hl2, hm2]; exact Reads.of_own (X10.out.row 0 rfl).1) (by omega) ad (HE.out.same X10.out.same)).mono ?_
        rintro r w11 hcase
        rcases hcase with ⟨f2, gl2, d, ho2, hF2, hgo2, rfl, hX11⟩ | ⟨k2, hbad, -, -, -⟩
        · have X11 : Hid (Star w w11 [fldR f2 G gl2 d, fldR f G gl c]) := hid (((X10.out.lift hX11).pull 5 rfl).drop |> fun h => (((h.pull 4 rfl).drop.pull 3 rfl).drop.pull 1 rfl).drop)
          have HF2 := hid hF2
          have HMORE := hid (fun (t : Nat) (h0 : 0 ≤ cAt c t) => hF2.least.min t _ (To.more (goals_sub HO.out ho2 (fun x hx => List.mem_append_left _ hx)) (HF.out.least.real t h0)))
          clear hG hX11 X10 hF2 ho2 hgo2 hmod hwu hm hl2 hm2
          go_wp2_with fail
          refine (cells_any X11.out HF2.out).mono ?_
          rintro r w12 ⟨v2, rfl, hX12⟩
          have X12 : Hid (Star w w12 [fldR f G gl c, cellR v2 (G.cells d G.fs.length)]) := hid ((hX12.pull 1 rfl).drop.swap)
          clear hX12 X11
          go_wp2_with fail
          refine (cells_any X12.out HF.out).mono ?_
          rintro r w13 ⟨v1, rfl, hX13⟩
          have hX14 : Star w w13 [Row 41 2 v1 n (ceCs (G.cells c n)), Row 41 2 v2 n (ceCs (G.cells d n))] := by
            have h := (hX13.pull 1 rfl).drop
            unfold cellR at h
            rw [Gr.cells_len, Gr.cells_len, ← HN.out] at h
            exact h
          obtain ⟨b1, k1, rfl⟩ := own_shape (hX14.row 0 rfl).1 (by omega)
          obtain ⟨b2, k2, rfl⟩ := own_shape (hX14.row 1 rfl).1 (by omega)
          have X14 := hid hX14
          clear hX13 hX14 X12
          go_wp2_with fail
          go_loopw [67] (fun iv wr => ∃ k : Nat, k ≤ n ∧ iv = .int .i64 k ∧ Star w wr [Row 41 2 (.slice (some ⟨b1, 0, none⟩) n k1) n (ceCs (G.cells c n)), Row 41 2 (.slice (some ⟨b2, 0, none⟩) n k2) n (ceCs (G.cells d n))]) (fun iv _ => n - (intOf iv).toNat)
          case atStart => exact ⟨0, by omega, rfl, X14.out⟩
          case round =>
            obtain ⟨k, hk, rfl, hX⟩ := hrel
            have X := hid hX
            clear X14 hX
            by_cases hkn : k < n
            · have hr1 := (X.out.row 0 rfl).1
              have hr2 := (X.out.row 1 rfl).1
              have g0 : wr.cell? ⟨b1, k * 2, none⟩ = some (.int .i64 (cAt c k)) := (hr1.cellAt (k * 2) (by omega)).trans ((rows_get ceC ceC_len _ k 0 _ (Gr.cells_get G c hkn) (by omega)).trans rfl)
              have g1 : wr.cell? ⟨b1, k * 2 + 1, none⟩ = some (.int .i64 (G.dirOf c k)) := (hr1.cellAt (k * 2 + 1) (by omega)).trans ((rows_get ceC ceC_len _ k 1 _ (Gr.cells_get G c hkn) (by omega)).trans rfl)
              have g2 : wr.cell? ⟨b2, k * 2, none⟩ = some (.int .i64 (cAt d k)) := (hr2.cellAt (k * 2) (by omega)).trans ((rows_get ceC ceC_len _ k 0 _ (Gr.cells_get G d hkn) (by omega)).trans rfl)
              have l1 := (hr1.lt b1 rfl).2
              have l2 := (hr2.lt b2 rfl).2
              have hmo := HMORE.out k
              clear hr1 hr2
              generalize cAt c k = x at *
              generalize cAt d k = y at *
              generalize G.dirOf c k = z at *
              by_cases h0 : 0 ≤ x
              · obtain ⟨y0, y1⟩ := hmo h0
                have e1 : decide (y < 0) = false := decide_eq_false (by omega)
                have e2 : decide (x < y) = false := decide_eq_false (by omega)
                have e3 : decide (0 ≤ x) = true := decide_eq_true h0
                clear hmo y0 y1 h0
                go_wp2_with fail
                go_quiet (fail)
                go_wp2
                go_roundw
                case rel => exact ⟨k + 1, by omega, by go_num, X.out.go (((Chg.refl _).alloc _).drewN _)⟩
                case measure => simp [intOf]; omega
              · have e3 : decide (0 ≤ x) = false := decide_eq_false h0
                clear hmo h0
                go_wp2_with fail
                go_quiet (fail)
                go_wp2
                go_roundw
                case rel => exact ⟨k + 1, by omega, by go_num, X.out.go (((Chg.refl _).alloc _).drewN _)⟩
                case measure => simp [intOf]; omega
            · go_wp2
              go_ret
              exact ⟨rfl, X.out.same⟩
        · exfalso
          have h := HGO.out
          refine hbad ⟨by omega, by omega, fun x hx => ?_⟩
          rcases List.mem_append.1 hx with hx | hx
          · exact h.2.2 x hx
          · simp only [List.mem_singleton] at hx
            rw [← HN.out]; omega
      · have S4 := hid (X3.out.go hs4)
        go_wp2
        go_ret
        exact ⟨rfl, S4.out.same⟩
    · go_wp2
      go_ret
      exact ⟨rfl, X3.out.same⟩
  · have MN := hid (fun (w : World) hr => made_no (w := w) g bl (.slice a bl.length cb) hr hb hc)
    rw [← hl] at MN HR ⊢
    rw [← hgn] at HRG hbg ⊢
    obtain ⟨W, H, S, X, Y⟩ := g
    unfold ask19V
    unfold Grd.v at MN
    simp only at MN ⊢
    have Z := hid ((Star.new w).alloc #[.int .i64 W, .int .i64 H, .int .i64 S, .int .i64 X, .int .i64 Y, .slice a l cb, .slice ga gn gc, sv, .int .i64 t] 27)
    clear hc hr hE hl hb hrg hgn
    go_enter Tryd.func4, Tryd.ntmps4
    go_wp2_with fail
    generalize w.alloc _ = w1 at *
    generalize w.heap.size = q at *
    refine (alive_any ad (HE.out.same Z.out.same).two).mono ?_
    rintro r w2 ⟨rfl, hs⟩
    have Z2 := hid (Z.out.go hs)
    have hbk := (Z2.out.blk 0 rfl).1
    have hql := lt_of hbk
    have c0 := cell_of hbk 0
    have c1 := cell_of hbk 1
    have c2 := cell_of hbk 2
    have c3 := cell_of hbk 3
    have c4 := cell_of hbk 4
    have c5 := cell_of hbk 5
    have c6 := cell_of hbk 6
    have c7 := cell_of hbk 7
    have c8 := cell_of hbk 8
    simp only [List.getElem?_toArray, List.getElem?_cons_zero, List.getElem?_cons_succ] at c0 c1 c2 c3 c4 c5 c6 c7 c8
    clear hbk hs Z
    go_wp2_with fail
    refine (MN.out _ (HR.out.same Z2.out.same)).mono ?_
    rintro r w3 ⟨rfl, hs⟩
    have Z3 := hid (Z2.out.go hs)
    clear hs Z2 MN
    go_wp2
    go_ret
    exact ⟨rfl, Z3.out.same⟩
end Go.Proofs.YtilobedihjkpjaaDoor.FieldMore
