/-
  paddockref17's Find.
-/
import Derived.Test.YtbhmpbgoanmdlaaDoorRefRoute
namespace Go.Proofs.YtbhmpbgoanmdlaaDoor.Route
open Go Go.RowKit Go.Proofs.YtbhmpbgoanmdlaaDoor.Steps
section
variable {w : World} {p pg pc : Nat} {G : Gr}
set_option maxRecDepth 100000 in
theorem rfind_range (hG : Gnd 49 w p pg pc G) (s t : Int) (hst : ¬ (0 ≤ s ∧ s < G.fs.length) ∨ ¬ (0 ≤ t ∧ t < G.fs.length)) :
    Calls Tryd.prog 23 #[.pointer (some ⟨p, 0, none⟩), .int .i64 s, .int .i64 t] w fun r w' => r = .returned (.tuple #[.slice none 0 0, .int .i64 0, .int .i64 1]) ∧ Same w w' := by
  have HG := hid hG
  have HS := hid (show G.has s = decide (0 ≤ s ∧ s < G.fs.length) from rfl)
  have HT := hid (show G.has t = decide (0 ≤ t ∧ t < G.fs.length) from rfl)
  have HST := hid hst
  clear hG hst
  go_enter Tryd.func23, Tryd.ntmps23
  go_wp2_with fail
  refine (rhas_any HG.out _).mono ?_
  rintro r w' ⟨rfl, rfl⟩
  by_cases hs : 0 ≤ s ∧ s < G.fs.length
  · rw [HS.out, decide_eq_true hs]
    have ht : ¬ (0 ≤ t ∧ t < G.fs.length) := by rcases HST.out with h | h; exact absurd hs h; exact h
    have HT2 := hid ht
    clear hs ht
    go_wp2_with fail
    refine (rhas_any HG.out _).mono ?_
    rintro r w' ⟨rfl, rfl⟩
    rw [HT.out, decide_eq_false HT2.out]
    go_wp2
    go_ret3
    exact ⟨rfl, Chg.refl _⟩
  · rw [HS.out, decide_eq_false hs]
    clear hs
    go_wp2
    go_ret3
    exact ⟨rfl, Chg.refl _⟩

/-- What the reference's Find answers. -/
def rfndA (w w' : World) (r : Ending) (F : Option (List Nat)) (x : Int) : Prop :=
  match F with
  | some l => ∃ v, r = .returned (.tuple #[v, .int .i64 x, .int .i64 0]) ∧ Star w w' [Row 3 1 v l.length (gC l)]
  | none => r = .returned (.tuple #[.slice none 0 0, .int .i64 0, .int .i64 9]) ∧ Same w w'
set_option maxRecDepth 100000 in
set_option maxHeartbeats 1000000 in
theorem rfind_any (hG : Gnd 49 w p pg pc G) (s t : Nat) (hsl : s < G.fs.length) (htl : t < G.fs.length) {c : List Int} (hL : Least G [t] c) (F : Option (List Nat)) (hF : if 0 ≤ cAt c s then Gr.Fol G c s F else F = none) :
    Calls Tryd.prog 23 #[.pointer (some ⟨p, 0, none⟩), .int .i64 s, .int .i64 t] w fun r w' => rfndA w w' r F (cAt c s) := by
  have HG := hid hG
  have HL := hid hL
  have HF := hid hF
  have HB := hid (hL.bound hG.ok)
  have hN := hG.ok.max
  have hhs : G.has (s : Int) = true := by unfold Gr.has; exact decide_eq_true (by omega)
  have hht : G.has (t : Int) = true := by unfold Gr.has; exact decide_eq_true (by omega)
  clear hG hL hF
  go_enter Tryd.func23, Tryd.ntmps23
  go_wp2_with fail
  refine (rhas_any HG.out _).mono ?_
  rintro r w' ⟨rfl, rfl⟩
  rw [hhs]
  go_wp2_with fail
  refine (rhas_any HG.out _).mono ?_
  rintro r w' ⟨rfl, rfl⟩
  rw [hht]
  have X := hid ((Star.new w).alloc #[.int .i64 t] 3)
  go_wp2_with fail
  refine (rcosts_any (HG.out.same X.out.same) [t] _ (reads_blk (X.out.blk 0 rfl).1 1 1 1 rfl) (by simp) (by intro x hx; simp only [List.mem_singleton] at hx; subst hx; exact htl)).mono ?_
  rintro r w2 ⟨c', g, cc, rfl, hL', hX2⟩
  obtain rfl := hL'.unique HL.out
  have hcl : c'.length = G.fs.length := HL.out.len
  have X2 := hid (X.out.lift hX2)
  have hrow := (X2.out.row 0 rfl).1
  have HC := hid (show Reads w2 (.slice (some ⟨g, 0, none⟩) c'.length cc) c'.length 1 (c'.map (Value.int .i64)) by rw [HL.out.len]; exact Reads.of_own hrow)
  rw [hcl] at HC
  clear hX2 X hL' hrow
  have hfr : (if G.free s = true ∧ 0 ≤ cAt c' s then Gr.Fol G c' s F else F = none) := by
    have h := HF.out
    by_cases h0 : 0 ≤ cAt c' s
    · rw [if_pos h0] at h
      rw [if_pos ⟨(HL.out.real s h0).free.1, h0⟩]; exact h
    · rw [if_neg h0] at h
      rw [if_neg (fun hh => h0 hh.2)]; exact h
  have HFR := hid hfr
  clear hfr
  go_wp2_with fail
  refine (rroute_any (HG.out.same X2.out.same) c' _ (by rw [hcl]; exact HC.out) hcl s hsl (fun t => by have := HB.out t; omega) F HFR.out).mono ?_
  rintro r w3 hA
  cases F with
  | none =>
    obtain ⟨rfl, hs3⟩ := hA
    have X3 := hid (X2.out.go hs3)
    clear hs3 X2
    go_wp2
    go_ret3
    exact ⟨rfl, X3.out.same⟩
  | some W =>
    obtain ⟨v, rfl, hX3⟩ := hA
    have X3 := hid (X2.out.lift hX3)
    obtain ⟨va, vc, rfl, -⟩ := own_slice (hX3.row 0 rfl).1
    have hrow := (X3.out.row 1 rfl).1
    have hc : w3.cell? ⟨g, s, none⟩ = some (.int .i64 (cAt c' s)) := (hrow.cellAt s (by omega)).trans (by rw [List.getElem?_map, cAt_get (by omega)]; rfl)
    have hgl := (hrow.lt g rfl).2
    clear hX3 X2 hrow HC hcl
    go_wp2
    go_quiet (fail)
    go_wp2
    go_ret3
    exact ⟨_, rfl, ((X3.out.swap).drop.swap.drop).go ((Chg.refl _).drewN _)⟩
end
end Go.Proofs.YtbhmpbgoanmdlaaDoor.Route
