/-
  A ground that is the same.
-/
import Derived.Test.YtilobedihjkpjaaDoorSteps
import Derived.Test.YtilobedihjkpjaaDoorCloneB
import Derived.Test.YtilobedihjkpjaaDoorFlat
namespace Go.Proofs.YtilobedihjkpjaaDoor.Steps
open Go Go.RowKit

section
variable {w w0 : World} {L : List Res} {p g c : Nat} {G : Gr}
set_option maxRecDepth 100000 in
set_option maxHeartbeats 4000000 in
theorem clone_gnd (h : Gnd 92 w p g c G) : Calls Tryd.prog 46 #[.pointer (some ⟨p, 0, none⟩)] w fun r w' => ∃ q, r = .returned (.pointer (some ⟨q, 0, none⟩)) ∧ Star w w' [gndR 92 q G] := by
  have H := hid h
  have HX := hid (Star.new w)
  have c0 := h.c0
  have c1 := h.c1
  have c2 := h.c2
  have hm := h.ok.max
  clear h
  go_enter Tryd.func46, Tryd.ntmps46
  go_wp2
  go_region_held3 (fun w' => w'.cell? ⟨p, 0, none⟩ = some (.int .i64 G.W) ∧ w'.cell? ⟨p, 1, none⟩ = some (.int .i64 G.H) ∧ w'.cell? ⟨p, 2, none⟩ = some (.slice (some ⟨g, 0, none⟩) G.fs.length c)) (go_keep) ((go_at_call 71; refine (CloneB.clone_any _ G.fs.length (bv G.fs) _ (Reads.of_own (H.out.same ((Chg.refl _).drew)).own) (bv_one _) (by omega)).mono ?_; rintro r w1 ⟨v', rfl, hf, hs⟩; have HF := hid hf; have HS := hid (show Same w w1 from Chg.trans (S := fun _ => False) ((Chg.refl _).drew) hs (fun _ _ f => f)); have k0 := HS.out.keep H.out.c0; have k1 := HS.out.keep H.out.c1; have k2 := HS.out.keep H.out.c2; clear hf hs; obtain ⟨g', c', rfl⟩ := own_shape HF.out.1 (by omega)))
  all_goals
    go_wp2
    go_ret
    have hg := HF.out.2 g' rfl
    have hgl := (HF.out.1.lt g' rfl).2
    simp only [World.drew] at hg
    exact ⟨_, rfl, gnd_new HX.out (HS.out.alloc _) ⟨alloc_new _ _, own_chg (S := fun _ => False) HF.out.1 ((Chg.refl _).alloc _) (fun _ _ f => f), by omega, H.out.ok⟩ HS.out.size hg⟩
theorem clone_any (X : Star w0 w (gndR 92 p G :: L)) : Calls Tryd.prog 46 #[.pointer (some ⟨p, 0, none⟩)] w fun r w' => ∃ q, r = .returned (.pointer (some ⟨q, 0, none⟩)) ∧ Star w0 w' (gndR 92 q G :: gndR 92 p G :: L) := by
  obtain ⟨g, c, h, -, -, -⟩ := gnd_at X 0 rfl
  exact (clone_gnd h).mono fun r w' ⟨q, h1, h2⟩ => ⟨q, h1, X.lift h2⟩
end
end Go.Proofs.YtilobedihjkpjaaDoor.Steps
