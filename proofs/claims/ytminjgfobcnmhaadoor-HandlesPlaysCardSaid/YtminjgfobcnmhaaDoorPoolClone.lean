/-
  Package handles: Slots, Clone.
-/
import Derived.Test.YtminjgfobcnmhaaDoorPoolFree
namespace Go.Proofs.YtminjgfobcnmhaaDoor.Pool
open Go Go.RowKit

set_option maxRecDepth 100000 in
set_option maxHeartbeats 1000000 in
theorem slots_any {w0 w : World} {L : List Res} {p : Nat} {S : List Slot} {f : List Nat} {c : Int} (X : Star w0 w (PoolR p S f c :: L)) (hS : S.length ≤ 1000) (hf : f.length ≤ 1000) :
    Calls Tryd.prog 24 #[.pointer (some ⟨p, 0, none⟩)] w fun r w' => ∃ vs vf, r = .returned (.tuple #[vs, vf]) ∧ Star w0 w' (freeR vf f :: slotsR vs S :: PoolR p S f c :: L) := by
  have H := hid X
  obtain ⟨vs, vf, hY⟩ := PoolR.open X
  have HRS := hid (Reads.of_own (hY.row 1 rfl).1)
  have HRF := hid (Reads.of_own (hY.row 2 rfl).1)
  have Y := hid hY
  clear hY X
  have hbk1 := Y.out.blk 0 rfl
  have pc0 : w.cell? ⟨p, 0, none⟩ = some (vs) := cell_of hbk1.1 0
  have pc1 : w.cell? ⟨p, 1, none⟩ = some (vf) := cell_of hbk1.1 1
  have pcl : p < w.heap.size := lt_of hbk1.1
  clear hbk1

  go_enter Tryd.func24, Tryd.ntmps24
  go_wp2
  go_region_with (first
    | (go_at_call 47; refine (CloneS.clone_any _ S.length (S.flatMap sl) _ (HRS.out.same ((Chg.refl _).drew)) (rows_one sl sl_one S) (by omega)).mono ?_; rintro r wa ⟨va, rfl, hfa, hsa⟩; have HSA := hid hsa; have SA := hid (Chg.trans (S := fun _ => False) ((Chg.refl w).drew) hsa (fun _ _ f => f)); have FA := hid hfa; have pa0 := SA.out.keep pc0; have pa1 := SA.out.keep pc1; have pal : p < wa.heap.size := Nat.lt_of_lt_of_le pcl SA.out.size; clear hfa hsa)
    | (go_at_call 48; refine (CloneI.clone_any _ f.length (f.map nv) _ (HRF.out.same SA.out) (nv_one f) (by omega)).mono ?_; rintro r wb ⟨vb, rfl, hfb, hsb⟩; have HSB := hid hsb; have FB := hid hfb; clear hfb hsb))
  all_goals
    go_wp2
    go_ret2
    exact ⟨_, _, rfl, ((H.out.go ((Chg.refl _).drew)).fresh FA.out HSA.out).fresh FB.out HSB.out⟩

set_option maxRecDepth 100000 in
set_option maxHeartbeats 1000000 in
theorem clone_any {w0 w : World} {L : List Res} {p : Nat} {S : List Slot} {f : List Nat} {c : Int} (X : Star w0 w (PoolR p S f c :: L)) (hS : S.length ≤ 1000) (hf : f.length ≤ 1000) :
    Calls Tryd.prog 25 #[.pointer (some ⟨p, 0, none⟩)] w fun r w' => ∃ q, r = .returned (.pointer (some ⟨q, 0, none⟩)) ∧ Star w0 w' (PoolR q S f c :: PoolR p S f c :: L) := by
  have H := hid X
  obtain ⟨vs, vf, hY⟩ := PoolR.open X
  have HRS := hid (Reads.of_own (hY.row 1 rfl).1)
  have HRF := hid (Reads.of_own (hY.row 2 rfl).1)
  have Y := hid hY
  clear hY X
  have hbk2 := Y.out.blk 0 rfl
  have pc0 : w.cell? ⟨p, 0, none⟩ = some (vs) := cell_of hbk2.1 0
  have pc1 : w.cell? ⟨p, 1, none⟩ = some (vf) := cell_of hbk2.1 1
  have pc2 : w.cell? ⟨p, 2, none⟩ = some (.int .i64 c) := cell_of hbk2.1 2
  have pcl : p < w.heap.size := lt_of hbk2.1
  clear hbk2

  go_enter Tryd.func25, Tryd.ntmps25
  go_wp2
  go_region_held3 (fun w' => w'.cell? ⟨p, 0, none⟩ = some vs ∧ w'.cell? ⟨p, 1, none⟩ = some vf ∧ w'.cell? ⟨p, 2, none⟩ = some (.int .i64 c)) (go_keep) (first
    | (go_at_call 47; refine (CloneS.clone_any _ S.length (S.flatMap sl) _ (HRS.out.same ((Chg.refl _).drew)) (rows_one sl sl_one S) (by omega)).mono ?_; rintro r wa ⟨va, rfl, hfa, hsa⟩; obtain ⟨aa, ca, rfl, -⟩ := own_slice hfa.1; have HSA := hid hsa; have SA := hid (Chg.trans (S := fun _ => False) ((Chg.refl w).drew) hsa (fun _ _ f => f)); have FA := hid hfa; have pa0 := SA.out.keep pc0; have pa1 := SA.out.keep pc1; have pa2 := SA.out.keep pc2; have pal : p < wa.heap.size := Nat.lt_of_lt_of_le pcl SA.out.size; clear hfa hsa)
    | (go_at_call 48; refine (CloneI.clone_any _ f.length (f.map nv) _ (HRF.out.same SA.out) (nv_one f) (by omega)).mono ?_; rintro r wb ⟨vb, rfl, hfb, hsb⟩; obtain ⟨ab, cb, rfl, -⟩ := own_slice hfb.1; have HSB := hid hsb; have pb0 := HSB.out.keep pa0; have pb1 := HSB.out.keep pa1; have pb2 := HSB.out.keep pa2; have pbl : p < wb.heap.size := Nat.lt_of_lt_of_le pal HSB.out.size; have FB := hid hfb; clear hfb hsb))
  all_goals
    go_wp2
    go_ret
    have h : Star w0 _ (blkR _ (.slice aa S.length ca) (.slice ab f.length cb) c :: freeR (.slice ab f.length cb) f :: slotsR (.slice aa S.length ca) S :: PoolR p S f c :: L) := (((H.out.go ((Chg.refl _).drew)).fresh FA.out HSA.out).fresh FB.out HSB.out).alloc #[.slice aa S.length ca, .slice ab f.length cb, .int .i64 c] 91
    exact ⟨_, rfl, PoolR.close ((h.pull 2 rfl).swap)⟩
end Go.Proofs.YtminjgfobcnmhaaDoor.Pool
