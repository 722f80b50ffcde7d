/-
  route.Find and route.Cost.
-/
import Derived.Test.YtilobedihjkpjaaDoorRouteFollow
namespace Go.Proofs.YtilobedihjkpjaaDoor
section
variable {G : Gr} {gs : List Nat}
noncomputable def leastOf (G : Gr) (gs : List Nat) (t : Nat) : Int := @ite _ (∃ k : Nat, Gr.To G gs t k) (Classical.propDecidable _) ((leastN fun k : Nat => Gr.To G gs t k : Nat) : Int) (-1)
theorem Least.exists (G : Gr) (gs : List Nat) : ∃ c, Least G gs c := by
  have hof : ∀ t k, Gr.To G gs t k → ∃ j : Nat, k = j ∧ Gr.To G gs t (j : Int) := fun t k h => by
    have := h.free.2
    exact ⟨k.toNat, by omega, by rw [show ((k.toNat : Nat) : Int) = k by omega]; exact h⟩
  have hat : ∀ t, cAt ((List.range G.fs.length).map (leastOf G gs)) t = leastOf G gs t := fun t => by
    unfold cAt
    rw [List.getD_eq_getElem?_getD, List.getElem?_map]
    by_cases h : t < G.fs.length
    · simp [h]
    · rw [List.getElem?_eq_none (by simp; omega)]
      unfold leastOf
      rw [if_neg]
      · rfl
      · rintro ⟨k, hk⟩; exact h (Gr.free_in hk.free.1)
  refine ⟨(List.range G.fs.length).map (leastOf G gs), by simp, fun t => ?_, fun t => ?_, fun t k hT => ?_⟩
  · rw [hat]; unfold leastOf
    split
    · right; omega
    · left; rfl
  · rw [hat]; unfold leastOf
    split
    · rename_i h; intro _; exact leastN_spec (P := fun k : Nat => Gr.To G gs t k) h
    · intro h; omega
  · obtain ⟨j, rfl, hj⟩ := hof t k hT
    rw [hat]; unfold leastOf
    rw [if_pos ⟨j, hj⟩]
    have := leastN_le (P := fun k : Nat => Gr.To G gs t k) hj
    omega
end
end Go.Proofs.YtilobedihjkpjaaDoor
namespace Go.Proofs.YtilobedihjkpjaaDoor.Route
open Go Go.RowKit Go.Proofs.YtilobedihjkpjaaDoor.Hp Go.Proofs.YtilobedihjkpjaaDoor.Steps
section
variable {w : World} {p pg pc : Nat} {G : Gr}
set_option maxRecDepth 100000 in
theorem find_range (hG : Gnd 92 w p pg pc G) (s t : Int) (hst : ¬ (0 ≤ s ∧ s < G.fs.length) ∨ ¬ (0 ≤ t ∧ t < G.fs.length)) (T : TypeId) (u : Addr) (he : w.cell? ⟨1, 0, none⟩ = some (.iface T (.pointer (some u)))) :
    Calls Tryd.prog 62 #[.pointer (some ⟨p, 0, none⟩), .int .i64 s, .int .i64 t] w fun r w' => r = .returned (.tuple #[.slice none 0 0, .int .i64 0, .iface T (.pointer (some u))]) ∧ Same w w' := by
  have HG := hid hG
  have HST := hid hst
  obtain ⟨n, hn⟩ : ∃ n, n = G.fs.length := ⟨_, rfl⟩
  have HN := hid hn
  clear hG hst hn
  go_enter Tryd.func62, Tryd.ntmps62
  by_cases h0 : s < 0
  · go_wp2
    go_quiet (fail)
    go_wp2
    go_ret3
    exact ⟨rfl, (Chg.refl _).drewN _⟩
  · by_cases hsn : s < n
    · have ht : ¬ (0 ≤ t ∧ t < G.fs.length) := by have := HST.out; rw [← HN.out] at this ⊢; omega
      have HT := hid ht
      clear ht
      go_wp2_with fail
      refine (len_any HG.out).mono ?_
      rintro r w' ⟨rfl, rfl⟩
      rw [← HN.out]
      have X := hid ((Star.new w).alloc #[.int .i64 t] 3)
      go_wp2_with fail
      refine (costs_range (HG.out.same X.out.same) t _ (reads_blk (X.out.blk 0 rfl).1 1 1 1 rfl) HT.out _ (X.out.same.keep he)).mono ?_
      rintro r w2 ⟨rfl, hs⟩
      have X2 := hid (X.out.go hs)
      clear hs X
      go_wp2
      go_ret3
      exact ⟨rfl, X2.out.same⟩
    · have hsn' : (n : Int) ≤ s := by omega
      go_wp2_with fail
      refine (len_any HG.out).mono ?_
      rintro r w' ⟨rfl, rfl⟩
      rw [← HN.out]
      go_wp2
      go_quiet (fail)
      go_wp2
      go_ret3
      exact ⟨rfl, (Chg.refl _).drewN _⟩

set_option maxRecDepth 100000 in
set_option maxHeartbeats 1000000 in
theorem find_path (hG : Gnd 92 w p pg pc G) (s t : Nat) (hsl : s < G.fs.length) (htl : t < G.fs.length) {c : List Int} (hL : Least G [t] c) (h0 : cAt c s = -1) (T : TypeId) (u : Addr) (he : w.cell? ⟨9, 0, none⟩ = some (.iface T (.pointer (some u)))) :
    Calls Tryd.prog 62 #[.pointer (some ⟨p, 0, none⟩), .int .i64 s, .int .i64 t] w fun r w' => r = .returned (.tuple #[.slice none 0 0, .int .i64 0, .iface T (.pointer (some u))]) ∧ Same w w' := by
  have HG := hid hG
  have HL := hid hL
  have H0 := hid h0
  have HE := hid he
  obtain ⟨n, hn⟩ : ∃ n, n = G.fs.length := ⟨_, rfl⟩
  have HN := hid hn
  rw [← hn] at hsl htl
  clear hG hn hL h0 he
  go_enter Tryd.func62, Tryd.ntmps62
  go_wp2_with fail
  refine (len_any HG.out).mono ?_
  rintro r w' ⟨rfl, rfl⟩
  rw [← HN.out]
  have X := hid ((Star.new w).alloc #[.int .i64 t] 3)
  go_wp2_with fail
  refine (costs_ok (HG.out.same X.out.same) [t] _ (reads_blk (X.out.blk 0 rfl).1 1 1 1 rfl) (by simp) (by simp) (by intro x hx; simp only [List.mem_singleton] at hx; subst hx; rw [← HN.out]; exact htl)).mono ?_
  rintro r w2 ⟨c', g, cc, rfl, hL', hT', hX2⟩
  obtain rfl := hL'.unique HL.out
  have hcl : c'.length = n := by rw [HL.out.len, HN.out]
  have X2 := hid (X.out.lift hX2)
  have hrow := (X2.out.row 0 rfl).1
  have HC := hid (show Reads w2 (.slice (some ⟨g, 0, none⟩) c'.length cc) c'.length 1 (c'.map (Value.int .i64)) by rw [HL.out.len]; exact Reads.of_own hrow)
  rw [← HN.out] at X2 ⊢
  rw [hcl] at HC
  clear hX2 X hL' hT' hrow hcl
  go_wp2_with fail
  refine (follow_no (HG.out.same X2.out.same) c' _ (by rw [HL.out.len, ← HN.out]; exact HC.out) HL.out.len s (by rw [← HN.out]; exact hsl) (.inr (by rw [H0.out]; omega)) _ (X2.out.same.keep HE.out)).mono ?_
  rintro r w3 ⟨rfl, hs⟩
  have X3 := hid (X2.out.go hs)
  clear hs X2
  go_wp2
  go_ret3
  exact ⟨rfl, X3.out.same⟩

set_option maxRecDepth 100000 in
set_option maxHeartbeats 1000000 in
theorem find_ok (hG : Gnd 92 w p pg pc G) (s t : Nat) (hsl : s < G.fs.length) (htl : t < G.fs.length) {c : List Int} (hL : Least G [t] c) (h0 : 0 ≤ cAt c s) {W : List Nat} (hW : Gr.Fol G c s (some W)) (T : TypeId) (u : Addr) (he : w.cell? ⟨9, 0, none⟩ = some (.iface T (.pointer (some u)))) :
    Calls Tryd.prog 62 #[.pointer (some ⟨p, 0, none⟩), .int .i64 s, .int .i64 t] w fun r w' => ∃ v, r = .returned (.tuple #[v, .int .i64 (cAt c s), .nilIface]) ∧ Star w w' [Row 3 1 v W.length (gC W)] := by
  have HG := hid hG
  have HL := hid hL
  have HW := hid hW
  have HE := hid he
  have hN := hG.ok.max
  obtain ⟨n, hn⟩ : ∃ n, n = G.fs.length := ⟨_, rfl⟩
  have HN := hid hn
  rw [← hn] at hsl htl hN
  clear hG hn hL hW he
  go_enter Tryd.func62, Tryd.ntmps62
  go_wp2_with fail
  refine (len_any HG.out).mono ?_
  rintro r w' ⟨rfl, rfl⟩
  rw [← HN.out]
  have X := hid ((Star.new w).alloc #[.int .i64 t] 3)
  go_wp2_with fail
  refine (costs_ok (HG.out.same X.out.same) [t] _ (reads_blk (X.out.blk 0 rfl).1 1 1 1 rfl) (by simp) (by simp) (by intro x hx; simp only [List.mem_singleton] at hx; subst hx; rw [← HN.out]; exact htl)).mono ?_
  rintro r w2 ⟨c', g, cc, rfl, hL', hT', hX2⟩
  obtain rfl := hL'.unique HL.out
  have hcl : c'.length = n := by rw [HL.out.len, HN.out]
  have HT' := hid hT'
  have X2 := hid (X.out.lift hX2)
  have hrow := (X2.out.row 0 rfl).1
  have HC := hid (show Reads w2 (.slice (some ⟨g, 0, none⟩) c'.length cc) c'.length 1 (c'.map (Value.int .i64)) by rw [HL.out.len]; exact Reads.of_own hrow)
  rw [← HN.out] at X2 HT' ⊢
  rw [hcl] at HC
  clear hX2 X hL' hT' hrow
  go_wp2_with fail
  refine (follow_ok (HG.out.same X2.out.same) c' _ (by rw [HL.out.len, ← HN.out]; exact HC.out) HL.out.len s (HL.out.real s h0).free.1 h0 (fun t => by have := HT'.out t; omega) _ (X2.out.same.keep HE.out) _ HW.out).mono ?_
  rintro r w3 ⟨v, rfl, hX3⟩
  have X3 := hid (X2.out.lift hX3)
  obtain ⟨va, vc, rfl, -⟩ := own_slice (hX3.row 0 rfl).1
  have hrow := (X3.out.row 1 rfl).1
  have hc : w3.cell? ⟨g, s, none⟩ = some (.int .i64 (cAt c' s)) := (hrow.cellAt s (by omega)).trans (by rw [List.getElem?_map, cAt_get (by omega)]; rfl)
  have hgl := (hrow.lt g rfl).2
  clear hX3 X2 hrow HC
  go_wp2
  go_quiet (fail)
  go_wp2
  go_ret3
  exact ⟨_, rfl, ((X3.out.swap).drop.swap.drop).go ((Chg.refl _).drewN _)⟩

set_option maxRecDepth 100000 in
theorem cost_range (hG : Gnd 92 w p pg pc G) (s t : Int) (hst : ¬ (0 ≤ s ∧ s < G.fs.length) ∨ ¬ (0 ≤ t ∧ t < G.fs.length)) (T : TypeId) (u : Addr) (he : w.cell? ⟨1, 0, none⟩ = some (.iface T (.pointer (some u)))) :
    Calls Tryd.prog 36 #[.pointer (some ⟨p, 0, none⟩), .int .i64 s, .int .i64 t] w fun r w' => r = .returned (.tuple #[.int .i64 0, .iface T (.pointer (some u))]) ∧ Same w w' := by
  have HF := hid (find_range hG s t hst T u he)
  clear hG hst
  go_enter Tryd.func36, Tryd.ntmps36
  go_wp2_with fail
  refine HF.out.mono ?_
  rintro r w2 ⟨rfl, hs⟩
  have S := hid hs
  clear hs HF
  go_wp2
  go_ret2
  exact ⟨rfl, S.out⟩
set_option maxRecDepth 100000 in
theorem cost_path (hG : Gnd 92 w p pg pc G) (s t : Nat) (hsl : s < G.fs.length) (htl : t < G.fs.length) {c : List Int} (hL : Least G [t] c) (h0 : cAt c s = -1) (T : TypeId) (u : Addr) (he : w.cell? ⟨9, 0, none⟩ = some (.iface T (.pointer (some u)))) :
    Calls Tryd.prog 36 #[.pointer (some ⟨p, 0, none⟩), .int .i64 s, .int .i64 t] w fun r w' => r = .returned (.tuple #[.int .i64 0, .iface T (.pointer (some u))]) ∧ Same w w' := by
  have HF := hid (find_path hG s t hsl htl hL h0 T u he)
  clear hG hL h0
  go_enter Tryd.func36, Tryd.ntmps36
  go_wp2_with fail
  refine HF.out.mono ?_
  rintro r w2 ⟨rfl, hs⟩
  have S := hid hs
  clear hs HF
  go_wp2
  go_ret2
  exact ⟨rfl, S.out⟩
set_option maxRecDepth 100000 in
theorem cost_ok (hG : Gnd 92 w p pg pc G) (s t : Nat) (hsl : s < G.fs.length) (htl : t < G.fs.length) {c : List Int} (hL : Least G [t] c) (h0 : 0 ≤ cAt c s) (T : TypeId) (u : Addr) (he : w.cell? ⟨9, 0, none⟩ = some (.iface T (.pointer (some u)))) :
    Calls Tryd.prog 36 #[.pointer (some ⟨p, 0, none⟩), .int .i64 s, .int .i64 t] w fun r w' => r = .returned (.tuple #[.int .i64 (cAt c s), .nilIface]) ∧ Same w w' := by
  obtain ⟨W, hW⟩ := hL.fol hG.ok h0
  have HF := hid (find_ok hG s t hsl htl hL h0 hW T u he)
  generalize cAt c s = x at *
  clear hG hL h0 hW
  go_enter Tryd.func36, Tryd.ntmps36
  go_wp2_with fail
  refine HF.out.mono ?_
  rintro r w2 ⟨v, rfl, hX⟩
  have S := hid hX.same
  obtain ⟨va, vc, rfl, -⟩ := own_slice (hX.row 0 rfl).1
  clear hX HF
  go_wp2
  go_ret2
  exact ⟨rfl, S.out⟩
end
end Go.Proofs.YtilobedihjkpjaaDoor.Route
