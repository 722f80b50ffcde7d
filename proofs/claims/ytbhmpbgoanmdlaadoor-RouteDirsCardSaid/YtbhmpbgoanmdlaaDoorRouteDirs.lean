/-
  RouteDirs: the walk.
-/
import Derived.Test.YtbhmpbgoanmdlaaDoorAlive17
import Derived.Test.YtbhmpbgoanmdlaaDoorDirs2
import Derived.Test.YtbhmpbgoanmdlaaDoorIntsM
namespace Go.Proofs.YtbhmpbgoanmdlaaDoor.RouteDirs
open Go Go.RowKit Go.Proofs.YtbhmpbgoanmdlaaDoor.Err Go.Proofs.YtbhmpbgoanmdlaaDoor.Steps Go.Proofs.YtbhmpbgoanmdlaaDoor.Route
theorem toNats {xs : List Int} (h : ∀ x ∈ xs, 0 ≤ x ∧ x < 1024) : ∃ ns : List Nat, xs = ns.map Int.ofNat ∧ ∀ t ∈ ns, t < 1024 := by
  refine ⟨xs.map Int.toNat, ?_, fun t ht => ?_⟩
  · rw [List.map_map]
    symm
    rw [List.map_congr_left (g := id)]
    · simp
    · intro x hx
      have := h x hx
      simp only [Function.comp, id]
      show ((x.toNat : Nat) : Int) = x
      omega
  · obtain ⟨x, hx, rfl⟩ := List.mem_map.1 ht
    have := h x hx
    omega
theorem natInts {w : World} {v : Value} {ns : List Nat} (h : Ints w v (ns.map Int.ofNat)) : Reads w v ns.length 1 (gC ns) := by
  have e : (ns.map Int.ofNat).map (Value.int .i64) = gC ns := by simp [gC, List.map_map, Function.comp_def]
  unfold Ints at h
  rw [e, List.length_map] at h
  exact h
theorem dirsF_le (wd : Nat) (ns : List Nat) (l : List Int) (h : dirsF wd ns = some l) : l.length ≤ ns.length := by
  unfold dirsF at h
  split at h
  · cases h; rw [dirsTo_len]; omega
  · cases h

set_option maxRecDepth 100000 in
set_option maxHeartbeats 8000000 in
theorem walk (xs : List Int) (v : Value) (x : Int) (w : World) (hr : Ints w v xs) (hb : xs.length ≤ 9223372036854775807) (ad : Nat → Addr) (hE : Errs w ad) :
    Calls Tryd.prog 9 #[v, .int .i64 x] w fun r w' => r = .returned (.bool true) ∧ Same w w' := by
  obtain ⟨av, cv, rfl⟩ := hr.slice
  have HE := hid hE
  have HR := hid hr
  obtain ⟨n, hn⟩ : ∃ n, n = xs.length := ⟨_, rfl⟩
  have HN := hid hn
  rw [← hn] at hb HR ⊢
  clear hr hE hn
  go_enter Tryd.func9, Tryd.ntmps9
  go_wp2_with fail
  refine (alive_any ad HE.out.three).mono ?_
  rintro r w1 ⟨rfl, hs1⟩
  have S1 := hid hs1
  clear hs1
  by_cases hbig : 300 < n
  · go_wp2
    go_ret
    exact ⟨rfl, S1.out⟩
  go_wp2_with fail
  refine (Num.ints_any _ xs _ (HR.out.same S1.out) (by rw [← HN.out]; omega)).mono ?_
  rintro r w2 ⟨gi, ci, rfl, hcp, hs2⟩
  have CP := hid hcp
  have S2 := hid (hs2.after' S1.out)
  rw [← HN.out]
  clear hcp hs2
  by_cases hgood : (1 ≤ x ∧ x ≤ 32) ∧ ∀ y ∈ xs, 0 ≤ y ∧ y < 1024
  · obtain ⟨⟨x1, x2⟩, hall⟩ := hgood
    obtain ⟨wd, rfl⟩ := Int.eq_ofNat_of_zero_le (show 0 ≤ x by omega)
    obtain ⟨ns, hns, hin⟩ := toNats hall
    have hnl : ns.length = xs.length := by rw [hns, List.length_map]
    have HNL := hid (show ns.length = n by rw [hnl, ← HN.out])
    have HIN := hid hin
    have HRD : Hid (∀ w', Same w w' → Reads w' (.slice av n cv) ns.length 1 (gC ns)) := hid (fun w' hs => by
      have h := HR.out.same hs
      rw [hns] at h
      exact natInts h)
    have HCP : Hid (Reads w2 (.slice (some ⟨gi, 0, none⟩) n ci) ns.length 1 (gC ns)) := hid (by
      have h := CP.out.reads
      rw [← HN.out] at h
      rw [hns] at h
      exact natInts h)
    have HLE := hid (dirsF_le wd ns)
    clear hall hns hin hnl CP
    obtain ⟨F, hF⟩ : ∃ F, F = dirsF wd ns := ⟨_, rfl⟩
    have HF := hid hF
    have HD1 := hid (fun (w : World) v hr h e he => dirs_in w ns v hr h HIN.out wd (by omega) e he)
    have HD2 := hid (fun (w : World) v hr h => rdirs_in w ns v hr h HIN.out wd (by omega))
    rw [← hF] at HD1 HD2 HLE
    clear hF
    cases F with
    | none =>
      go_wp2_with fail
      refine (HD1.out w2 _ HCP.out (by rw [HNL.out]; omega) _ (HE.out.same S2.out).c8).mono ?_
      rintro r w3 ⟨rfl, hs3⟩
      have S3 := hid (hs3.after' S2.out)
      clear hs3 HCP
      go_wp2_with fail
      refine (HD2.out w3 _ (HRD.out w3 S3.out) (by rw [HNL.out]; omega)).mono ?_
      rintro r w4 ⟨rfl, hs4⟩
      have S4 := hid (hs4.after' S3.out)
      clear hs4
      go_wp2_with fail
      refine (Num.sameInts _ _ [] [] _ (readsNil _) (readsNil _) (by simp) (by simp)).mono ?_
      rintro r w5 ⟨rfl, hs5⟩
      have S5 := hid (hs5.after' S4.out)
      clear hs5
      go_wp2_with fail
      refine (num ad 9 (by omega) _ (HE.out.same S5.out)).mono ?_
      rintro r w6 ⟨rfl, hs6⟩
      have S6 := hid (hs6.after' S5.out)
      clear hs6
      go_wp2
      go_ret
      exact ⟨rfl, S6.out⟩
    | some l =>
      have hll : l.length ≤ n := by have := HLE.out l rfl; rw [HNL.out] at this; exact this
      go_wp2_with fail
      refine (HD1.out w2 _ HCP.out (by rw [HNL.out]; omega) _ (HE.out.same S2.out).c8).mono ?_
      rintro r w3 ⟨v3, rfl, hX3⟩
      have X3 := hid (((Star.new w).go S2.out).lift hX3)
      obtain ⟨va, vc, rfl, -⟩ := own_slice (hX3.row 0 rfl).1
      clear hX3 HCP
      go_wp2_with fail
      refine (HD2.out w3 _ (HRD.out w3 X3.out.same) (by rw [HNL.out]; omega)).mono ?_
      rintro r w4 ⟨v4, rfl, hX4⟩
      have X4 := hid (X3.out.lift hX4)
      obtain ⟨vb, vd, rfl, -⟩ := own_slice (hX4.row 0 rfl).1
      clear hX4 X3
      go_wp2_with fail
      refine (Num.sameInts _ _ l l _ (Reads.of_own (X4.out.row 1 rfl).1) (Reads.of_own (X4.out.row 0 rfl).1) (by omega) (by omega)).mono ?_
      rintro r w5 ⟨rfl, hs5⟩
      rw [decide_eq_true rfl]
      have X5 := hid (X4.out.go hs5)
      clear hs5 X4
      go_wp2_with fail
      refine (num_nil _).mono ?_
      rintro r w' ⟨rfl, rfl⟩
      go_wp2
      go_ret
      exact ⟨rfl, X5.out.same⟩
  · have hbad : ¬ (1 ≤ x ∧ x ≤ 32) ∨ ∃ y ∈ xs, ¬ (0 ≤ y ∧ y < 1024) := by
      by_cases h1 : 1 ≤ x ∧ x ≤ 32
      · right
        by_cases h2 : ∃ y ∈ xs, ¬ (0 ≤ y ∧ y < 1024)
        · exact h2
        · exact absurd ⟨h1, fun y hy => by
            by_cases h3 : 0 ≤ y ∧ y < 1024
            · exact h3
            · exact absurd ⟨y, hy, h3⟩ h2⟩ hgood
      · exact .inl h1
    have HBAD := hid hbad
    clear hbad hgood
    go_wp2_with fail
    refine (dirs_range w2 xs _ (by have h := CP.out.reads; rw [← HN.out] at h; exact h) (by rw [← HN.out]; omega) x HBAD.out _ (HE.out.same S2.out).c0).mono ?_
    rintro r w3 ⟨rfl, hs3⟩
    have S3 := hid (hs3.after' S2.out)
    clear hs3 CP
    go_wp2_with fail
    refine (rdirs_range w3 xs _ (HR.out.same S3.out) (by rw [← HN.out]; omega) x HBAD.out).mono ?_
    rintro r w4 ⟨rfl, hs4⟩
    have S4 := hid (hs4.after' S3.out)
    clear hs4
    go_wp2_with fail
    refine (Num.sameInts _ _ [] [] _ (readsNil _) (readsNil _) (by simp) (by simp)).mono ?_
    rintro r w5 ⟨rfl, hs5⟩
    have S5 := hid (hs5.after' S4.out)
    clear hs5
    go_wp2_with fail
    refine (num ad 1 (by omega) _ (HE.out.same S5.out)).mono ?_
    rintro r w6 ⟨rfl, hs6⟩
    have S6 := hid (hs6.after' S5.out)
    clear hs6
    go_wp2
    go_ret
    exact ⟨rfl, S6.out⟩
end Go.Proofs.YtbhmpbgoanmdlaaDoor.RouteDirs
