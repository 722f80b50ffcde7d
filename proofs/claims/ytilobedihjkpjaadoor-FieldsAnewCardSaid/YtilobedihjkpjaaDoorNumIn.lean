/-
  paddocknum.In, by its contract.
-/
import Derived.Test.YtilobedihjkpjaaDoorProg
import Derived.Test.YtilobedihjkpjaaDoorLib
namespace Go.Proofs.YtilobedihjkpjaaDoor.Num
open Go Go.RowKit

set_option maxRecDepth 100000 in
theorem in_any (v : Value) (xs : List Int) (x : Int) (w : World) (hr : Ints w v xs) (hx : xs.length ≤ 9223372036854775807) :
    Calls Tryd.prog 13 #[v, .int .i64 x] w fun r w' => r = .returned (.bool (decide (x ∈ xs))) ∧ w = w' := by
  obtain ⟨a, cp, rfl⟩ := hr.slice
  have HR := hid hr
  obtain ⟨n, hn⟩ : ∃ n, n = xs.length := ⟨_, rfl⟩
  have HB2 : Hid (∀ j (hj : j < xs.length), ∃ b off cap, Value.slice a n cp = .slice (some ⟨b, off, none⟩) n cap ∧ w.cell? ⟨b, off + j, none⟩ = some (.int .i64 xs[j])) := hid (fun j hj => by
    obtain ⟨b, off, cap, e, _, hc⟩ := HR.out.cells (by omega)
    rw [← hn] at e
    exact ⟨b, off, cap, e, hc j hj⟩)
  have HN := hid hn
  rw [← hn] at hx ⊢
  clear hr HR hn
  go_enter Tryd.func13, Tryd.ntmps13
  go_wp2
  go_loopw [6, 9] (fun _ iv wr => ∃ k : Nat, k ≤ n ∧ iv = .int .i64 k ∧ Hid (w = wr) ∧ x ∉ xs.take k) (fun _ iv _ => n - (intOf iv).toNat)
  case atStart => exact ⟨0, by omega, rfl, hid rfl, by simp⟩
  case round =>
    obtain ⟨k, hk, rfl, hw, hA⟩ := hrel
    have HA := hid hA
    clear hA
    have hw' := hw.out
    by_cases hkn : k < n
    · have hkx : k < xs.length := by have := HN.out; omega
      obtain ⟨b, off, cap, e1, hc⟩ := HB2.out k hkx
      cases e1
      obtain ⟨y, hye⟩ : ∃ y, y = xs[k] := ⟨_, rfl⟩
      have hts : xs.take (k + 1) = xs.take k ++ [y] := by rw [List.take_succ_eq_append_getElem hkx, hye]
      have hmem : y ∈ xs := by rw [hye]; exact List.getElem_mem hkx
      rw [← hye, hw'] at hc
      have HTS := hid hts
      have HM := hid hmem
      clear hts hmem hye hw'
      by_cases hyx : y = x
      · subst hyx
        go_wp2
        go_ret
        exact ⟨ret_bool (decide_eq_true HM.out).symm, hw.out⟩
      · have hne : (y == x) = false := by simpa using hyx
        go_wp2
        go_roundw
        case rel =>
          have hrel : ∃ k' : Nat, k' ≤ n ∧ Value.int .i64 ((k : Int) + 1) = .int .i64 k' ∧ Hid (w = _) ∧ x ∉ xs.take k' := ⟨k + 1, by omega, by go_num, hw, by rw [HTS.out, List.mem_append]; rintro (h | h); exact HA.out h; simp at h; exact hyx h.symm⟩
          first | exact hrel | ((repeat apply Exists.intro); exact ⟨hrel, rfl⟩)
        case measure => simp [intOf]; omega
    · clear hw'
      go_wp2
      go_ret
      exact ⟨ret_bool (decide_eq_false (by have := HA.out; rwa [List.take_of_length_le (by have := HN.out; omega)] at this)).symm, hw.out⟩
end Go.Proofs.YtilobedihjkpjaaDoor.Num
