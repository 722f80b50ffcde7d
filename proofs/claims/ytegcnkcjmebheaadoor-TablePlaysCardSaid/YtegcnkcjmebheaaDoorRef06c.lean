/-
  paddockref06: Mask.
-/
import Derived.Test.YtegcnkcjmebheaaDoorRef06b
namespace Go.Proofs.YtegcnkcjmebheaaDoor.Tab
open Go Go.RowKit Go.Proofs.YtegcnkcjmebheaaDoor.Mask
section
variable {w : World}
set_option maxRecDepth 100000 in
set_option maxHeartbeats 8000000 in
theorem ref_mask (v : Value) (vs : List Vl) (hok : ∀ x ∈ vs, okKind x.k = true) (hr : Reads w v vs.length 3 (vs.flatMap vc)) (hn : vs.length ≤ 100000) :
    Calls Tryd.prog 45 #[v] w fun r w' => r = .returned (mk (rowMask vs)) ∧ Same w w' := by
  obtain ⟨a, c, rfl⟩ := hr.slice
  obtain ⟨n, hnn⟩ : ∃ n, n = vs.length := ⟨_, rfl⟩
  have HN := hid hnn
  rw [← hnn] at hr hn ⊢
  have HR := hid hr
  have HO := hid hok
  clear hr hnn hok
  go_enter Tryd.func45, Tryd.ntmps45
  go_wp2_with fail
  go_loopw [3, 8] (fun mv iv wr => ∃ j m : Nat, j ≤ n ∧ iv = .int .i64 j ∧ m = rowMask (vs.take j) ∧ m < 1024 ∧ mv = mk m ∧ Same w wr) (fun _ iv _ => n - (intOf iv).toNat)
  case atStart => exact ⟨0, 0, by omega, rfl, rfl, by omega, rfl, Chg.refl _⟩
  case round =>
    obtain ⟨j, m, hj, rfl, hm, hm1, rfl, hs⟩ := hrel
    rename World => wz
    have S := hid hs
    have HM := hid hm
    clear hs hm
    by_cases hjn : j < n
    · obtain ⟨x, hx⟩ : ∃ x, vs[j]? = some x := ⟨_, List.getElem?_eq_getElem (by have := HN.out; omega)⟩
      obtain ⟨b, off, cap, e1, hb, hcl⟩ := HR.out.open (by omega)
      cases e1
      have g0 := S.out.keep (hcl (j * 3 + 0) _ ((rows_get vc vc_len vs j 0 x hx (by omega)).trans rfl))
      have g1 := S.out.keep (hcl (j * 3 + 1) _ ((rows_get vc vc_len vs j 1 x hx (by omega)).trans rfl))
      have g2 := S.out.keep (hcl (j * 3 + 2) _ ((rows_get vc vc_len vs j 2 x hx (by omega)).trans rfl))
      rw [Nat.add_zero] at g0
      rw [← Nat.add_assoc] at g1 g2
      have gl : b < wz.heap.size := Nat.lt_of_lt_of_le hb S.out.size
      have hkx := HO.out x (List.mem_of_getElem? hx)
      simp only [okKind, Bool.and_eq_true, decide_eq_true_eq] at hkx
      obtain ⟨vk, va, vb⟩ := x
      dsimp only at g0 g1 g2 hkx
      obtain ⟨y, rfl⟩ := Int.eq_ofNat_of_zero_le hkx.1
      have hy : y < 10 := by omega
      have HTK := hid (show rowMask (vs.take (j + 1)) = rowMask (vs.take j) ||| 2 ^ y from by
        obtain ⟨h1, h2⟩ := List.getElem?_eq_some_iff.1 hx
        unfold rowMask
        rw [List.take_succ_eq_append_getElem h1, h2, List.map_append, List.map_cons, List.map_nil, maskOf_app]
        simp)
      have hp : IntKind.u64.wrap (2 ^ y) = ((2 ^ y : Nat) : Int) := by
        rcases y with _ | _ | _ | _ | _ | _ | _ | _ | _ | _ | y
        all_goals first | rfl | omega
      have hpl : 2 ^ y < 1024 := Nat.pow_lt_pow_right (n := 10) (by omega) hy
      have hpc : ((2 : Int) ^ y) = ((2 ^ y : Nat) : Int) := (Int.natCast_pow 2 y).symm
      have hor : bits BinOp.or .u64 (m : Int) ((2 : Int) ^ y) = ((m ||| 2 ^ y : Nat) : Int) := by
        rw [hpc]
        exact u64_or_nat m (2 ^ y) (by omega) (by omega)
      have hn0 : ¬ ((y : Int) < 0) := by omega
      have hn1 : ¬ ((10 : Int) ≤ y) := by omega
      have S1 := hid (S.out.alloc (.cells #[.int .i64 y, .int .i64 va, .int .i64 vb] 37))
      have HMM := hid (Nat.or_lt_two_pow (n := 10) hm1 hpl)
      clear hcl hx hb hkx hpc hpl
      go_wp2_with fail
      go_roundw
      case rel => exact ⟨j + 1, m ||| 2 ^ y, by omega, by go_num, by rw [HTK.out, ← HM.out], HMM.out, rfl, S1.out⟩
      case measure => simp [intOf]; omega
    · go_wp2
      go_ret
      have h := HM.out
      rw [List.take_of_length_le (by have := HN.out; omega)] at h
      exact ⟨by rw [h]; rfl, S.out⟩
end
end Go.Proofs.YtegcnkcjmebheaaDoor.Tab
