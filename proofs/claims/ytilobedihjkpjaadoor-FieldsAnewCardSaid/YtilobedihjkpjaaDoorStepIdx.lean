/-
  slices.ContainsFunc and slices.IndexFunc with Cost's own closures.
-/
import Derived.Test.YtilobedihjkpjaaDoorStepAround
namespace Go.Proofs.YtilobedihjkpjaaDoor.Steps
open Go Go.RowKit

section
variable {w : World} {p g c B : Nat} {G : Gr}

set_option maxRecDepth 100000 in
theorem notFree (h : Gnd 92 w p g c G) (hB : w.cell? ⟨B, 0, none⟩ = some (.pointer (some ⟨p, 0, none⟩))) (t : Nat) (ht : t < G.fs.length) : Calls Tryd.prog 64 #[.int .i64 t, .pointer (some ⟨B, 0, none⟩)] w fun r w' => r = .returned (.bool (!G.free t)) ∧ w = w' := by
  have c2 := h.c2
  have hg := h.get t ht
  clear h
  go_enter Tryd.func64, Tryd.ntmps64
  go_wp2
  go_ret
  exact ⟨rfl, rfl⟩

set_option maxRecDepth 100000 in
theorem isTo (t : Int) (hB : w.cell? ⟨B, 0, none⟩ = some (.int .i64 t)) (s : Gr.St) : Calls Tryd.prog 66 #[.agg #[.int .i64 s.d, .int .i64 s.to, .int .i64 s.c], .pointer (some ⟨B, 0, none⟩)] w fun r w' => r = .returned (.bool ((s.to : Int) == t)) ∧ Same w w' := by
  have hl := World.block_lt_of_cell? w _ hB
  go_enter Tryd.func66, Tryd.ntmps66
  go_wp2
  go_ret
  exact ⟨rfl, (Chg.refl _).alloc _⟩

set_option maxRecDepth 100000 in
set_option maxHeartbeats 1000000 in
theorem idxFree (h : Gnd 92 w p g c G) (hB : w.cell? ⟨B, 0, none⟩ = some (.pointer (some ⟨p, 0, none⟩))) (v : Value) (xs : List Int) (hr : Ints w v xs) (hall : ∀ x ∈ xs, G.has x = true) (hx : xs.length ≤ 1000000) :
    Calls Tryd.prog 82 #[v, .func (.func 64) #[] #[.pointer (some ⟨B, 0, none⟩)]] w fun r w' => ∃ k : Int, r = .returned (.int .i64 k) ∧ decide (0 ≤ k) = xs.any (fun t => !G.free t.toNat) ∧ w = w' := by
  obtain ⟨a, cp, rfl⟩ := hr.slice
  have HR := hid hr
  have H := hid h
  have HA := hid hall
  obtain ⟨n, hn⟩ : ∃ n, n = xs.length := ⟨_, rfl⟩
  rw [← hn] at hx
  simp only [← hn] at HR ⊢
  have HN := hid hn
  have HB := hid hB
  clear hr h hall hn hB
  go_enter Tryd.func82, Tryd.ntmps82
  go_wp2
  go_loopw [8] (fun iv wr => ∃ k : Nat, k ≤ n ∧ iv = .int .i64 k ∧ w = wr ∧ ∀ x ∈ xs.take k, G.free x.toNat = true) (fun iv _ => n - (intOf iv).toNat)
  case atStart => exact ⟨0, by omega, rfl, rfl, by simp⟩
  case round =>
    obtain ⟨k, hk, rfl, rfl, hA⟩ := hrel
    have HK := hid hA
    clear hA
    by_cases hkn : k < n
    · obtain ⟨b, off, cap, e1, hb, hcl⟩ := HR.out.open (by have := HN.out; omega)
      cases e1
      have hkx : k < xs.length := by have := HN.out; omega
      have hg := hcl k (.int .i64 xs[k]) (by simp [hkx])
      have hh := HA.out xs[k] (List.getElem_mem hkx)
      have hh2 : 0 ≤ xs[k] ∧ xs[k] < G.fs.length := of_decide_eq_true hh
      obtain ⟨t, ht⟩ := Int.eq_ofNat_of_zero_le hh2.1
      have hts : ∀ x ∈ xs.take (k + 1), x ∈ xs.take k ∨ x = t := by
        intro x hx
        rw [List.take_succ_eq_append_getElem hkx, List.mem_append] at hx
        rcases hx with hx | hx
        · exact .inl hx
        · simp at hx; exact .inr (by rw [hx, ht])
      have hmem : (t : Int) ∈ xs := by rw [← ht]; exact List.getElem_mem hkx
      have HTS := hid hts
      have HM := hid hmem
      have htl : t < G.fs.length := by omega
      rw [ht] at hg
      clear hcl hh hh2 ht hts hmem
      go_wp2_with fail
      refine (notFree H.out HB.out t htl).mono ?_
      rintro r w' ⟨rfl, rfl⟩
      cases hf : G.free t with
      | true =>
        go_wp2
        go_roundw
        case rel =>
          refine ⟨k + 1, by omega, by go_num, (by first | rfl | trivial), fun x hx => ?_⟩
          rcases HTS.out x hx with h | h
          · exact HK.out x h
          · rw [h, Int.toNat_natCast]; exact hf
        case measure => simp [intOf]; omega
      | false =>
        go_wp2
        go_ret
        refine ⟨_, rfl, ?_, rfl⟩
        rw [decide_eq_true (by omega), eq_comm, List.any_eq_true]
        exact ⟨_, HM.out, by rw [Int.toNat_natCast, hf]; rfl⟩
    · go_wp2
      go_ret
      refine ⟨_, rfl, ?_, rfl⟩
      rw [decide_eq_false (by omega), eq_comm, List.any_eq_false]
      intro x hx
      rw [HK.out x (by rw [List.take_of_length_le (by have := HN.out; omega)]; exact hx)]
      simp

set_option maxRecDepth 100000 in
theorem anyBlocked (h : Gnd 92 w p g c G) (hB : w.cell? ⟨B, 0, none⟩ = some (.pointer (some ⟨p, 0, none⟩))) (v : Value) (xs : List Int) (hr : Ints w v xs) (hall : ∀ x ∈ xs, G.has x = true) (hx : xs.length ≤ 1000000) :
    Calls Tryd.prog 63 #[v, .func (.func 64) #[] #[.pointer (some ⟨B, 0, none⟩)]] w fun r w' => r = .returned (.bool (xs.any (fun t => !G.free t.toNat))) ∧ w = w' := by
  have H := hid (idxFree h hB v xs hr hall hx)
  obtain ⟨y, hy⟩ : ∃ y, xs.any (fun t => !G.free t.toNat) = y := ⟨_, rfl⟩
  rw [hy]
  have HY := hid hy
  clear h hB hr hall hy
  go_enter Tryd.func63, Tryd.ntmps63
  go_wp2_with fail
  refine H.out.mono ?_
  rintro r w' ⟨k, rfl, hk, rfl⟩
  have HK := hid hk
  clear hk
  go_wp2
  go_ret
  exact ⟨ret_bool (HK.out.trans HY.out), rfl⟩
end

/-- The first step to a tile. -/
theorem stCs_get (l : List Gr.St) (i : Nat) (s : Gr.St) (h : l[i]? = some s) : (stCs l)[i * 3]? = some (.int .i64 s.d) ∧ (stCs l)[i * 3 + 1]? = some (.int .i64 s.to) ∧ (stCs l)[i * 3 + 2]? = some (.int .i64 s.c) := by
  refine ⟨?_, ?_, ?_⟩
  · have := rows_get stC stC_len l i 0 s h (by omega); rwa [Nat.add_zero] at this
  · exact rows_get stC stC_len l i 1 s h (by omega)
  · exact rows_get stC stC_len l i 2 s h (by omega)

section
variable {w : World} {B : Nat}
set_option maxRecDepth 100000 in
set_option maxHeartbeats 1000000 in
theorem idxTo (t : Int) (hB : w.cell? ⟨B, 0, none⟩ = some (.int .i64 t)) (v : Value) (l : List Gr.St) (hr : Reads w v l.length 3 (stCs l)) (hx : l.length ≤ 8) :
    Calls Tryd.prog 65 #[v, .func (.func 66) #[] #[.pointer (some ⟨B, 0, none⟩)]] w fun r w' => ((r = .returned (.int .i64 (-1)) ∧ l.find? (fun s => (s.to : Int) == t) = none) ∨ (∃ (k : Nat) (s : Gr.St), r = .returned (.int .i64 k) ∧ l[k]? = some s ∧ l.find? (fun s => (s.to : Int) == t) = some s)) ∧ Same w w' := by
  obtain ⟨a, cp, rfl⟩ := hr.slice
  have HR := hid hr
  obtain ⟨n, hn⟩ : ∃ n, n = l.length := ⟨_, rfl⟩
  rw [← hn] at hx
  simp only [← hn] at HR ⊢
  have HN := hid hn
  have HB := hid hB
  clear hr hn hB
  go_enter Tryd.func65, Tryd.ntmps65
  go_wp2
  go_loopw [5, 8] (fun _ iv wr => ∃ k : Nat, k ≤ n ∧ iv = .int .i64 k ∧ Same w wr ∧ (l.take k).find? (fun s => (s.to : Int) == t) = none) (fun _ iv _ => n - (intOf iv).toNat)
  case atStart => exact ⟨0, by omega, rfl, Chg.refl _, by simp⟩
  case round =>
    obtain ⟨k, hk, rfl, hS, hA⟩ := hrel
    have HK := hid hA
    have HS := hid hS
    clear hA hS
    by_cases hkn : k < n
    · obtain ⟨b, off, cap, e1, hb, hcl⟩ := HR.out.open (by omega)
      cases e1
      obtain ⟨s, hs⟩ : ∃ s, l[k]? = some s := ⟨_, List.getElem?_eq_getElem (by have := HN.out; omega)⟩
      obtain ⟨g0, g1, g2⟩ := stCs_get l k s hs
      have q0 := HS.out.keep (hcl _ _ g0)
      have q1 := HS.out.keep (hcl _ _ g1)
      have q2 := HS.out.keep (hcl _ _ g2)
      rw [← Nat.add_assoc] at q1 q2
      have hts : l.take (k + 1) = l.take k ++ [s] := by
        have hlt := (List.getElem?_eq_some_iff.1 hs)
        rw [List.take_succ_eq_append_getElem hlt.1, hlt.2]
      have HTS := hid hts
      have HSS := hid hs
      clear hcl hs g0 g1 g2 hts
      go_wp2_with fail
      refine (isTo t (HS.out.keep HB.out) s).mono ?_
      rintro r w' ⟨rfl, hs1⟩
      have S1 := hid (Chg.trans (S := fun _ => False) HS.out hs1 (fun _ _ f => f))
      clear hs1
      cases hf : ((s.to : Int) == t) with
      | true =>
        go_wp2
        go_ret
        refine ⟨.inr ⟨k, s, rfl, HSS.out, ?_⟩, S1.out⟩
        rw [← List.take_append_drop (k + 1) l, HTS.out, List.find?_append, List.find?_append, HK.out]
        simp [hf]
      | false =>
        go_wp2
        go_roundw
        case rel => exact ⟨k + 1, by omega, by go_num, S1.out, by rw [HTS.out, List.find?_append, HK.out]; simp [hf]⟩
        case measure => simp [intOf]; omega
    · go_wp2
      go_ret
      exact ⟨.inl ⟨rfl, by have := HK.out; rwa [List.take_of_length_le (by have := HN.out; omega)] at this⟩, HS.out⟩
end
end Go.Proofs.YtilobedihjkpjaaDoor.Steps
