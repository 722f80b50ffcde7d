/-
  FieldMore: the texts FieldErr, StepSet, StepIdx, Part, StepCostP, GridRight2, joined.
-/
import Derived.Test.YtilobedihjkpjaaDoorFieldMoreQ9
import Derived.Test.YtilobedihjkpjaaDoorFieldMoreQ5
import Derived.Test.YtilobedihjkpjaaDoorFieldMoreQ1
import Derived.DataElems
import Derived.Test.YtilobedihjkpjaaDoorFieldMoreQ2
import Derived.Test.YtilobedihjkpjaaDoorFieldMoreQ3

/-
  field.New where it refuses.
-/
namespace Go.Proofs.YtilobedihjkpjaaDoor.Fld
open Go Go.RowKit Go.Proofs.YtilobedihjkpjaaDoor.Steps Go.Proofs.YtilobedihjkpjaaDoor.Ord Go.Proofs.YtilobedihjkpjaaDoor.Route
section
variable {w : World} {p pg pc : Nat} {G : Gr}
set_option maxRecDepth 100000 in
set_option maxHeartbeats 4000000 in
theorem new_goal (v : Value) (xs : List Int) (hr : Ints w v xs) (hb : xs.length ≤ 9223372036854775807) (h : xs.length < 1 ∨ 8 < xs.length) (e : Value) (he : w.cell? ⟨0, 0, none⟩ = some e) :
    Calls Tryd.prog 11 #[.pointer (some ⟨p, 0, none⟩), v] w fun r w' => r = .returned (.tuple #[.pointer none, e]) ∧ Same w w' := by
  obtain ⟨av, cv, rfl⟩ := hr.slice
  have hEl := World.block_lt_of_cell? _ _ he
  generalize xs.length = n at *
  clear hr
  rcases Nat.lt_or_ge n 1 with h1 | h1
  · go_enter Tryd.func11, Tryd.ntmps11
    go_wp2_with fail
    go_quiet (fail)
    go_wp2
    go_ret2
    exact ⟨rfl, (Chg.refl _).drewN _⟩
  · have h8 : 8 < n := by omega
    go_enter Tryd.func11, Tryd.ntmps11
    go_wp2_with fail
    go_quiet (fail)
    go_wp2
    go_ret2
    exact ⟨rfl, (Chg.refl _).drewN _⟩
set_option maxRecDepth 100000 in
set_option maxHeartbeats 4000000 in
theorem new_range (hG : Gnd 92 w p pg pc G) (xs : List Int) (v : Value) (hr : Ints w v xs) (h1 : 1 ≤ xs.length) (h8 : xs.length ≤ 8) (hout : ∃ x ∈ xs, x < 0 ∨ (G.fs.length : Int) ≤ x) (e : Value) (he : w.cell? ⟨1, 0, none⟩ = some e) :
    Calls Tryd.prog 11 #[.pointer (some ⟨p, 0, none⟩), v] w fun r w' => r = .returned (.tuple #[.pointer none, e]) ∧ Same w w' := by
  obtain ⟨av, cv, rfl⟩ := hr.slice
  have HG := hid hG
  have hEl := World.block_lt_of_cell? _ _ he
  have HO : Hid (∃ (i : Nat) (x : Int), xs[i]? = some x ∧ (x < 0 ∨ (G.fs.length : Int) ≤ x)) := hid (by
    obtain ⟨x, hx, ho⟩ := hout
    obtain ⟨i, hi, e⟩ := List.getElem_of_mem hx
    exact ⟨i, x, by rw [← e]; exact List.getElem?_eq_getElem hi, ho⟩)
  obtain ⟨n, hn⟩ : ∃ n, n = xs.length := ⟨_, rfl⟩
  have HN := hid hn
  rw [← hn] at h1 h8 ⊢
  have HB : Hid (∀ (j : Nat) (t : Int), xs[j]? = some t → ∃ b off cap, Value.slice av n cv = .slice (some ⟨b, off, none⟩) n cap ∧ w.cell? ⟨b, off + j, none⟩ = some (.int .i64 t)) := hid (fun j t ht => by
    obtain ⟨hj, e2⟩ := (List.getElem?_eq_some_iff.1 ht)
    obtain ⟨b, off, cap, e, _, hc⟩ := hr.cells (by omega)
    rw [← hn] at e
    exact ⟨b, off, cap, e, by rw [← e2]; exact hc j hj⟩)
  clear hr hn hG hout
  go_enter Tryd.func11, Tryd.ntmps11
  go_wp2_with fail
  go_loop [7, 19] (fun _ iv => ∃ j : Nat, j ≤ n ∧ iv = .int .i64 j ∧ ∀ (i : Nat) (x : Int), i < j → xs[i]? = some x → 0 ≤ x ∧ x < G.fs.length) (fun _ iv => n - (intOf iv).toNat)
  case atStart => exact ⟨0, by omega, rfl, fun i x h => by omega⟩
  case round =>
    obtain ⟨j, hj, rfl, hall⟩ := hrel
    have HA := hid hall
    clear hall
    by_cases hjn : j < n
    · obtain ⟨t, ht⟩ : ∃ t, xs[j]? = some t := ⟨_, List.getElem?_eq_getElem (by have := HN.out; omega)⟩
      obtain ⟨b, off, cap, e1, hc⟩ := HB.out j t ht
      cases e1
      have hbl := World.block_lt_of_cell? _ _ hc
      have HT := hid ht
      clear ht
      by_cases ht0 : t < 0
      · go_wp2_with fail
        go_quiet (fail)
        go_wp2
        go_ret2
        exact ⟨rfl, (Chg.refl _).drewN _⟩
      · by_cases ht1 : (G.fs.length : Int) ≤ t
        · go_wp2_with fail
          refine (len_any HG.out).mono ?_
          rintro r w' ⟨rfl, rfl⟩
          go_wp2
          go_quiet (fail)
          go_wp2
          go_ret2
          exact ⟨rfl, (Chg.refl _).drewN _⟩
        · go_wp2_with fail
          refine (len_any HG.out).mono ?_
          rintro r w' ⟨rfl, rfl⟩
          go_wp2
          go_round
          case rel =>
            refine ⟨j + 1, by omega, by go_num, fun i x hi hx => ?_⟩
            by_cases e : i = j
            · subst e
              rw [HT.out] at hx
              cases hx
              omega
            · exact HA.out i x (by omega) hx
          case measure => simp [intOf]; omega
    · exfalso
      obtain ⟨i, x, hx, ho⟩ := HO.out
      have hi := (List.getElem?_eq_some_iff.1 hx).1
      have := HA.out i x (by have := HN.out; omega) hx
      omega
end
end Go.Proofs.YtilobedihjkpjaaDoor.Fld

/-
  A ground's other small methods: Set.
-/
namespace Go.Proofs.YtilobedihjkpjaaDoor.Steps
open Go Go.RowKit

section
variable {w w0 : World} {L : List Res} {p g c : Nat} {G : Gr}
theorem infoB : (Tryd.prog.info? 4).map (fun i => (i.zero, i.size, i.bytes)) = some (some (.bool false), 1, 1) := by kernel_rfl

set_option maxRecDepth 100000 in
theorem set_out (h : Gnd 92 w p g c G) (t : Int) (b : Bool) (ht : G.has t = false) (e : Value) (he : w.cell? ⟨1, 0, none⟩ = some e) : Calls Tryd.prog 33 #[.pointer (some ⟨p, 0, none⟩), .int .i64 t, .bool b] w fun r w' => r = .returned e ∧ w = w' := by
  have H := hid h
  clear h
  go_enter Tryd.func33, Tryd.ntmps33
  go_wp2_with fail
  refine (has_any H.out _).mono ?_
  rintro r w' ⟨rfl, rfl⟩
  rw [ht]
  go_wp2
  go_ret
  exact ⟨rfl, rfl⟩

set_option maxRecDepth 100000 in
theorem set_in (X : Star w0 w (gndR 92 p G :: L)) (t : Nat) (b : Bool) (ht : t < G.fs.length) : Calls Tryd.prog 33 #[.pointer (some ⟨p, 0, none⟩), .int .i64 t, .bool b] w fun r w' => r = .returned .nilIface ∧ Star w0 w' (gndR 92 p (G.set t b) :: L) := by
  obtain ⟨g, c, h, -, -, hset⟩ := gnd_at X 0 rfl
  have H := hid h
  have HS := hid (hset t b)
  have ht' : G.has (t : Int) = true := by unfold Gr.has; exact decide_eq_true (by omega)
  have c2 := h.c2
  have hf := h.frozen t
  have hg := h.get t ht
  clear h hset X
  go_enter Tryd.func33, Tryd.ntmps33
  go_wp2_with fail
  refine (has_any H.out _).mono ?_
  rintro r w' ⟨rfl, rfl⟩
  rw [ht']
  go_wp2
  go_ret
  exact ⟨rfl, HS.out⟩


end
end Go.Proofs.YtilobedihjkpjaaDoor.Steps

/-
  slices.ContainsFunc and slices.IndexFunc with Cost's own closures.
-/
namespace Go.Proofs.YtilobedihjkpjaaDoor.Steps
open Go Go.RowKit

section
variable {w : World} {p g c B : Nat} {G : Gr}

set_option maxRecDepth 100000 in
theorem notFree (h : Gnd 92 w p g c G) (hB : w.cell? ⟨B, 0, none⟩ = some (.pointer (some ⟨p, 0, none⟩))) (t : Nat) (ht : t < G.fs.length) : Calls Tryd.prog 64 #[.int .i64 t, .pointer (some ⟨B, 0, none⟩)] w fun r w' => r = .returned (.bool (!G.free t)) ∧ w = w' := by
  have c2 := h.c2
  have hg := h.get t ht
  clear h
  go_enter Tryd.func64, Tryd.ntmps64
  go_wp2
  go_ret
  exact ⟨rfl, rfl⟩

set_option maxRecDepth 100000 in
theorem isTo (t : Int) (hB : w.cell? ⟨B, 0, none⟩ = some (.int .i64 t)) (s : Gr.St) : Calls Tryd.prog 66 #[.agg #[.int .i64 s.d, .int .i64 s.to, .int .i64 s.c], .pointer (some ⟨B, 0, none⟩)] w fun r w' => r = .returned (.bool ((s.to : Int) == t)) ∧ Same w w' := by
  have hl := World.block_lt_of_cell? w _ hB
  go_enter Tryd.func66, Tryd.ntmps66
  go_wp2
  go_ret
  exact ⟨rfl, (Chg.refl _).alloc _⟩

set_option maxRecDepth 100000 in
set_option maxHeartbeats 1000000 in
theorem idxFree (h : Gnd 92 w p g c G) (hB : w.cell? ⟨B, 0, none⟩ = some (.pointer (some ⟨p, 0, none⟩))) (v : Value) (xs : List Int) (hr : Ints w v xs) (hall : ∀ x ∈ xs, G.has x = true) (hx : xs.length ≤ 1000000) :
    Calls Tryd.prog 82 #[v, .func (.func 64) #[] #[.pointer (some ⟨B, 0, none⟩)]] w fun r w' => ∃ k : Int, r = .returned (.int .i64 k) ∧ decide (0 ≤ k) = xs.any (fun t => !G.free t.toNat) ∧ w = w' := by
  obtain ⟨a, cp, rfl⟩ := hr.slice
  have HR := hid hr
  have H := hid h
  have HA := hid hall
  obtain ⟨n, hn⟩ : ∃ n, n = xs.length := ⟨_, rfl⟩
  rw [← hn] at hx
  simp only [← hn] at HR ⊢
  have HN := hid hn
  have HB := hid hB
  clear hr h hall hn hB
  go_enter Tryd.func82, Tryd.ntmps82
  go_wp2
  go_loopw [8] (fun iv wr => ∃ k : Nat, k ≤ n ∧ iv = .int .i64 k ∧ w = wr ∧ ∀ x ∈ xs.take k, G.free x.toNat = true) (fun iv _ => n - (intOf iv).toNat)
  case atStart => exact ⟨0, by omega, rfl, rfl, by simp⟩
  case round =>
    obtain ⟨k, hk, rfl, rfl, hA⟩ := hrel
    have HK := hid hA
    clear hA
    by_cases hkn : k < n
    · obtain ⟨b, off, cap, e1, hb, hcl⟩ := HR.out.open (by have := HN.out; omega)
      cases e1
      have hkx : k < xs.length := by have := HN.out; omega
      have hg := hcl k (.int .i64 xs[k]) (by simp [hkx])
      have hh := HA.out xs[k] (List.getElem_mem hkx)
      have hh2 : 0 ≤ xs[k] ∧ xs[k] < G.fs.length := of_decide_eq_true hh
      obtain ⟨t, ht⟩ := Int.eq_ofNat_of_zero_le hh2.1
      have hts : ∀ x ∈ xs.take (k + 1), x ∈ xs.take k ∨ x = t := by
        intro x hx
        rw [List.take_succ_eq_append_getElem hkx, List.mem_append] at hx
        rcases hx with hx | hx
        · exact .inl hx
        · simp at hx; exact .inr (by rw [hx, ht])
      have hmem : (t : Int) ∈ xs := by rw [← ht]; exact List.getElem_mem hkx
      have HTS := hid hts
      have HM := hid hmem
      have htl : t < G.fs.length := by omega
      rw [ht] at hg
      clear hcl hh hh2 ht hts hmem
      go_wp2_with fail
      refine (notFree H.out HB.out t htl).mono ?_
      rintro r w' ⟨rfl, rfl⟩
      cases hf : G.free t with
      | true =>
        go_wp2
        go_roundw
        case rel =>
          refine ⟨k + 1, by omega, by go_num, (by first | rfl | trivial), fun x hx => ?_⟩
          rcases HTS.out x hx with h | h
          · exact HK.out x h
          · rw [h, Int.toNat_natCast]; exact hf
        case measure => simp [intOf]; omega
      | false =>
        go_wp2
        go_ret
        refine ⟨_, rfl, ?_, rfl⟩
        rw [decide_eq_true (by omega), eq_comm, List.any_eq_true]
        exact ⟨_, HM.out, by rw [Int.toNat_natCast, hf]; rfl⟩
    · go_wp2
      go_ret
      refine ⟨_, rfl, ?_, rfl⟩
      rw [decide_eq_false (by omega), eq_comm, List.any_eq_false]
      intro x hx
      rw [HK.out x (by rw [List.take_of_length_le (by have := HN.out; omega)]; exact hx)]
      simp

set_option maxRecDepth 100000 in
theorem anyBlocked (h : Gnd 92 w p g c G) (hB : w.cell? ⟨B, 0, none⟩ = some (.pointer (some ⟨p, 0, none⟩))) (v : Value) (xs : List Int) (hr : Ints w v xs) (hall : ∀ x ∈ xs, G.has x = true) (hx : xs.length ≤ 1000000) :
    Calls Tryd.prog 63 #[v, .func (.func 64) #[] #[.pointer (some ⟨B, 0, none⟩)]] w fun r w' => r = .returned (.bool (xs.any (fun t => !G.free t.toNat))) ∧ w = w' := by
  have H := hid (idxFree h hB v xs hr hall hx)
  obtain ⟨y, hy⟩ : ∃ y, xs.any (fun t => !G.free t.toNat) = y := ⟨_, rfl⟩
  rw [hy]
  have HY := hid hy
  clear h hB hr hall hy
  go_enter Tryd.func63, Tryd.ntmps63
  go_wp2_with fail
  refine H.out.mono ?_
  rintro r w' ⟨k, rfl, hk, rfl⟩
  have HK := hid hk
  clear hk
  go_wp2
  go_ret
  exact ⟨ret_bool (HK.out.trans HY.out), rfl⟩
end

/-- The first step to a tile. -/
theorem stCs_get (l : List Gr.St) (i : Nat) (s : Gr.St) (h : l[i]? = some s) : (stCs l)[i * 3]? = some (.int .i64 s.d) ∧ (stCs l)[i * 3 + 1]? = some (.int .i64 s.to) ∧ (stCs l)[i * 3 + 2]? = some (.int .i64 s.c) := by
  refine ⟨?_, ?_, ?_⟩
  · have := rows_get stC stC_len l i 0 s h (by omega); rwa [Nat.add_zero] at this
  · exact rows_get stC stC_len l i 1 s h (by omega)
  · exact rows_get stC stC_len l i 2 s h (by omega)

section
variable {w : World} {B : Nat}
set_option maxRecDepth 100000 in
set_option maxHeartbeats 1000000 in
theorem idxTo (t : Int) (hB : w.cell? ⟨B, 0, none⟩ = some (.int .i64 t)) (v : Value) (l : List Gr.St) (hr : Reads w v l.length 3 (stCs l)) (hx : l.length ≤ 8) :
    Calls Tryd.prog 65 #[v, .func (.func 66) #[] #[.pointer (some ⟨B, 0, none⟩)]] w fun r w' => ((r = .returned (.int .i64 (-1)) ∧ l.find? (fun s => (s.to : Int) == t) = none) ∨ (∃ (k : Nat) (s : Gr.St), r = .returned (.int .i64 k) ∧ l[k]? = some s ∧ l.find? (fun s => (s.to : Int) == t) = some s)) ∧ Same w w' := by
  obtain ⟨a, cp, rfl⟩ := hr.slice
  have HR := hid hr
  obtain ⟨n, hn⟩ : ∃ n, n = l.length := ⟨_, rfl⟩
  rw [← hn] at hx
  simp only [← hn] at HR ⊢
  have HN := hid hn
  have HB := hid hB
  clear hr hn hB
  go_enter Tryd.func65, Tryd.ntmps65
  go_wp2
  go_loopw [5, 8] (fun _ iv wr => ∃ k : Nat, k ≤ n ∧ iv = .int .i64 k ∧ Same w wr ∧ (l.take k).find? (fun s => (s.to : Int) == t) = none) (fun _ iv _ => n - (intOf iv).toNat)
  case atStart => exact ⟨0, by omega, rfl, Chg.refl _, by simp⟩
  case round =>
    obtain ⟨k, hk, rfl, hS, hA⟩ := hrel
    have HK := hid hA
    have HS := hid hS
    clear hA hS
    by_cases hkn : k < n
    · obtain ⟨b, off, cap, e1, hb, hcl⟩ := HR.out.open (by omega)
      cases e1
      obtain ⟨s, hs⟩ : ∃ s, l[k]? = some s := ⟨_, List.getElem?_eq_getElem (by have := HN.out; omega)⟩
      obtain ⟨g0, g1, g2⟩ := stCs_get l k s hs
      have q0 := HS.out.keep (hcl _ _ g0)
      have q1 := HS.out.keep (hcl _ _ g1)
      have q2 := HS.out.keep (hcl _ _ g2)
      rw [← Nat.add_assoc] at q1 q2
      have hts : l.take (k + 1) = l.take k ++ [s] := by
        have hlt := (List.getElem?_eq_some_iff.1 hs)
        rw [List.take_succ_eq_append_getElem hlt.1, hlt.2]
      have HTS := hid hts
      have HSS := hid hs
      clear hcl hs g0 g1 g2 hts
      go_wp2_with fail
      refine (isTo t (HS.out.keep HB.out) s).mono ?_
      rintro r w' ⟨rfl, hs1⟩
      have S1 := hid (Chg.trans (S := fun _ => False) HS.out hs1 (fun _ _ f => f))
      clear hs1
      cases hf : ((s.to : Int) == t) with
      | true =>
        go_wp2
        go_ret
        refine ⟨.inr ⟨k, s, rfl, HSS.out, ?_⟩, S1.out⟩
        rw [← List.take_append_drop (k + 1) l, HTS.out, List.find?_append, List.find?_append, HK.out]
        simp [hf]
      | false =>
        go_wp2
        go_roundw
        case rel => exact ⟨k + 1, by omega, by go_num, S1.out, by rw [HTS.out, List.find?_append, HK.out]; simp [hf]⟩
        case measure => simp [intOf]; omega
    · go_wp2
      go_ret
      exact ⟨.inl ⟨rfl, by have := HK.out; rwa [List.take_of_length_le (by have := HN.out; omega)] at this⟩, HS.out⟩
end
end Go.Proofs.YtilobedihjkpjaaDoor.Steps

/-
  Parts of slices that read as cells.
-/
namespace Go.Proofs.YtilobedihjkpjaaDoor
open Go Go.RowKit
/-- The tail and the head of what reads as cells. -/
theorem Reads.tail {w : World} {b off n cap size : Nat} {cs : List Value} (h : Reads w (.slice (some ⟨b, off, none⟩) n cap) n size cs) (k c' : Nat) (hk : k < n) : Reads w (.slice (some ⟨b, off + k * size, none⟩) (n - k) c') (n - k) size (cs.drop (k * size)) := by
  obtain ⟨ad, c, e, hl, hn, hc⟩ := h
  cases e
  refine ⟨_, _, rfl, by rw [List.length_drop, hl, Nat.sub_mul], (fun h => by cases h), ?_⟩
  rintro a ha
  cases ha
  refine ⟨fun h => (hc _ rfl).1 (by rcases Nat.eq_zero_or_pos size with e | e; simp [e] at h; exact Nat.mul_pos (by omega) e), fun j u hu => ?_⟩
  rw [List.getElem?_drop] at hu
  have := (hc _ rfl).2 _ _ hu
  have e : (⟨b, off + k * size, none⟩ : Addr).add j = (⟨b, off, none⟩ : Addr).add (k * size + j) := by
    unfold Addr.add
    split <;> split <;> simp_all <;> omega
  rw [e]
  exact this
/-- The tail, as the walk spells it, the empty one too. -/
theorem Reads.rest {w : World} {b off n cap size : Nat} {cs : List Value} (h : Reads w (.slice (some ⟨b, off, none⟩) n cap) n size cs) (k c' : Nat) (hk : k ≤ n) (hc : n ≤ cap) : Reads w (.slice (if cap = k then some ⟨b, off, none⟩ else some ⟨b, off + k * size, none⟩) (n - k) c') (n - k) size (cs.drop (k * size)) := by
  by_cases hkn : k < n
  · rw [if_neg (by omega)]
    exact h.tail k c' hkn
  · have e : n - k = 0 := by omega
    have hl := h.len
    have hd : cs.drop (k * size) = [] := List.drop_eq_nil_of_le (by rw [hl]; exact Nat.mul_le_mul_right _ (by omega))
    rw [e, hd]
    by_cases hck : cap = k
    · rw [if_pos hck]
      exact ⟨_, _, rfl, by simp, (fun h => by cases h), fun a _ => ⟨fun h => by simp at h, fun j u hu => by simp at hu⟩⟩
    · rw [if_neg hck]
      exact ⟨_, _, rfl, by simp, (fun h => by cases h), fun a _ => ⟨fun h => by simp at h, fun j u hu => by simp at hu⟩⟩
theorem Reads.head {w : World} {b off n cap size : Nat} {cs : List Value} (h : Reads w (.slice (some ⟨b, off, none⟩) n cap) n size cs) (k c' : Nat) (hk : k ≤ n) : Reads w (.slice (some ⟨b, off, none⟩) k c') k size (cs.take (k * size)) := by
  obtain ⟨ad, c, e, hl, hn, hc⟩ := h
  cases e
  refine ⟨_, _, rfl, by rw [List.length_take, hl]; exact Nat.min_eq_left (Nat.mul_le_mul_right _ hk), (fun h => by cases h), ?_⟩
  rintro a ha
  cases ha
  refine ⟨fun h => (hc _ rfl).1 (Nat.lt_of_lt_of_le h (Nat.mul_le_mul_right _ hk)), fun j u hu => ?_⟩
  rw [List.getElem?_take] at hu
  split at hu
  · exact (hc _ rfl).2 _ _ hu
  · cases hu
end Go.Proofs.YtilobedihjkpjaaDoor

/-
  What a walk costs.
-/
namespace Go.Proofs.YtilobedihjkpjaaDoor.Steps
open Go Go.RowKit

section
variable {G : Gr}
theorem cost_none : G.cost [] = (0, 3) := by simp [Gr.cost]
theorem cost_range {xs : List Int} (x : Int) (hx : x ∈ xs) (h : G.has x = false) : G.cost xs = (0, 1) := by
  unfold Gr.cost
  rw [if_neg (by intro e; rw [e] at hx; cases hx), if_pos (by rw [List.all_eq_false]; exact ⟨x, hx, by rw [h]; simp⟩)]
theorem cost_blocked {xs : List Int} (h0 : xs ≠ []) (h1 : ∀ x ∈ xs, G.has x = true) (h2 : xs.any (fun t => !G.free t.toNat) = true) : G.cost xs = (0, 8) := by
  unfold Gr.cost
  rw [if_neg h0, if_neg (by rw [Bool.not_eq_false, List.all_eq_true]; exact h1), if_pos h2]
theorem cost_walk {xs : List Int} (h0 : xs ≠ []) (h1 : ∀ x ∈ xs, G.has x = true) (h2 : xs.any (fun t => !G.free t.toNat) = false) : G.cost xs = match G.walkC (xs.map Int.toNat) with | some c => (c, 0) | none => (0, 9) := by
  unfold Gr.cost
  rw [if_neg h0, if_neg (by rw [Bool.not_eq_false, List.all_eq_true]; exact h1), if_neg (by rw [h2]; simp)]
  cases G.walkC (xs.map Int.toNat) <;> rfl
/-- The walk up to a tile. -/
theorem walkC_step : ∀ (l : List Nat) (k : Nat) (a b : Nat) (s : Int), l[k]? = some a → l[k + 1]? = some b → G.walkC (l.take (k + 1)) = some s → G.walkC (l.take (k + 2)) = (G.edge a b).map (s + ·)
  | [], _, _, _, _, h, _, _ => by simp at h
  | [x], 0, a, b, s, h1, h2, h3 => by simp at h2
  | [x], k + 1, a, b, s, h1, h2, h3 => by simp at h1
  | x :: y :: l, 0, a, b, s, h1, h2, h3 => by
    simp at h1 h2
    subst h1 h2
    simp [Gr.walkC] at h3
    subst h3
    cases l <;> simp [Gr.walkC] <;> cases G.edge x y <;> rfl
  | x :: y :: l, k + 1, a, b, s, h1, h2, h3 => by
    simp only [List.getElem?_cons_succ] at h1 h2
    simp only [List.take_succ_cons, Gr.walkC] at h3 ⊢
    cases he : G.edge x y with
    | none => rw [he] at h3; cases h3
    | some e =>
      rw [he] at h3
      simp only [Option.bind_some] at h3 ⊢
      cases hw : G.walkC (y :: l.take k) with
      | none => rw [hw] at h3; cases h3
      | some s' =>
        rw [hw] at h3
        simp only [Option.map_some, Option.some.injEq] at h3
        have := walkC_step (y :: l) k a b s' (by simpa using h1) (by simpa using h2) (by simpa using hw)
        simp only [List.take_succ_cons] at this
        rw [this]
        cases G.edge a b with
        | none => rfl
        | some c => simp; omega
theorem walkC_stuck : ∀ (l : List Nat) (k : Nat), G.walkC (l.take k) = none → G.walkC l = none
  | [], _, h => by simpa using h
  | [x], 0, h => by simp [Gr.walkC] at h
  | [x], k + 1, h => by simpa using h
  | x :: y :: l, 0, h => by simp [Gr.walkC] at h
  | x :: y :: l, 1, h => by simp [Gr.walkC] at h
  | x :: y :: l, k + 2, h => by
    simp only [List.take_succ_cons, Gr.walkC] at h ⊢
    cases he : G.edge x y with
    | none => rfl
    | some e =>
      rw [he] at h
      simp only [Option.bind_some] at h ⊢
      cases hw : G.walkC (y :: l.take k) with
      | none =>
        have := walkC_stuck (y :: l) (k + 1) (by simpa using hw)
        rw [this]; rfl
      | some s' => rw [hw] at h; cases h
theorem edge_find (a b : Nat) : G.edge a b = ((G.aroundI a).find? fun s => (s.to : Int) == (b : Int)).map (·.c) := by
  rw [Gr.aroundI_nat]
  unfold Gr.edge
  congr 2
  funext s
  rw [Bool.eq_iff_iff]
  simp
  omega
theorem edge_bound (h : G.Ok) {a b : Nat} {c : Int} (he : G.edge a b = some c) : 0 ≤ c ∧ c ≤ 14 := by
  unfold Gr.edge at he
  cases hf : (G.around a).find? (fun s => s.to == b) with
  | none => rw [hf] at he; cases he
  | some s =>
    rw [hf] at he
    simp at he
    have := Gr.mem_around.1 (List.mem_of_find?_eq_some hf)
    have := (Gr.go_some this).2.2.2.2.1
    rw [← he, this]
    split <;> omega
end
end Go.Proofs.YtilobedihjkpjaaDoor.Steps

namespace Go.Proofs.YtilobedihjkpjaaDoor.Err
open Go Go.RowKit
/-- The five errors that a ground answers. -/
structure Errs5 (w : World) (ad : Nat → Addr) : Prop where
  c0 : w.cell? ⟨1, 0, none⟩ = some (.iface 205 (.pointer (some (ad 0))))
  c2 : w.cell? ⟨3, 0, none⟩ = some (.iface 205 (.pointer (some (ad 2))))
  c6 : w.cell? ⟨7, 0, none⟩ = some (.iface 205 (.pointer (some (ad 6))))
  c7 : w.cell? ⟨8, 0, none⟩ = some (.iface 205 (.pointer (some (ad 7))))
  c8 : w.cell? ⟨9, 0, none⟩ = some (.iface 205 (.pointer (some (ad 8))))
theorem Errs5.same {w w' : World} {ad : Nat → Addr} (h : Errs5 w ad) (hs : Same w w') : Errs5 w' ad := ⟨hs.keep h.c0, hs.keep h.c2, hs.keep h.c6, hs.keep h.c7, hs.keep h.c8⟩
theorem Errs.five {w : World} {ad : Nat → Addr} (h : Errs w ad) : Errs5 w ad := ⟨h.c0, h.c2, h.c6, h.c7, h.c8⟩
theorem errs5_of {w : World} {a0 a2 a6 a7 a8 : Addr} (h0 : w.cell? ⟨1, 0, none⟩ = some (.iface 205 (.pointer (some a0)))) (h2 : w.cell? ⟨3, 0, none⟩ = some (.iface 205 (.pointer (some a2))))
    (h6 : w.cell? ⟨7, 0, none⟩ = some (.iface 205 (.pointer (some a6)))) (h7 : w.cell? ⟨8, 0, none⟩ = some (.iface 205 (.pointer (some a7)))) (h8 : w.cell? ⟨9, 0, none⟩ = some (.iface 205 (.pointer (some a8)))) : ∃ ad, Errs5 w ad :=
  ⟨fun k => match k with | 0 => a0 | 2 => a2 | 6 => a6 | 7 => a7 | _ => a8, h0, h2, h6, h7, h8⟩
/-- .. the three that grounds and routes need. -/
structure Errs3 (w : World) (ad : Nat → Addr) : Prop where
  c0 : w.cell? ⟨1, 0, none⟩ = some (.iface 205 (.pointer (some (ad 0))))
  c6 : w.cell? ⟨7, 0, none⟩ = some (.iface 205 (.pointer (some (ad 6))))
  c8 : w.cell? ⟨9, 0, none⟩ = some (.iface 205 (.pointer (some (ad 8))))
theorem Errs3.same {w w' : World} {ad : Nat → Addr} (h : Errs3 w ad) (hs : Same w w') : Errs3 w' ad := ⟨hs.keep h.c0, hs.keep h.c6, hs.keep h.c8⟩
/-- .. the two that grounds need. -/
structure Errs2 (w : World) (ad : Nat → Addr) : Prop where
  c0 : w.cell? ⟨1, 0, none⟩ = some (.iface 205 (.pointer (some (ad 0))))
  c6 : w.cell? ⟨7, 0, none⟩ = some (.iface 205 (.pointer (some (ad 6))))
theorem Errs2.same {w w' : World} {ad : Nat → Addr} (h : Errs2 w ad) (hs : Same w w') : Errs2 w' ad := ⟨hs.keep h.c0, hs.keep h.c6⟩
theorem Errs3.two {w : World} {ad : Nat → Addr} (h : Errs3 w ad) : Errs2 w ad := ⟨h.c0, h.c6⟩
theorem Errs5.three {w : World} {ad : Nat → Addr} (h : Errs5 w ad) : Errs3 w ad := ⟨h.c0, h.c6, h.c8⟩
theorem Errs.three {w : World} {ad : Nat → Addr} (h : Errs w ad) : Errs3 w ad := ⟨h.c0, h.c6, h.c8⟩
theorem errs3_of {w : World} {a0 a6 a8 : Addr} (h0 : w.cell? ⟨1, 0, none⟩ = some (.iface 205 (.pointer (some a0))))
    (h6 : w.cell? ⟨7, 0, none⟩ = some (.iface 205 (.pointer (some a6)))) (h8 : w.cell? ⟨9, 0, none⟩ = some (.iface 205 (.pointer (some a8)))) : ∃ ad, Errs3 w ad :=
  ⟨fun k => match k with | 0 => a0 | 6 => a6 | _ => a8, h0, h6, h8⟩
end Go.Proofs.YtilobedihjkpjaaDoor.Err

/-
  tiles.Right, by its contract.
-/
namespace Go.Proofs.YtilobedihjkpjaaDoor
open Go Go.RowKit Go.Proofs.YtilobedihjkpjaaDoor.Err
namespace Grd
set_option maxRecDepth 100000 in
set_option maxHeartbeats 4000000 in
theorem right_any (g : Grd) (w : World) (T : TypeId) (ep : Value) (he : w.cell? ⟨1, 0, none⟩ = some (.iface T ep)) : Calls Tryd.prog 69 #[g.v] w fun r w' => r = .returned (.bool g.right) ∧ Same w w' := by
  obtain ⟨W, H, S, X, Y⟩ := g
  obtain ⟨b, hb⟩ : ∃ b, b = Grd.right ⟨W, H, S, X, Y⟩ := ⟨_, rfl⟩
  rw [← hb]
  have HB := hid hb
  clear hb
  unfold Grd.v
  simp only
  have Z := hid ((Star.new w).alloc #[.int .i64 W, .int .i64 H, .int .i64 S, .int .i64 X, .int .i64 Y] 23)
  have HE := hid he
  clear he
  go_enter Tryd.func69, Tryd.ntmps69
  go_wp2_with fail
  generalize w.alloc _ = w1 at *
  generalize w.heap.size = q at *
  refine (of_zero X Y _ _ (Z.out.same.keep HE.out)).mono ?_
  rintro r w2 ⟨rfl, hs⟩
  have Z2 := hid (Z.out.go hs)
  have hb := (Z2.out.blk 0 rfl).1
  have hl := lt_of hb
  have c0 := cell_of hb 0
  have c1 := cell_of hb 1
  have c2 := cell_of hb 2
  simp only [List.getElem?_toArray, List.getElem?_cons_zero, List.getElem?_cons_succ] at c0 c1 c2
  clear hs hb Z
  cases hxy : inB X && inB Y with
  | false =>
    have e : ofV (.iface T ep) X Y = .tuple #[.agg #[.int .i64 0, .int .i64 0, .int .i64 0, .int .i64 0], .iface T ep] := by unfold ofV; rw [hxy]; rfl
    rw [e]
    have HXY := hid hxy
    clear hxy e
    go_wp2
    go_ret
    exact ⟨ret_bool (by rw [HB.out]; exact (decide_eq_false (by rintro ⟨-, -, -, -, -, -, hx, hy⟩; have := HXY.out; rw [show inB X = true from decide_eq_true hx, show inB Y = true from decide_eq_true hy] at this; cases this)).symm), Z2.out.same.alloc _⟩
  | true =>
    have e : ofV (.iface T ep) X Y = .tuple #[.agg #[.int .i64 X, .int .i64 Y, .int .i64 X, .int .i64 Y], .nilIface] := by unfold ofV; rw [hxy]; rfl
    rw [e]
    rw [Bool.and_eq_true] at hxy
    have hx : -1048576 ≤ X ∧ X ≤ 1048576 := of_decide_eq_true hxy.1
    have hy : -1048576 ≤ Y ∧ Y ≤ 1048576 := of_decide_eq_true hxy.2
    have HXY := hid (And.intro hx hy)
    clear hxy e hx hy
    by_cases h0 : 1 ≤ W
    · skip
      by_cases h1 : W ≤ 32
      · skip
        by_cases h2 : 1 ≤ H
        · skip
          by_cases h3 : H ≤ 32
          · skip
            by_cases h4 : 1 ≤ S
            · skip
              by_cases h5 : S ≤ 65536
              · skip
                go_wp2
                go_ret
                exact ⟨ret_bool (by first | (rw [HB.out]; exact (show Grd.right ⟨W, H, S, X, Y⟩ = true from decide_eq_true (by exact ⟨h0, h1, h2, h3, h4, h5, HXY.out.1, HXY.out.2⟩)).symm) | (refine Eq.trans (decide_eq_true (by omega)) ?_; rw [HB.out]; exact (show Grd.right ⟨W, H, S, X, Y⟩ = true from decide_eq_true (by exact ⟨h0, h1, h2, h3, h4, h5, HXY.out.1, HXY.out.2⟩)).symm)), Z2.out.same.alloc _⟩
              · skip
                go_wp2
                go_ret
                exact ⟨ret_bool (by refine Eq.trans (decide_eq_false (by omega)) ?_; rw [HB.out]; exact (show Grd.right ⟨W, H, S, X, Y⟩ = false from decide_eq_false (by rintro ⟨k0, k1, k2, k3, k4, k5, -, -⟩; dsimp only at k0 k1 k2 k3 k4 k5; omega)).symm), Z2.out.same.alloc _⟩
            · skip
              go_wp2
              go_ret
              exact ⟨ret_bool (by rw [HB.out]; exact (show Grd.right ⟨W, H, S, X, Y⟩ = false from decide_eq_false (by rintro ⟨k0, k1, k2, k3, k4, k5, -, -⟩; dsimp only at k0 k1 k2 k3 k4 k5; omega)).symm), Z2.out.same.alloc _⟩
          · skip
            go_wp2
            go_ret
            exact ⟨ret_bool (by rw [HB.out]; exact (show Grd.right ⟨W, H, S, X, Y⟩ = false from decide_eq_false (by rintro ⟨k0, k1, k2, k3, k4, k5, -, -⟩; dsimp only at k0 k1 k2 k3 k4 k5; omega)).symm), Z2.out.same.alloc _⟩
        · skip
          go_wp2
          go_ret
          exact ⟨ret_bool (by rw [HB.out]; exact (show Grd.right ⟨W, H, S, X, Y⟩ = false from decide_eq_false (by rintro ⟨k0, k1, k2, k3, k4, k5, -, -⟩; dsimp only at k0 k1 k2 k3 k4 k5; omega)).symm), Z2.out.same.alloc _⟩
      · skip
        go_wp2
        go_ret
        exact ⟨ret_bool (by rw [HB.out]; exact (show Grd.right ⟨W, H, S, X, Y⟩ = false from decide_eq_false (by rintro ⟨k0, k1, k2, k3, k4, k5, -, -⟩; dsimp only at k0 k1 k2 k3 k4 k5; omega)).symm), Z2.out.same.alloc _⟩
    · skip
      go_wp2
      go_ret
      exact ⟨ret_bool (by rw [HB.out]; exact (show Grd.right ⟨W, H, S, X, Y⟩ = false from decide_eq_false (by rintro ⟨k0, k1, k2, k3, k4, k5, -, -⟩; dsimp only at k0 k1 k2 k3 k4 k5; omega)).symm), Z2.out.same.alloc _⟩
end Grd
end Go.Proofs.YtilobedihjkpjaaDoor
