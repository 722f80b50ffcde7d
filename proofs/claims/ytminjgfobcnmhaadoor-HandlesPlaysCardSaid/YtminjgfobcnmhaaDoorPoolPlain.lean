/-
  Package handles: what a pool keeps, in plain words; Take and Free, so told; the chapter's example.
-/
import Derived.Test.YtminjgfobcnmhaaDoorPoolClone
namespace Go.Proofs.YtminjgfobcnmhaaDoor.Pool
open Go Go.RowKit

theorem live_len (S : List Slot) : ∀ k, (liveFrom k S).length = S.countP (·.2) := by
  induction S with
  | nil => intro k; rfl
  | cons s S ih =>
    intro k
    obtain ⟨g, b⟩ := s
    cases b <;> simp [liveFrom, ih]

/-- What a pool keeps. -/
structure Ok (S : List Slot) (f : List Nat) (c : Int) : Prop where
  len : S.length ≤ 128
  nodup : f.Nodup
  free : ∀ i ∈ f, ∃ g, S[i]? = some (g, false)
  gen : ∀ s ∈ S, 1 ≤ s.1 ∧ s.1 ≤ 1073741824
  dead : ∀ (i : Nat) (g : Int), S[i]? = some (g, false) → g < 1073741824 → i ∈ f
  count : c = S.countP (·.2)
theorem Ok.new : Ok [] [] 0 := ⟨by simp, List.nodup_nil, by simp, by simp, by simp, rfl⟩

/-- What Take takes, and leaves. -/
def takeM (S : List Slot) (f : List Nat) : Option (Hand × List Slot × List Nat) :=
  match f.getLast? with
  | some i => match S[i]? with
    | some s => some (((i : Int), s.1), S.set i (s.1, true), f.dropLast)
    | none => none
  | none => if S.length < 128 then some (((S.length : Int), 1), S ++ [(1, true)], []) else none

theorem nodup_len {n : Nat} : ∀ {f : List Nat} (_ : f.Nodup) (_ : ∀ i ∈ f, i < n), f.length ≤ n := by
  induction n with
  | zero =>
    intro f _ hb
    cases f with
    | nil => simp
    | cons x f => have := hb x List.mem_cons_self; omega
  | succ n ih =>
    intro f h hb
    by_cases hn : n ∈ f
    · have h1 := ih (h.erase n) (fun i hi => by
        have h2 := hb i (List.mem_of_mem_erase hi)
        have h3 := (h.mem_erase_iff).1 hi
        have := h3.1
        omega)
      rw [List.length_erase_of_mem hn] at h1
      omega
    · have := ih h (fun i hi => by have := hb i hi; have : i ≠ n := fun e => hn (e ▸ hi); omega)
      omega
theorem Ok.flen {S : List Slot} {f : List Nat} {c : Int} (h : Ok S f c) : f.length ≤ 128 := by
  refine Nat.le_trans (nodup_len h.nodup (n := S.length) (fun i hi => ?_)) h.len
  obtain ⟨g, hg⟩ := h.free i hi
  exact (List.getElem?_eq_some_iff.1 hg).1
theorem Ok.c0 {S : List Slot} {f : List Nat} {c : Int} (h : Ok S f c) : 0 ≤ c ∧ c ≤ 128 := by
  have := h.count; have h1 := h.len; have h2 := List.countP_le_length (p := fun s : Slot => s.2) (l := S); omega

theorem countP_set {S : List Slot} {i : Nat} {s t : Slot} (h : S[i]? = some s) : ((S.set i t).countP (·.2) : Int) = S.countP (·.2) - (if s.2 then 1 else 0) + (if t.2 then 1 else 0) := by
  induction S generalizing i with
  | nil => simp at h
  | cons x S ih =>
    cases i with
    | zero =>
      simp at h; subst h
      simp only [List.set_cons_zero, List.countP_cons]
      split <;> split <;> simp_all <;> omega
    | succ i =>
      have := ih (i := i) (by simpa using h)
      simp only [List.set_cons_succ, List.countP_cons]
      simp only [Int.natCast_add]
      omega

theorem Ok.take {S : List Slot} {f : List Nat} {c : Int} (ok : Ok S f c) {h : Hand} {S' : List Slot} {f' : List Nat} (ht : takeM S f = some (h, S', f')) :
    Ok S' f' (c + 1) ∧ ((∃ i : Nat, f = f' ++ [i] ∧ h.1 = (i : Int) ∧ S[i]? = some (h.2, false) ∧ S' = S.set i (h.2, true)) ∨ (f = [] ∧ f' = [] ∧ S.length < 128 ∧ h = ((S.length : Int), 1) ∧ S' = S ++ [(1, true)])) := by
  unfold takeM at ht
  rcases List.eq_nil_or_concat f with rfl | ⟨f0, i, rfl⟩
  · simp only [List.getLast?_nil] at ht
    split at ht
    · rename_i hl
      simp only [Option.some.injEq, Prod.mk.injEq] at ht
      obtain ⟨rfl, rfl, rfl⟩ := ht
      refine ⟨⟨by simp; omega, List.nodup_nil, by simp, ?_, ?_, ?_⟩, .inr ⟨rfl, rfl, hl, rfl, rfl⟩⟩
      · intro s hs
        rcases List.mem_append.1 hs with hs | hs
        · exact ok.gen s hs
        · simp at hs; subst hs; simp
      · intro i g hi hg
        by_cases hil : i < S.length
        · rw [List.getElem?_append_left hil] at hi; exact ok.dead i g hi hg
        · rw [List.getElem?_append_right (by omega)] at hi
          rcases h : i - S.length with _ | k
          · simp [h] at hi
          · simp [h] at hi
      · have := ok.count; rw [List.countP_append]; simp; omega
    · cases ht
  · rw [List.concat_eq_append] at *
    simp only [List.getLast?_append, List.getLast?_singleton, Option.some_or, List.dropLast_concat] at ht
    obtain ⟨g, hg⟩ := ok.free i (by simp)
    simp only [hg, Option.some.injEq, Prod.mk.injEq] at ht
    obtain ⟨rfl, rfl, rfl⟩ := ht
    have hnd := ok.nodup
    rw [List.nodup_append] at hnd
    have hif : ∀ j ∈ f0, j ≠ i := fun j hj => hnd.2.2 j hj i (by simp)
    refine ⟨⟨by simpa using ok.len, hnd.1, ?_, ?_, ?_, ?_⟩, .inl ⟨i, rfl, rfl, hg, rfl⟩⟩
    · intro j hj
      obtain ⟨g', hg'⟩ := ok.free j (by simp [hj])
      exact ⟨g', by rw [List.getElem?_set_ne (Ne.symm (hif j hj))]; exact hg'⟩
    · intro s hs
      rcases List.mem_or_eq_of_mem_set hs with hs | rfl
      · exact ok.gen s hs
      · exact ok.gen (g, false) (List.mem_of_getElem? hg)
    · intro j g' hj hg'
      by_cases e : i = j
      · subst e
        rw [List.getElem?_set_self (List.getElem?_eq_some_iff.1 hg).1] at hj
        simp at hj
      · rw [List.getElem?_set_ne e] at hj
        have := ok.dead j g' hj hg'
        simp at this
        rcases this with h | h
        · exact h
        · exact absurd h.symm e
    · have h1 := countP_set (t := (g, true)) hg
      have h2 := ok.count
      simp at h1
      omega
theorem Ok.take_none {S : List Slot} {f : List Nat} {c : Int} (ok : Ok S f c) (ht : takeM S f = none) : f = [] ∧ S.length = 128 := by
  unfold takeM at ht
  rcases List.eq_nil_or_concat f with rfl | ⟨f0, i, rfl⟩
  · simp only [List.getLast?_nil] at ht
    split at ht
    · cases ht
    · have := ok.len; exact ⟨rfl, by omega⟩
  · rw [List.concat_eq_append] at *
    obtain ⟨g, hg⟩ := ok.free i (by simp)
    simp [hg] at ht

theorem Ok.free' {S : List Slot} {f : List Nat} {c : Int} (ok : Ok S f c) {i : Nat} {g : Int} (hi : S[i]? = some (g, true)) : Ok (S.set i (gone g)) (freed f i g) (c - 1) := by
  have hil := (List.getElem?_eq_some_iff.1 hi).1
  have hg := ok.gen _ (List.mem_of_getElem? hi)
  simp only at hg
  have hnf : i ∉ f := fun h => by
    obtain ⟨g', hg'⟩ := ok.free i h
    rw [hi] at hg'; simp at hg'
  have hgo : (gone g).2 = false := by unfold gone; rfl
  refine ⟨by simpa using ok.len, ?_, ?_, ?_, ?_, ?_⟩
  · unfold freed
    split
    · rw [List.nodup_append]
      exact ⟨ok.nodup, by simp, fun a ha b hb => by simp at hb; subst hb; exact fun e => hnf (e ▸ ha)⟩
    · exact ok.nodup
  · intro j hj
    by_cases e : i = j
    · subst e; exact ⟨_, by rw [List.getElem?_set_self hil]; unfold gone; rfl⟩
    · have hj' : j ∈ f := by
        unfold freed at hj
        split at hj
        · simp at hj; rcases hj with h | h
          · exact h
          · exact absurd h.symm e
        · exact hj
      obtain ⟨g', hg'⟩ := ok.free j hj'
      exact ⟨g', by rw [List.getElem?_set_ne e]; exact hg'⟩
  · intro s hs
    rcases List.mem_or_eq_of_mem_set hs with hs | rfl
    · exact ok.gen s hs
    · unfold gone; simp only; split <;> omega
  · intro j g' hj hg'
    by_cases e : i = j
    · subst e
      rw [List.getElem?_set_self hil] at hj
      unfold gone at hj
      simp only [Option.some.injEq, Prod.mk.injEq, and_true] at hj
      unfold freed
      split at hj
      · rename_i h; rw [if_pos h]; simp
      · omega
    · rw [List.getElem?_set_ne e] at hj
      have := ok.dead j g' hj hg'
      unfold freed
      split
      · simp [this]
      · exact this
  · have h1 := countP_set (t := gone g) hi
    have h2 := ok.count
    rw [hgo] at h1
    simp at h1
    omega

section
variable {w0 w : World} {L : List Res} {p : Nat} {S : List Slot} {f : List Nat} {c : Int}
theorem take_some (X : Star w0 w (PoolR p S f c :: L)) (ok : Ok S f c) {h : Hand} {S' : List Slot} {f' : List Nat} (ht : takeM S f = some (h, S', f')) :
    Calls Tryd.prog 23 #[.pointer (some ⟨p, 0, none⟩)] w fun r w' => r = .returned (.tuple #[hv h, .nilIface]) ∧ Star w0 w' (PoolR p S' f' (c + 1) :: L) := by
  have hc := ok.c0
  obtain ⟨_, ⟨i, rfl, h1, h2, rfl⟩ | ⟨rfl, rfl, hl, rfl, rfl⟩⟩ := ok.take ht
  · obtain ⟨x, g⟩ := h
    simp only at h1 h2
    subst h1
    exact take_free X f' i rfl (g, false) h2 (by omega)
  · exact take_new X hl (by omega)
theorem take_none (X : Star w0 w (PoolR p S f c :: L)) (ok : Ok S f c) (ht : takeM S f = none) (e : Value) (he : w0.cell? ⟨0, 0, none⟩ = some e) (het : ∃ T u, e = .iface T (.pointer (some u))) :
    Calls Tryd.prog 23 #[.pointer (some ⟨p, 0, none⟩)] w fun r w' => r = .returned (.tuple #[hv (0, 0), e]) ∧ Star w0 w' (PoolR p S f c :: L) := by
  obtain ⟨rfl, hl⟩ := ok.take_none ht
  exact take_full X (by omega) e he het
theorem free_live (X : Star w0 w (PoolR p S f c :: L)) (ok : Ok S f c) {i : Nat} {g : Int} (hi : S[i]? = some (g, true)) :
    Calls Tryd.prog 22 #[.pointer (some ⟨p, 0, none⟩), hv (i, g)] w fun r w' => r = .returned .nilIface ∧ Star w0 w' (PoolR p (S.set i (gone g)) (freed f i g) (c - 1) :: L) :=
  free_yes X i g hi (ok.gen _ (List.mem_of_getElem? hi)) (by have := ok.c0; omega) (by have := ok.flen; omega)
end

set_option maxRecDepth 100000 in
theorem alive (w : World) : Calls Tryd.prog 18 #[] w fun r w' => r = .returned (.bool true) ∧ Same w w' := by
  go_enter Tryd.func18, Tryd.ntmps18
  go_wp2_with fail
  refine (new_any (Star.new w)).mono ?_
  rintro r w1 ⟨p, rfl, hX⟩
  have X := hid hX
  clear hX
  go_wp2_with fail
  refine (take_some X.out Ok.new (h := (0, 1)) (S' := [(1, true)]) (f' := []) rfl).mono ?_
  rintro r w2 ⟨rfl, hX⟩
  have X2 := hid ((hX.alloc #[.int .i64 0, .int .i64 1] 42).swap)
  clear hX X
  go_wp2_with fail
  generalize w2.heap.size = q2 at *
  refine (take_some X2.out (Ok.new.take (h := (0, 1)) (S' := [(1, true)]) (f' := []) rfl).1 (h := (1, 1)) (S' := [(1, true), (1, true)]) (f' := []) rfl).mono ?_
  rintro r w3 ⟨rfl, hX⟩
  have X3 := hid ((hX.alloc #[.int .i64 1, .int .i64 1] 42).swap)
  have hbk1 := X3.out.blk 2 rfl
  have a0 : (w3.alloc (.cells #[.int .i64 1, .int .i64 1] 42)).cell? ⟨q2, 0, none⟩ = some (.int .i64 0) := cell_of hbk1.1 0
  have a1 : (w3.alloc (.cells #[.int .i64 1, .int .i64 1] 42)).cell? ⟨q2, 1, none⟩ = some (.int .i64 1) := cell_of hbk1.1 1
  have al : q2 < (w3.alloc (.cells #[.int .i64 1, .int .i64 1] 42)).heap.size := lt_of hbk1.1
  clear hbk1
  have hbk2 := X3.out.blk 1 rfl
  have b0 : (w3.alloc (.cells #[.int .i64 1, .int .i64 1] 42)).cell? ⟨w3.heap.size, 0, none⟩ = some (.int .i64 1) := cell_of hbk2.1 0
  have b1 : (w3.alloc (.cells #[.int .i64 1, .int .i64 1] 42)).cell? ⟨w3.heap.size, 1, none⟩ = some (.int .i64 1) := cell_of hbk2.1 1
  have bl : w3.heap.size < (w3.alloc (.cells #[.int .i64 1, .int .i64 1] 42)).heap.size := lt_of hbk2.1
  clear hbk2

  clear hX X2
  go_wp2_with fail
  generalize w3.heap.size = q4 at *
  refine (free_live X3.out (((Ok.new.take (h := (0, 1)) (S' := [(1, true)]) (f' := []) rfl).1).take (h := (1, 1)) (S' := [(1, true), (1, true)]) (f' := []) rfl).1 (i := 0) (g := 1) rfl).mono ?_
  rintro r w4 ⟨rfl, hX⟩
  have X4 := hid hX
  clear hX X3 a0 a1 al b0 b1 bl
  go_wp2_with fail
  refine (take_some X4.out ((((Ok.new.take (h := (0, 1)) (S' := [(1, true)]) (f' := []) rfl).1).take (h := (1, 1)) (S' := [(1, true), (1, true)]) (f' := []) rfl).1.free' (i := 0) (g := 1) rfl) (h := (0, 2)) (S' := [(2, true), (1, true)]) (f' := []) rfl).mono ?_
  rintro r w5 ⟨rfl, hX⟩
  have X5 := hid (hX.alloc #[.int .i64 0, .int .i64 2] 42)
  have hbk3 := X5.out.blk 3 rfl
  have a0 : (w5.alloc (.cells #[.int .i64 0, .int .i64 2] 42)).cell? ⟨q2, 0, none⟩ = some (.int .i64 0) := cell_of hbk3.1 0
  have a1 : (w5.alloc (.cells #[.int .i64 0, .int .i64 2] 42)).cell? ⟨q2, 1, none⟩ = some (.int .i64 1) := cell_of hbk3.1 1
  have al : q2 < (w5.alloc (.cells #[.int .i64 0, .int .i64 2] 42)).heap.size := lt_of hbk3.1
  clear hbk3
  have hbk4 := X5.out.blk 2 rfl
  have b0 : (w5.alloc (.cells #[.int .i64 0, .int .i64 2] 42)).cell? ⟨q4, 0, none⟩ = some (.int .i64 1) := cell_of hbk4.1 0
  have b1 : (w5.alloc (.cells #[.int .i64 0, .int .i64 2] 42)).cell? ⟨q4, 1, none⟩ = some (.int .i64 1) := cell_of hbk4.1 1
  have bl : q4 < (w5.alloc (.cells #[.int .i64 0, .int .i64 2] 42)).heap.size := lt_of hbk4.1
  clear hbk4

  clear hX X4
  go_wp2
  go_ret
  exact ⟨rfl, X5.out.same⟩
end Go.Proofs.YtminjgfobcnmhaaDoor.Pool
