/-
  slices.SortFunc on few whole numbers, by cmp.Compare.
-/
import Derived.Test.YtilobedihjkpjaaDoorLib
import Derived.Test.YtilobedihjkpjaaDoorProg
import Derived.Test.YtilobedihjkpjaaDoorStar
import Derived.Test.YtilobedihjkpjaaDoorArr
namespace Go.Proofs.YtilobedihjkpjaaDoor.Ord

/-- The number at a place. -/
def at' (l : List Int) (k : Nat) : Int := l.getD k 0
theorem at_get {l : List Int} {k : Nat} (h : k < l.length) : l[k]? = some (at' l k) := by simp [at', h]
def swp (l : List Int) (j : Nat) : List Int := (l.set (j + 1) (at' l j)).set j (at' l (j + 1))
theorem swp_len (l : List Int) (j : Nat) : (swp l j).length = l.length := by simp [swp]
theorem swp_at (l : List Int) (j k : Nat) (h : j + 1 < l.length) : at' (swp l j) k = if k = j then at' l (j + 1) else if k = j + 1 then at' l j else at' l k := by
  unfold swp
  by_cases h1 : k = j
  · subst h1
    rw [if_pos rfl]
    simp [at', List.getD_eq_getElem?_getD, show k < l.length by omega]
  · rw [if_neg h1]
    by_cases h2 : k = j + 1
    · subst h2
      rw [if_pos rfl]
      unfold at'
      rw [List.getD_eq_getElem?_getD, List.getElem?_set_ne (by omega), List.getElem?_set_self h]
      rfl
    · rw [if_neg h2]
      unfold at'
      rw [List.getD_eq_getElem?_getD, List.getElem?_set_ne (by omega), List.getElem?_set_ne (by omega), List.getD_eq_getElem?_getD]
theorem swp_perm : ∀ (l : List Int) (j : Nat) (_ : j + 1 < l.length), (swp l j).Perm l
  | [], j, h => by simp at h
  | [_], j, h => by simp at h
  | a :: b :: l, 0, _ => by simp [swp, at']; exact List.Perm.swap _ _ _
  | a :: b :: l, j + 1, h => by
    have := swp_perm (b :: l) j (by simpa using h)
    have e : swp (a :: b :: l) (j + 1) = a :: swp (b :: l) j := by simp [swp, at']
    rw [e]
    exact this.cons a
/-- All but the one at j stand in order, up to place i. -/
def Ins (l : List Int) (i j : Nat) : Prop := ∀ p q, p < q → q ≤ i → q ≠ j → at' l p ≤ at' l q
/-- The first i stand in order. -/
def Rise (l : List Int) (i : Nat) : Prop := ∀ p q, p < q → q < i → at' l p ≤ at' l q
theorem Ins.start {l : List Int} {i : Nat} (h : Rise l i) : Ins l i i := fun p q h1 h2 h3 => h p q h1 (by omega)
theorem Ins.step {l : List Int} {i j : Nat} (h : Ins l i (j + 1)) (hl : i < l.length) (hj : j + 1 ≤ i) (hlt : at' l (j + 1) < at' l j) : Ins (swp l j) i j := by
  intro p q h1 h2 h3
  rw [swp_at _ _ _ (by omega), swp_at _ _ _ (by omega), if_neg h3]
  by_cases e : q = j + 1
  · subst e
    rw [if_pos rfl]
    by_cases e2 : p = j
    · rw [if_pos e2]; omega
    · rw [if_neg e2, if_neg (by omega)]
      exact h p j (by omega) (by omega) (by omega)
  · rw [if_neg e]
    by_cases e2 : p = j
    · rw [if_pos e2]; exact h (j + 1) q (by omega) h2 e
    · rw [if_neg e2]
      by_cases e3 : p = j + 1
      · rw [if_pos e3]; exact h j q (by omega) h2 e
      · rw [if_neg e3]; exact h p q h1 h2 e
theorem Ins.done {l : List Int} {i j : Nat} (h : Ins l i j) (he : j = 0 ∨ at' l (j - 1) ≤ at' l j) : Rise l (i + 1) := by
  intro p q h1 h2
  by_cases e : q = j
  · subst e
    rcases he with rfl | he
    · omega
    · by_cases e2 : p = q - 1
      · subst e2; exact he
      · have := h p (q - 1) (by omega) (by omega) (by omega)
        omega
  · exact h p q h1 (by omega) e

/-- What is left of the first m, each once. -/
def once (l : List Int) : Nat → List Int
  | 0 => []
  | m + 1 => if m = 0 ∨ at' l m ≠ at' l (m - 1) then once l m ++ [at' l m] else once l m
theorem once_le (l : List Int) : ∀ m, (once l m).length ≤ m
  | 0 => by simp [once]
  | m + 1 => by
    have := once_le l m
    unfold once
    split
    · simp; omega
    · omega
theorem once_pos (l : List Int) : ∀ m, 0 < m → 0 < (once l m).length
  | 0, h => by omega
  | m + 1, _ => by
    unfold once
    split
    · simp
    · rename_i h
      exact once_pos l m (by
        by_cases hm : m = 0
        · exact absurd (.inl hm) h
        · omega)
theorem once_mem {l : List Int} : ∀ (m : Nat) (_ : m ≤ l.length) (x : Int), x ∈ once l m ↔ ∃ i, i < m ∧ at' l i = x
  | 0, _, x => by simp [once]
  | m + 1, h, x => by
    have ih := once_mem (l := l) m (by omega) x
    unfold once
    split
    · rw [List.mem_append, ih, List.mem_singleton]
      constructor
      · rintro (⟨i, h1, h2⟩ | h)
        · exact ⟨i, by omega, h2⟩
        · exact ⟨m, by omega, h.symm⟩
      · rintro ⟨i, h1, h2⟩
        by_cases e : i = m
        · subst e; exact .inr h2.symm
        · exact .inl ⟨i, by omega, h2⟩
    · rename_i hc
      rw [ih]
      constructor
      · rintro ⟨i, h1, h2⟩; exact ⟨i, by omega, h2⟩
      · rintro ⟨i, h1, h2⟩
        by_cases e : i = m
        · subst e
          have e2 : at' l i = at' l (i - 1) := by
            by_cases h3 : at' l i = at' l (i - 1)
            · exact h3
            · exact absurd (.inr h3) hc
          exact ⟨i - 1, by omega, by rw [← e2]; exact h2⟩
        · exact ⟨i, by omega, h2⟩
theorem once_rise {l : List Int} : ∀ (m : Nat) (_ : m ≤ l.length) (_ : Rise l m), (once l m).Pairwise (· < ·) ∧ ∀ x ∈ once l m, x ≤ at' l (m - 1)
  | 0, _, _ => by simp [once]
  | m + 1, h, hr => by
    obtain ⟨i1, i2⟩ := once_rise (l := l) m (by omega) (fun p q h1 h2 => hr p q h1 (by omega))
    unfold once
    split
    · rename_i hc
      refine ⟨?_, ?_⟩
      · rw [List.pairwise_append]
        refine ⟨i1, by simp, fun a ha b hb => ?_⟩
        simp only [List.mem_singleton] at hb
        subst hb
        have h1 := i2 a ha
        have hm : m ≠ 0 := by rintro rfl; simp [once] at ha
        have h2 := hr (m - 1) m (by omega) (by omega)
        have h3 : at' l m ≠ at' l (m - 1) := by rcases hc with h | h; exact absurd h hm; exact h
        omega
      · intro x hx
        rw [List.mem_append] at hx
        rcases hx with hx | hx
        · have h1 := i2 x hx
          by_cases hm : m = 0
          · subst hm; simp [once] at hx
          · have h2 := hr (m - 1) m (by omega) (by omega)
            simp only [Nat.add_sub_cancel]
            omega
        · simp only [List.mem_singleton] at hx; subst hx; simp
    · refine ⟨i1, fun x hx => ?_⟩
      have h1 := i2 x hx
      by_cases hm : m = 0
      · subst hm; simp [once] at hx
      · have h2 := hr (m - 1) m (by omega) (by omega)
        simp only [Nat.add_sub_cancel]
        omega
/-- In order, each once: there is one such row. -/
theorem rise_unique : ∀ (a b : List Int), a.Pairwise (· < ·) → b.Pairwise (· < ·) → (∀ x, x ∈ a ↔ x ∈ b) → a = b
  | [], [], _, _, _ => rfl
  | [], y :: b, _, _, h => by have := (h y).2 List.mem_cons_self; cases this
  | x :: a, [], _, _, h => by have := (h x).1 List.mem_cons_self; cases this
  | x :: a, y :: b, ha, hb, h => by
    rw [List.pairwise_cons] at ha hb
    have hxy : x = y := by
      have h1 := (h x).1 List.mem_cons_self
      have h2 := (h y).2 List.mem_cons_self
      rcases List.mem_cons.1 h1 with e | e
      · exact e
      · rcases List.mem_cons.1 h2 with e2 | e2
        · exact e2.symm
        · have := hb.1 x e; have := ha.1 y e2; omega
    subst hxy
    congr 1
    refine rise_unique a b ha.2 hb.2 fun z => ⟨fun hz => ?_, fun hz => ?_⟩
    · rcases List.mem_cons.1 ((h z).1 (List.mem_cons_of_mem _ hz)) with e | e
      · have := ha.1 z hz; omega
      · exact e
    · rcases List.mem_cons.1 ((h z).2 (List.mem_cons_of_mem _ hz)) with e | e
      · have := hb.1 z hz; omega
      · exact e
end Go.Proofs.YtilobedihjkpjaaDoor.Ord
namespace Go.Proofs.YtilobedihjkpjaaDoor.Ord
open Go Go.RowKit
/-- What Compare answers. -/
def cmpZ (a b : Int) : Int := if a < b then -1 else if b < a then 1 else 0
set_option maxRecDepth 100000 in
theorem compare_any (a b : Int) (w : World) : Calls Tryd.prog 73 #[.int .i64 a, .int .i64 b] w fun r w' => r = .returned (.int .i64 (cmpZ a b)) ∧ w = w' := by
  obtain ⟨z, hz⟩ : ∃ z, z = cmpZ a b := ⟨_, rfl⟩
  rw [← hz]
  have HZ := hid hz
  clear hz
  go_enter Tryd.func73, Tryd.ntmps73
  by_cases h1 : a < b
  · go_wp2
    go_ret
    exact ⟨ret_int (by rw [HZ.out]; unfold cmpZ; rw [if_pos h1]), rfl⟩
  · by_cases h2 : b < a
    · go_wp2
      go_ret
      exact ⟨ret_int (by rw [HZ.out]; unfold cmpZ; rw [if_neg (by omega), if_pos h2]), rfl⟩
    · go_wp2
      go_ret
      exact ⟨ret_int (by rw [HZ.out]; unfold cmpZ; rw [if_neg (by omega), if_neg (by omega)]), rfl⟩
set_option maxRecDepth 100000 in
theorem len_small (n : Nat) (hn : n ≤ 8) (w : World) : Calls Tryd.prog 97 #[.int .u64 n] w fun r w' => ∃ k, r = .returned (.int .i64 k) ∧ w = w' := by
  have : n = 0 ∨ n = 1 ∨ n = 2 ∨ n = 3 ∨ n = 4 ∨ n = 5 ∨ n = 6 ∨ n = 7 ∨ n = 8 := by omega
  rcases this with rfl | rfl | rfl | rfl | rfl | rfl | rfl | rfl | rfl
  all_goals
    go_enter Tryd.func97, Tryd.ntmps97
    go_wp2
    go_ret
    exact ⟨_, rfl, rfl⟩
abbrev cmpV : Value := .func (.func 73) #[] #[]
abbrev numR (g n cc : Nat) (l : List Int) : Res := Row 3 1 (.slice (some ⟨g, 0, none⟩) n cc) n (l.map (Value.int .i64))
section
variable {w0 w : World} {L : List Res} {g n cc : Nat} {l : List Int}
theorem num_cell (X : Star w0 w (numR g n cc l :: L)) (t : Nat) (ht : t < n) : l.length = n ∧ w.cell? ⟨g, t, none⟩ = some (.int .i64 (at' l t)) ∧ w.frozen? ⟨g, t, none⟩ = false ∧ g < w.heap.size := by
  have hr := (X.row 0 rfl).1
  have hl : l.length = n := by have := hr.1; simpa using this
  exact ⟨hl, (hr.cellAt t (by omega)).trans (by rw [List.getElem?_map, at_get (by omega)]; rfl), hr.frozenAt t, (hr.lt g rfl).2⟩
theorem num_set (X : Star w0 w (numR g n cc l :: L)) (t : Nat) (k : Int) : Star w0 (w.setCell ⟨g, t, none⟩ (.int .i64 k)) (numR g n cc (l.set t k) :: L) := by
  have h := X.store 0 rfl t (.int .i64 k)
  simp only [List.set_cons_zero] at h
  rw [← List.map_set] at h
  exact h
theorem cmp_same (a b : Int) (w : World) : Calls Tryd.prog 73 #[.int .i64 a, .int .i64 b] w fun r w' => r = .returned (.int .i64 (cmpZ a b)) ∧ w' = w := (compare_any a b w).mono fun _ _ h => ⟨h.1, h.2.symm⟩

set_option maxRecDepth 100000 in
set_option maxHeartbeats 4000000 in
theorem isort_any (X : Star w0 w (numR g n cc l :: L)) (hn : 1 ≤ n) (h8 : n ≤ 1000) : Calls Tryd.prog 114 #[.slice (some ⟨g, 0, none⟩) n cc, .int .i64 0, .int .i64 n, cmpV] w fun r w' => r = .returned (.tuple #[]) ∧ ∃ l', l'.Perm l ∧ Rise l' n ∧ Star w0 w' (numR g n cc l' :: L) := by
  have X0 := hid X
  have hln : l.length = n := (num_cell X 0 (by omega)).1
  clear X
  go_enter Tryd.func114, Tryd.ntmps114
  go_wp2_with fail
  go_loopw [8] (fun iv wr => ∃ (i : Nat) (l' : List Int), 1 ≤ i ∧ i ≤ n ∧ iv = .int .i64 i ∧ Rise l' i ∧ l'.Perm l ∧ Star w0 wr (numR g n cc l' :: L)) (fun iv _ => n - (intOf iv).toNat)
  case atStart => exact ⟨1, l, by omega, hn, rfl, (fun p q h1 h2 => by omega), List.Perm.refl _, X0.out⟩
  case round =>
    obtain ⟨i, l1, hi1, hi, rfl, hr, hp, hX⟩ := hrel
    have X := hid hX
    have HP := hid hp
    have HR := hid hr
    clear hX hp hr X0
    by_cases hin : i < n
    · have HI := hid (Ins.start HR.out)
      go_wp2_with fail
      go_loopw [9] (fun jv wr => ∃ (j : Nat) (l' : List Int), j ≤ i ∧ jv = .int .i64 j ∧ Ins l' i j ∧ l'.Perm l ∧ Star w0 wr (numR g n cc l' :: L)) (fun jv _ => (intOf jv).toNat)
      case atStart => exact ⟨i, l1, by omega, rfl, HI.out, HP.out, X.out⟩
      case round =>
        obtain ⟨j, l2, hj, rfl, hI, hp2, hX⟩ := hrel
        have X2 := hid hX
        have HI2 := hid hI
        have HP2 := hid hp2
        clear hX hI hp2 X HI HP HR
        cases j with
        | zero =>
          have HD := hid (HI2.out.done (.inl rfl))
          go_wp2
          go_quiet (fail)
          go_wp2
          go_roundw
          case rel => exact ⟨i + 1, l2, by omega, by omega, by go_num, HD.out, HP2.out, X2.out.go ((Chg.refl _).drewN _)⟩
          case measure => simp [intOf]; omega
        | succ j =>
          rw [show ((j + 1 : Nat) : Int) = (j : Int) + 1 by omega]
          obtain ⟨hl2, e0, f0, gl⟩ := num_cell X2.out j (by omega)
          obtain ⟨-, e1, f1, -⟩ := num_cell X2.out (j + 1) (by omega)
          have hb1 : 0 ≤ (j : Int) ∧ (j : Int) < (n : Int) := by omega
          have hb2 : 0 ≤ (j : Int) + 1 ∧ (j : Int) + 1 < (n : Int) := by omega
          have hw4 : ((j : Int) + 1).toNat = j + 1 := by omega
          have hw1 : IntKind.i64.wrap ((j : Int) + 1) = (j : Int) + 1 := IntWalk.i64_in _ (by omega)
          have hw2 : IntKind.i64.wrap (j : Int) = (j : Int) := IntWalk.i64_in _ (by omega)
          have hw3 : (j : Int) + 1 - 1 = (j : Int) := by omega
          have HZ := hid (show cmpZ (at' l2 (j + 1)) (at' l2 j) = if at' l2 (j + 1) < at' l2 j then -1 else if at' l2 j < at' l2 (j + 1) then 1 else 0 from rfl)
          have HCMP := hid (fun w => cmp_same (at' l2 (j + 1)) (at' l2 j) w)
          obtain ⟨z, hz⟩ : ∃ z, z = cmpZ (at' l2 (j + 1)) (at' l2 j) := ⟨_, rfl⟩
          rw [← hz] at HZ HCMP
          clear hz
          by_cases hlt : at' l2 (j + 1) < at' l2 j
          · have hz : z < 0 := by rw [HZ.out, if_pos hlt]; omega
            have HI3 := hid (HI2.out.step (by omega) hj hlt)
            have HP3 := hid ((swp_perm l2 j (by omega)).trans HP2.out)
            have YS : Hid (∀ w', Same wr w' → Star w0 ((w'.setCell ⟨g, j + 1, none⟩ (.int .i64 (at' l2 j))).setCell ⟨g, j, none⟩ (.int .i64 (at' l2 (j + 1)))) (numR g n cc (swp l2 j) :: L)) := hid (fun w' hs => num_set (num_set (X2.out.go (w' := w') hs) (j + 1) (at' l2 j)) j (at' l2 (j + 1)))
            clear hlt
            generalize at' l2 (j + 1) = u1 at *
            generalize at' l2 j = u0 at *
            go_wp2
            go_quiet ((go_at_call 73; exact Calls.quiet_of_same (HCMP.out _)))
            go_wp2
            go_region
            all_goals
              go_wp2
              go_roundw
              case rel => exact ⟨j, _, by omega, rfl, HI3.out, HP3.out, YS.out _ (Chg.drewN _ (Chg.refl _))⟩
              case measure => simp [intOf]
          · have hz : ¬ z < 0 := by
              rw [HZ.out, if_neg hlt]
              split <;> omega
            have HD := hid (HI2.out.done (.inr (by simp only [Nat.add_sub_cancel]; omega)))
            clear hlt
            generalize at' l2 (j + 1) = u1 at *
            generalize at' l2 j = u0 at *
            go_wp2
            go_quiet ((go_at_call 73; exact Calls.quiet_of_same (HCMP.out _)))
            go_wp2
            go_roundw
            case rel => exact ⟨i + 1, l2, by omega, by omega, by go_num, HD.out, HP2.out, X2.out.go ((Chg.refl _).drewN _)⟩
            case measure => simp [intOf]; omega
    · obtain rfl : i = n := by omega
      go_wp2
      go_end0
      exact ⟨rfl, l1, HP.out, HR.out, X.out⟩
end
end Go.Proofs.YtilobedihjkpjaaDoor.Ord
