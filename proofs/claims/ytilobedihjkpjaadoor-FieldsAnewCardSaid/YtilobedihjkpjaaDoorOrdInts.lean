/-
  slices.SortFunc, slices.Compact and order.Ints on few whole numbers.
-/
import Derived.Test.YtilobedihjkpjaaDoorOrdSort
import Derived.Test.YtilobedihjkpjaaDoorCloneI
import Derived.Laws.CopyRow
namespace Go.Proofs.YtilobedihjkpjaaDoor.Ord
open Go Go.RowKit
theorem run_clear_tail {P : Program} (w : World) (t e ty : TypeId) (z : Value) (ht : P.underlying t = some (.slice e)) (hv : ∀ w, (zeroValue e).run P w = .ok z w) (hz : z.cells = #[z]) (h1 : z.oneCell' = true) {g n c k : Nat} {xs : List Value}
    (h : w.ownsRow 0 e 1 (.slice (some ⟨g, 0, none⟩) n c) n xs) (hk : k < n) (c' : Nat) :
    ∃ w', (Builtin.clear_ #[t] ty #[.slice (some ⟨g, k, none⟩) (n - k) c']).run P w = .ok (.tuple #[]) w' ∧ w'.ownsRow 0 e 1 (.slice (some ⟨g, 0, none⟩) k c) k (xs.take k) ∧ Chg (fun b => b = g) w w' := by
  rcases h.2 with ⟨h', _⟩ | ⟨g', cap', cur, h', hb, hg, hn, hm, hs, htk⟩
  · simp at h'
  · simp only [Value.slice.injEq, Option.some.injEq, Addr.mk.injEq, and_true, true_and] at h'
    obtain ⟨rfl, rfl⟩ := h'
    obtain ⟨m, hm'⟩ : ∃ m, n - k = m + 1 := ⟨n - k - 1, by omega⟩
    have hzl : (Builtin.zeroCells #[z] (n - k)).toList = List.replicate (n - k) z := by
      apply List.ext_getElem
      · simp [Builtin.zeroCells]
      · intro j a1 a2; simp [Builtin.zeroCells, Nat.mod_one]
    have hsz : cur.size = c := by omega
    have hst := run_storeCells_at (P := P) g k e (List.replicate (n - k) z) 0 cur w hg (by rw [List.length_replicate]; omega) (by intro v hv; rw [List.mem_replicate] at hv; rw [hv.2]; exact h1)
    obtain ⟨nw, hnw⟩ : ∃ nw : Array Value, nw = (cur.toList.take (k + 0) ++ List.replicate (n - k) z ++ cur.toList.drop (k + 0 + (List.replicate (n - k) z).length)).toArray := ⟨_, rfl⟩
    rw [← hnw] at hst
    refine ⟨w.setRow g nw, ?_, ⟨?_, .inr ⟨g, c, nw, rfl, hb, setRow_heap w g cur nw e _ hg, by omega, hm, ?_, ?_⟩⟩, Chg.setRow g nw (Chg.refl _) (fun _ => rfl)⟩
    · rw [← hzl] at hst
      unfold Builtin.clear_
      rw [hm'] at hst ⊢
      simp [run_underlying ht, hv, hz, hst]
    · rw [List.length_take, h.1]; omega
    · rw [hnw]
      simp only [List.size_toArray, List.length_append, List.length_take, List.length_drop, Array.length_toList, List.length_replicate]
      omega
    · rw [← htk, hnw]
      simp only [Nat.mul_one, Nat.add_zero, List.take_take]
      rw [Nat.min_eq_left (by omega), List.append_assoc, List.take_append_of_le_length (by simp; omega), List.take_take, Nat.min_self]
section
variable {w0 w : World} {L : List Res} {g n cc : Nat} {l : List Int}
set_option maxRecDepth 100000 in
theorem pdq_any (X : Star w0 w (numR g n cc l :: L)) (hn : 1 ≤ n) (h8 : n ≤ 8) (k : Int) : Calls Tryd.prog 99 #[.slice (some ⟨g, 0, none⟩) n cc, .int .i64 0, .int .i64 n, .int .i64 k, cmpV] w fun r w' => r = .returned (.tuple #[]) ∧ ∃ l', l'.Perm l ∧ Rise l' n ∧ Star w0 w' (numR g n cc l' :: L) := by
  have X0 := hid X
  clear X
  go_enter Tryd.func99, Tryd.ntmps99
  go_wp2
  refine wp_loop_rounds 1 ?_
  rw [rounds_succ]
  go_wp2_with fail
  refine (isort_any X0.out hn (by omega)).mono ?_
  rintro r w1 ⟨rfl, l', h1, h2, h3⟩
  have H1 := hid h1
  have H2 := hid h2
  have H3 := hid h3
  clear h1 h2 h3
  go_wp2
  refine bodyPost_ret (results_none rfl _ _ _) rfl ?_
  exact ⟨rfl, l', H1.out, H2.out, H3.out⟩
set_option maxRecDepth 100000 in
theorem sort_any (X : Star w0 w (numR g n cc l :: L)) (hn : 1 ≤ n) (h8 : n ≤ 8) : Calls Tryd.prog 87 #[.slice (some ⟨g, 0, none⟩) n cc, cmpV] w fun r w' => r = .returned (.tuple #[]) ∧ ∃ l', l'.Perm l ∧ Rise l' n ∧ Star w0 w' (numR g n cc l' :: L) := by
  have X0 := hid X
  clear X
  have hwu : IntKind.u64.wrap (n : Int) = (n : Int) := by simp only [IntKind.wrap, IntKind.bits, IntKind.signed]; simp; omega
  go_enter Tryd.func87, Tryd.ntmps87
  go_wp2_with fail
  refine (len_small n h8 _).mono ?_
  rintro r w' ⟨k, rfl, rfl⟩
  go_wp2_with fail
  refine (pdq_any X0.out hn h8 k).mono ?_
  rintro r w1 ⟨rfl, l', h1, h2, h3⟩
  have H1 := hid h1
  have H2 := hid h2
  have H3 := hid h3
  clear h1 h2 h3
  go_wp2
  go_end0
  exact ⟨rfl, l', H1.out, H2.out, H3.out⟩
end
theorem once_1 {l : List Int} (h : 1 ≤ l.length) : once l 1 = l.take 1 := by
  cases l with
  | nil => simp at h
  | cons x l => simp [once, at']
/-- The cells behind what was found twice. -/
def Left (l l' : List Int) (m j : Nat) : Prop := l'.length = l.length ∧ l'.take m = once l j ∧ ∀ i, j ≤ i + 1 → at' l' i = at' l i
theorem Left.step {l l' : List Int} {m j : Nat} (h : Left l l' m j) (hm : m = (once l j).length) (hmj : m < j) (hj : j < l.length) (hne : at' l j ≠ at' l (j - 1)) : Left l (l'.set m (at' l j)) (m + 1) (j + 1) ∧ m + 1 = (once l (j + 1)).length := by
  obtain ⟨a, b, c⟩ := h
  have ho : once l (j + 1) = once l j ++ [at' l j] := by rw [once, if_pos (.inr hne)]
  refine ⟨⟨by simpa using a, ?_, fun i hi => ?_⟩, by rw [ho]; simp [hm]⟩
  · rw [ho, ← b]
    apply List.ext_getElem?
    intro i
    rw [List.getElem?_take, List.getElem?_append, List.getElem?_take, List.length_take]
    have hmin : min m l'.length = m := by omega
    rw [hmin]
    by_cases h1 : i < m
    · rw [if_pos (by omega), if_pos h1, if_pos h1, List.getElem?_set_ne (by omega)]
    · rw [if_neg h1]
      by_cases h2 : i = m
      · subst h2; rw [if_pos (by omega), List.getElem?_set_self (by omega)]; simp
      · rw [if_neg (by omega)]
        have : i - m ≠ 0 := by omega
        rw [List.getElem?_eq_none (by simp; omega)]
  · have e : at' (l'.set m (at' l j)) i = at' l' i := by unfold at'; rw [List.getD_eq_getElem?_getD, List.getElem?_set_ne (by omega), List.getD_eq_getElem?_getD]
    rw [e]; exact c i (by omega)
theorem Left.pass {l l' : List Int} {m j : Nat} (h : Left l l' m j) (hm : m = (once l j).length) (hj0 : 0 < j) (he : at' l j = at' l (j - 1)) : Left l l' m (j + 1) ∧ m = (once l (j + 1)).length := by
  obtain ⟨a, b, c⟩ := h
  have ho : once l (j + 1) = once l j := by rw [once, if_neg (by rintro (h | h); omega; exact h he)]
  exact ⟨⟨a, by rw [ho]; exact b, fun i hi => c i (by omega)⟩, by rw [ho]; exact hm⟩
theorem zeroI (w : World) : (zeroValue 3).run Tryd.prog w = .ok (.int .i64 0) w := by kernel_rfl
section
variable {w0 w : World} {L : List Res} {g n cc : Nat} {l : List Int}
theorem num_clear (X : Star w0 w (numR g n cc l :: L)) (m : Nat) (hm : m < n) (c' : Nat) : ∃ w', (Builtin.clear_ #[24] 0 #[.slice (some ⟨g, m, none⟩) (n - m) c']).run Tryd.prog w = .ok (.tuple #[]) w' ∧ Star w0 w' (numR g m cc (l.take m) :: L) := by
  obtain ⟨F, ⟨h, rfl⟩, h2, h3⟩ := X.at 0 rfl
  obtain ⟨w', a, b, c⟩ := run_clear_tail (P := Tryd.prog) w 24 3 0 (.int .i64 0) Tryd.underlying24 zeroI rfl rfl h hm c'
  refine ⟨w', a, h3 w' (numR g m cc (l.take m)) _ ⟨by rw [List.map_take]; exact b, rfl⟩ (c.mono (fun k _ e => by subst e; rfl)) (fun k f => .inl (by simpa [Value.ownBlock] using f))⟩
set_option maxRecDepth 100000 in
set_option maxHeartbeats 4000000 in
theorem compact_any (X : Star w0 w (numR g n cc l :: L)) (hn : 1 ≤ n) (h8 : n ≤ 1000) : Calls Tryd.prog 88 #[.slice (some ⟨g, 0, none⟩) n cc] w fun r w' => ∃ m, m = (once l n).length ∧ r = .returned (.slice (some ⟨g, 0, none⟩) m cc) ∧ Star w0 w' (numR g m cc (once l n) :: L) := by
  have X0 := hid X
  have hln : l.length = n := (num_cell X 0 (by omega)).1
  have hcap := own_cap (X.row 0 rfl).1
  have HLN := hid hln
  clear X hln
  go_enter Tryd.func88, Tryd.ntmps88
  by_cases h1 : n < 2
  · obtain rfl : n = 1 := by omega
    have HO := hid (show once l 1 = l by rw [once_1 (by rw [HLN.out]; omega), List.take_of_length_le (by rw [HLN.out]; omega)])
    go_wp2
    go_ret
    exact ⟨1, by rw [HO.out, HLN.out], rfl, by rw [HO.out]; exact X0.out⟩
  · go_wp2_with fail
    go_loopw [3] (fun iv wr => ∃ k : Nat, 1 ≤ k ∧ k ≤ n ∧ iv = .int .i64 k ∧ once l k = l.take k ∧ Star w0 wr (numR g n cc l :: L)) (fun iv _ => n - (intOf iv).toNat)
    case atStart => exact ⟨1, by omega, by omega, rfl, once_1 (by rw [HLN.out]; omega), X0.out⟩
    case round =>
      obtain ⟨k, hk1, hk, rfl, ho, hX⟩ := hrel
      have X := hid hX
      have HO := hid ho
      clear hX ho X0
      by_cases hkn : k < n
      · obtain ⟨j, rfl⟩ : ∃ j, k = j + 1 := ⟨k - 1, by omega⟩
        rw [show ((j + 1 : Nat) : Int) = (j : Int) + 1 by omega]
        obtain ⟨-, e0, f0, gl⟩ := num_cell X.out j (by omega)
        obtain ⟨-, e1, f1, -⟩ := num_cell X.out (j + 1) (by omega)
        have hb1 : 0 ≤ (j : Int) ∧ (j : Int) < (n : Int) := by omega
        have hb2 : 0 ≤ (j : Int) + 1 ∧ (j : Int) + 1 < (n : Int) := by omega
        have hw4 : ((j : Int) + 1).toNat = j + 1 := by omega
        have hw1 : IntKind.i64.wrap ((j : Int) + 1) = (j : Int) + 1 := IntWalk.i64_in _ (by omega)
        have hw2 : IntKind.i64.wrap (j : Int) = (j : Int) := IntWalk.i64_in _ (by omega)
        have hw3 : (j : Int) + 1 - 1 = (j : Int) := by omega
        by_cases he : at' l (j + 1) = at' l j
        · have he' : (at' l (j + 1) == at' l j) = true := by simpa using he
          have HE := hid he
          clear he
          have hst : Left l l (j + 1) (j + 2) ∧ j + 1 = (once l (j + 2)).length := by
            have hp : Left l l (j + 1) (j + 1) := ⟨rfl, HO.out.symm, fun i _ => rfl⟩
            exact hp.pass (by rw [HO.out, List.length_take, HLN.out]; omega) (by omega) (by rw [Nat.add_sub_cancel]; exact HE.out)
          have HST := hid hst
          have hcj : ¬ cc = j + 1 := by omega
          clear hst
          generalize at' l (j + 1) = u1 at *
          generalize at' l j = u0 at *
          go_wp2
          go_quiet (fail)
          have X2 := hid (X.out.go ((Chg.refl _).drewN nq))
          clear X e0 f0 e1 f1 gl
          generalize wr.drewN nq = w2 at *
          go_wp2_with fail
          go_loopw [3, 5] (fun mv kv wr => ∃ (m e : Nat) (l' : List Int), j + 1 + (e + 1) ≤ n ∧ mv = .int .i64 m ∧ kv = .int .i64 ((e : Int) + 1) ∧ m < j + 1 + (e + 1) ∧ Left l l' m (j + 1 + (e + 1)) ∧ m = (once l (j + 1 + (e + 1))).length ∧ Star w0 wr (numR g n cc l' :: L)) (fun _ kv _ => n - (intOf kv).toNat)
          case atStart => exact ⟨j + 1, 0, l, by omega, by go_num, by go_num, by omega, HST.out.1, HST.out.2, X2.out⟩
          case round =>
            obtain ⟨m, e, l', he, rfl, rfl, hmj, hL, hm, hX⟩ := hrel
            have X := hid hX
            have HL := hid hL
            have HM := hid hm
            clear hX hL hm X2 HST
            by_cases hen : j + 1 + (e + 1) < n
            · have hll : l'.length = n := by rw [HL.out.1, HLN.out]
              obtain ⟨-, a0, b0, gl⟩ := num_cell X.out (j + 1 + e) (by omega)
              obtain ⟨-, a1, b1, -⟩ := num_cell X.out (j + 1 + (e + 1)) (by omega)
              obtain ⟨-, a2, b2, -⟩ := num_cell X.out m (by omega)
              have r0 := HL.out.2.2 (j + 1 + e) (by omega)
              have r1 := HL.out.2.2 (j + 1 + (e + 1)) (by omega)
              rw [r0] at a0
              rw [r1] at a1
              clear r0 r1
              have hc1 : 0 ≤ (e : Int) ∧ (e : Int) < ((n - (j + 1) : Nat) : Int) := by omega
              have hc2 : 0 ≤ (e : Int) + 1 ∧ (e : Int) + 1 < ((n - (j + 1) : Nat) : Int) := by omega
              have hv4 : ((e : Int) + 1).toNat = e + 1 := by omega
              have hv1 : IntKind.i64.wrap ((e : Int) + 1) = (e : Int) + 1 := IntWalk.i64_in _ (by omega)
              have hv2 : IntKind.i64.wrap (e : Int) = (e : Int) := IntWalk.i64_in _ (by omega)
              have hv3 : (e : Int) + 1 - 1 = (e : Int) := by omega
              have hmn : m < n := by omega
              by_cases hq : at' l (j + 1 + (e + 1)) = at' l (j + 1 + e)
              · have hq' : (at' l (j + 1 + (e + 1)) != at' l (j + 1 + e)) = false := by simpa using hq
                have HP := hid (HL.out.pass HM.out (by omega) (by rw [show j + 1 + (e + 1) - 1 = j + 1 + e by omega]; exact hq))
                clear hq
                generalize at' l (j + 1 + (e + 1)) = v1 at *
                generalize at' l (j + 1 + e) = v0 at *
                generalize at' l' m = vm at *
                go_wp2
                go_quiet (fail)
                go_wp2
                go_roundw
                case rel => exact ⟨m, e + 1, l', by omega, rfl, by go_num, by omega, HP.out.1, HP.out.2, X.out.go ((Chg.refl _).drewN _)⟩
                case measure => simp [intOf]; omega
              · have hq' : (at' l (j + 1 + (e + 1)) != at' l (j + 1 + e)) = true := by simpa using hq
                have HP := hid (HL.out.step HM.out hmj (by rw [HLN.out]; omega) (by rw [show j + 1 + (e + 1) - 1 = j + 1 + e by omega]; exact hq))
                have YS : Hid (∀ w', Same wr w' → Star w0 (w'.setCell ⟨g, m, none⟩ (.int .i64 (at' l (j + 1 + (e + 1))))) (numR g n cc (l'.set m (at' l (j + 1 + (e + 1)))) :: L)) := hid (fun w' hs => num_set (X.out.go (w' := w') hs) m _)
                obtain ⟨lz, hlz⟩ : ∃ lz, lz = l'.set m (at' l (j + 1 + (e + 1))) := ⟨_, rfl⟩
                rw [← hlz] at HP YS
                clear hq hlz
                generalize at' l (j + 1 + (e + 1)) = v1 at *
                generalize at' l (j + 1 + e) = v0 at *
                generalize at' l' m = vm at *
                go_wp2
                go_quiet (fail)
                go_wp2
                go_roundw
                case rel => exact ⟨m + 1, e + 1, lz, by omega, by go_num, by go_num, by omega, HP.out.1, HP.out.2, YS.out _ (Chg.drewN _ (Chg.refl _))⟩
                case measure => simp [intOf]; omega
            · have hjn : j + 1 + (e + 1) = n := by omega
              have hcm : ¬ cc = m := by omega
              have hmn : m < n := by omega
              obtain ⟨w9, hclr, hX9⟩ := num_clear X.out m hmn (cc - m)
              rw [HL.out.2.1, hjn] at hX9
              have HM2 := hid HM.out
              rw [hjn] at HM2
              have X9 := hid hX9
              clear hX9 X HL HM
              go_wp2
              go_ret
              exact ⟨m, HM2.out, rfl, X9.out⟩
        · have he' : (at' l (j + 1) == at' l j) = false := by simpa using he
          have HO2 := hid (show once l (j + 2) = l.take (j + 2) by
            rw [once, if_pos (.inr (by rw [Nat.add_sub_cancel]; exact he)), HO.out, List.take_succ_eq_append_getElem (i := j + 1) (by rw [HLN.out]; omega)]
            simp [at', List.getD, show j + 1 < l.length by rw [HLN.out]; omega])
          clear he
          generalize at' l (j + 1) = u1 at *
          generalize at' l j = u0 at *
          go_wp2
          go_quiet (fail)
          go_wp2
          go_roundw
          case rel => exact ⟨j + 2, by omega, by omega, by go_num, HO2.out, X.out.go ((Chg.refl _).drewN _)⟩
          case measure => simp [intOf]; omega
      · obtain rfl : k = n := by omega
        have HO2 := hid (show once l k = l by rw [HO.out, List.take_of_length_le (by rw [HLN.out]; omega)])
        go_wp2
        go_ret
        exact ⟨k, by rw [HO2.out, HLN.out], rfl, by rw [HO2.out]; exact X.out⟩

theorem mem_at {l : List Int} {x : Int} : x ∈ l ↔ ∃ i, i < l.length ∧ at' l i = x := by
  constructor
  · intro h
    obtain ⟨i, hi, rfl⟩ := List.mem_iff_getElem.1 h
    exact ⟨i, hi, by simp [at', List.getD, hi]⟩
  · rintro ⟨i, hi, rfl⟩
    exact List.mem_of_getElem? (at_get hi)
/-- In order, each once. -/
structure OrdOf (xs l : List Int) : Prop where
  mem : ∀ x, x ∈ l ↔ x ∈ xs
  rise : l.Pairwise (· < ·)
  pos : 1 ≤ l.length
  le : l.length ≤ xs.length
theorem OrdOf.of {xs l : List Int} (hp : l.Perm xs) (hr : Rise l l.length) (h1 : 1 ≤ l.length) : OrdOf xs (once l l.length) :=
  ⟨fun x => by rw [once_mem _ (Nat.le_refl _), ← mem_at, hp.mem_iff], (once_rise _ (Nat.le_refl _) hr).1, once_pos l _ h1, by have := once_le l l.length; have := hp.length_eq; omega⟩
set_option maxRecDepth 100000 in
set_option maxHeartbeats 4000000 in
theorem ordInts_any (w : World) (xs : List Int) (v : Value) (hr : Ints w v xs) (h1 : 1 ≤ xs.length) (h8 : xs.length ≤ 8) : Calls Tryd.prog 47 #[v] w fun r w' => ∃ g cc l, OrdOf xs l ∧ r = .returned (.slice (some ⟨g, 0, none⟩) l.length cc) ∧ Star w w' [numR g l.length cc l] := by
  obtain ⟨av, cv, rfl⟩ := hr.slice
  have HR := hid hr
  have H1 := hid h1
  obtain ⟨n, hn⟩ : ∃ n, n = xs.length := ⟨_, rfl⟩
  have HN := hid hn
  rw [← hn] at HR h1 h8 ⊢
  clear hr hn
  go_enter Tryd.func47, Tryd.ntmps47
  go_wp2_with fail
  refine (show Calls Tryd.prog 72 #[.slice av n cv, cmpV] w (fun r w' => ∃ g cc l, OrdOf xs l ∧ r = .returned (.slice (some ⟨g, 0, none⟩) l.length cc) ∧ Star w w' [numR g l.length cc l]) from ?_).mono ?_
  · go_enter Tryd.func72, Tryd.ntmps72
    go_wp2_with fail
    refine (CloneI.clone_any _ n (xs.map (Value.int .i64)) _ (by have h := HR.out; unfold Ints at h; rw [← HN.out] at h; exact h) (by intro u hu; simp at hu; obtain ⟨i, _, rfl⟩ := hu; rfl) (by omega)).mono ?_
    rintro r w1 ⟨v1, rfl, hf, hs⟩
    have X1 := hid ((Star.new w).fresh hf hs)
    obtain ⟨g, cc, rfl⟩ := own_shape hf.1 (by omega)
    clear hf hs
    go_wp2_with fail
    refine (sort_any X1.out h1 h8).mono ?_
    rintro r w2 ⟨rfl, l2, hp2, hr2, hX2⟩
    have X2 := hid hX2
    have hl2 : l2.length = n := by rw [hp2.length_eq, HN.out]
    have HO := hid (show OrdOf xs (once l2 n) by
      have h := OrdOf.of hp2 (by rw [hl2]; exact hr2) (by omega)
      rw [hl2] at h
      exact h)
    clear hX2 hp2 hr2 X1
    go_wp2_with fail
    refine (compact_any X2.out h1 (by omega)).mono ?_
    rintro r w3 ⟨m, hm, rfl, hX3⟩
    have X3 := hid hX3
    have HM := hid hm
    clear hX3 hm X2
    go_wp2
    go_ret
    exact ⟨g, cc, once l2 n, HO.out, by rw [← HM.out]; rfl, by rw [← HM.out]; exact X3.out⟩
  · rintro r w1 ⟨g, cc, l, ho, rfl, hX⟩
    have X := hid hX
    have HO := hid ho
    clear hX ho
    go_wp2
    go_ret
    exact ⟨g, cc, l, HO.out, rfl, X.out⟩
end
end Go.Proofs.YtilobedihjkpjaaDoor.Ord
