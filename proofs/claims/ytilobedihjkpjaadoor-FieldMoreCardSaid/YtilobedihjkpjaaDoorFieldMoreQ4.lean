/-
  FieldMore: the texts OrdInts, GrPlain, Ground, joined.
-/
import Derived.Test.YtilobedihjkpjaaDoorFieldMoreQ3
import Derived.Laws.CopyRow
import Derived.Test.YtilobedihjkpjaaDoorFieldMoreQ1
import Derived.Test.YtilobedihjkpjaaDoorProg
import Derived.Test.YtilobedihjkpjaaDoorFieldMoreQ2

/-
  slices.SortFunc, slices.Compact and order.Ints on few whole numbers.
-/
namespace Go.Proofs.YtilobedihjkpjaaDoor.Ord
open Go Go.RowKit
theorem run_clear_tail {P : Program} (w : World) (t e ty : TypeId) (z : Value) (ht : P.underlying t = some (.slice e)) (hv : ∀ w, (zeroValue e).run P w = .ok z w) (hz : z.cells = #[z]) (h1 : z.oneCell' = true) {g n c k : Nat} {xs : List Value}
    (h : w.ownsRow 0 e 1 (.slice (some ⟨g, 0, none⟩) n c) n xs) (hk : k < n) (c' : Nat) :
    ∃ w', (Builtin.clear_ #[t] ty #[.slice (some ⟨g, k, none⟩) (n - k) c']).run P w = .ok (.tuple #[]) w' ∧ w'.ownsRow 0 e 1 (.slice (some ⟨g, 0, none⟩) k c) k (xs.take k) ∧ Chg (fun b => b = g) w w' := by
  rcases h.2 with ⟨h', _⟩ | ⟨g', cap', cur, h', hb, hg, hn, hm, hs, htk⟩
  · simp at h'
  · simp only [Value.slice.injEq, Option.some.injEq, Addr.mk.injEq, and_true, true_and] at h'
    obtain ⟨rfl, rfl⟩ := h'
    obtain ⟨m, hm'⟩ : ∃ m, n - k = m + 1 := ⟨n - k - 1, by omega⟩
    have hzl : (Builtin.zeroCells #[z] (n - k)).toList = List.replicate (n - k) z := by
      apply List.ext_getElem
      · simp [Builtin.zeroCells]
      · intro j a1 a2; simp [Builtin.zeroCells, Nat.mod_one]
    have hsz : cur.size = c := by omega
    have hst := run_storeCells_at (P := P) g k e (List.replicate (n - k) z) 0 cur w hg (by rw [List.length_replicate]; omega) (by intro v hv; rw [List.mem_replicate] at hv; rw [hv.2]; exact h1)
    obtain ⟨nw, hnw⟩ : ∃ nw : Array Value, nw = (cur.toList.take (k + 0) ++ List.replicate (n - k) z ++ cur.toList.drop (k + 0 + (List.replicate (n - k) z).length)).toArray := ⟨_, rfl⟩
    rw [← hnw] at hst
    refine ⟨w.setRow g nw, ?_, ⟨?_, .inr ⟨g, c, nw, rfl, hb, setRow_heap w g cur nw e _ hg, by omega, hm, ?_, ?_⟩⟩, Chg.setRow g nw (Chg.refl _) (fun _ => rfl)⟩
    · rw [← hzl] at hst
      unfold Builtin.clear_
      rw [hm'] at hst ⊢
      simp [run_underlying ht, hv, hz, hst]
    · rw [List.length_take, h.1]; omega
    · rw [hnw]
      simp only [List.size_toArray, List.length_append, List.length_take, List.length_drop, Array.length_toList, List.length_replicate]
      omega
    · rw [← htk, hnw]
      simp only [Nat.mul_one, Nat.add_zero, List.take_take]
      rw [Nat.min_eq_left (by omega), List.append_assoc, List.take_append_of_le_length (by simp; omega), List.take_take, Nat.min_self]
section
variable {w0 w : World} {L : List Res} {g n cc : Nat} {l : List Int}
set_option maxRecDepth 100000 in
theorem pdq_any (X : Star w0 w (numR g n cc l :: L)) (hn : 1 ≤ n) (h8 : n ≤ 8) (k : Int) : Calls Tryd.prog 99 #[.slice (some ⟨g, 0, none⟩) n cc, .int .i64 0, .int .i64 n, .int .i64 k, cmpV] w fun r w' => r = .returned (.tuple #[]) ∧ ∃ l', l'.Perm l ∧ Rise l' n ∧ Star w0 w' (numR g n cc l' :: L) := by
  have X0 := hid X
  clear X
  go_enter Tryd.func99, Tryd.ntmps99
  go_wp2
  refine wp_loop_rounds 1 ?_
  rw [rounds_succ]
  go_wp2_with fail
  refine (isort_any X0.out hn (by omega)).mono ?_
  rintro r w1 ⟨rfl, l', h1, h2, h3⟩
  have H1 := hid h1
  have H2 := hid h2
  have H3 := hid h3
  clear h1 h2 h3
  go_wp2
  refine bodyPost_ret (results_none rfl _ _ _) rfl ?_
  exact ⟨rfl, l', H1.out, H2.out, H3.out⟩
set_option maxRecDepth 100000 in
theorem sort_any (X : Star w0 w (numR g n cc l :: L)) (hn : 1 ≤ n) (h8 : n ≤ 8) : Calls Tryd.prog 87 #[.slice (some ⟨g, 0, none⟩) n cc, cmpV] w fun r w' => r = .returned (.tuple #[]) ∧ ∃ l', l'.Perm l ∧ Rise l' n ∧ Star w0 w' (numR g n cc l' :: L) := by
  have X0 := hid X
  clear X
  have hwu : IntKind.u64.wrap (n : Int) = (n : Int) := by simp only [IntKind.wrap, IntKind.bits, IntKind.signed]; simp; omega
  go_enter Tryd.func87, Tryd.ntmps87
  go_wp2_with fail
  refine (len_small n h8 _).mono ?_
  rintro r w' ⟨k, rfl, rfl⟩
  go_wp2_with fail
  refine (pdq_any X0.out hn h8 k).mono ?_
  rintro r w1 ⟨rfl, l', h1, h2, h3⟩
  have H1 := hid h1
  have H2 := hid h2
  have H3 := hid h3
  clear h1 h2 h3
  go_wp2
  go_end0
  exact ⟨rfl, l', H1.out, H2.out, H3.out⟩
end
theorem once_1 {l : List Int} (h : 1 ≤ l.length) : once l 1 = l.take 1 := by
  cases l with
  | nil => simp at h
  | cons x l => simp [once, at']
/-- The cells behind what was found twice. -/
def Left (l l' : List Int) (m j : Nat) : Prop := l'.length = l.length ∧ l'.take m = once l j ∧ ∀ i, j ≤ i + 1 → at' l' i = at' l i
theorem Left.step {l l' : List Int} {m j : Nat} (h : Left l l' m j) (hm : m = (once l j).length) (hmj : m < j) (hj : j < l.length) (hne : at' l j ≠ at' l (j - 1)) : Left l (l'.set m (at' l j)) (m + 1) (j + 1) ∧ m + 1 = (once l (j + 1)).length := by
  obtain ⟨a, b, c⟩ := h
  have ho : once l (j + 1) = once l j ++ [at' l j] := by rw [once, if_pos (.inr hne)]
  refine ⟨⟨by simpa using a, ?_, fun i hi => ?_⟩, by rw [ho]; simp [hm]⟩
  · rw [ho, ← b]
    apply List.ext_getElem?
    intro i
    rw [List.getElem?_take, List.getElem?_append, List.getElem?_take, List.length_take]
    have hmin : min m l'.length = m := by omega
    rw [hmin]
    by_cases h1 : i < m
    · rw [if_pos (by omega), if_pos h1, if_pos h1, List.getElem?_set_ne (by omega)]
    · rw [if_neg h1]
      by_cases h2 : i = m
      · subst h2; rw [if_pos (by omega), List.getElem?_set_self (by omega)]; simp
      · rw [if_neg (by omega)]
        have : i - m ≠ 0 := by omega
        rw [List.getElem?_eq_none (by simp; omega)]
  · have e : at' (l'.set m (at' l j)) i = at' l' i := by unfold at'; rw [List.getD_eq_getElem?_getD, List.getElem?_set_ne (by omega), List.getD_eq_getElem?_getD]
    rw [e]; exact c i (by omega)
theorem Left.pass {l l' : List Int} {m j : Nat} (h : Left l l' m j) (hm : m = (once l j).length) (hj0 : 0 < j) (he : at' l j = at' l (j - 1)) : Left l l' m (j + 1) ∧ m = (once l (j + 1)).length := by
  obtain ⟨a, b, c⟩ := h
  have ho : once l (j + 1) = once l j := by rw [once, if_neg (by rintro (h | h); omega; exact h he)]
  exact ⟨⟨a, by rw [ho]; exact b, fun i hi => c i (by omega)⟩, by rw [ho]; exact hm⟩
theorem zeroI (w : World) : (zeroValue 3).run Tryd.prog w = .ok (.int .i64 0) w := by kernel_rfl
section
variable {w0 w : World} {L : List Res} {g n cc : Nat} {l : List Int}
theorem num_clear (X : Star w0 w (numR g n cc l :: L)) (m : Nat) (hm : m < n) (c' : Nat) : ∃ w', (Builtin.clear_ #[24] 0 #[.slice (some ⟨g, m, none⟩) (n - m) c']).run Tryd.prog w = .ok (.tuple #[]) w' ∧ Star w0 w' (numR g m cc (l.take m) :: L) := by
  obtain ⟨F, ⟨h, rfl⟩, h2, h3⟩ := X.at 0 rfl
  obtain ⟨w', a, b, c⟩ := run_clear_tail (P := Tryd.prog) w 24 3 0 (.int .i64 0) Tryd.underlying24 zeroI rfl rfl h hm c'
  refine ⟨w', a, h3 w' (numR g m cc (l.take m)) _ ⟨by rw [List.map_take]; exact b, rfl⟩ (c.mono (fun k _ e => by subst e; rfl)) (fun k f => .inl (by simpa [Value.ownBlock] using f))⟩
set_option maxRecDepth 100000 in
set_option maxHeartbeats 4000000 in
theorem compact_any (X : Star w0 w (numR g n cc l :: L)) (hn : 1 ≤ n) (h8 : n ≤ 1000) : Calls Tryd.prog 88 #[.slice (some ⟨g, 0, none⟩) n cc] w fun r w' => ∃ m, m = (once l n).length ∧ r = .returned (.slice (some ⟨g, 0, none⟩) m cc) ∧ Star w0 w' (numR g m cc (once l n) :: L) := by
  have X0 := hid X
  have hln : l.length = n := (num_cell X 0 (by omega)).1
  have hcap := own_cap (X.row 0 rfl).1
  have HLN := hid hln
  clear X hln
  go_enter Tryd.func88, Tryd.ntmps88
  by_cases h1 : n < 2
  · obtain rfl : n = 1 := by omega
    have HO := hid (show once l 1 = l by rw [once_1 (by rw [HLN.out]; omega), List.take_of_length_le (by rw [HLN.out]; omega)])
    go_wp2
    go_ret
    exact ⟨1, by rw [HO.out, HLN.out], rfl, by rw [HO.out]; exact X0.out⟩
  · go_wp2_with fail
    go_loopw [3] (fun iv wr => ∃ k : Nat, 1 ≤ k ∧ k ≤ n ∧ iv = .int .i64 k ∧ once l k = l.take k ∧ Star w0 wr (numR g n cc l :: L)) (fun iv _ => n - (intOf iv).toNat)
    case atStart => exact ⟨1, by omega, by omega, rfl, once_1 (by rw [HLN.out]; omega), X0.out⟩
    case round =>
      obtain ⟨k, hk1, hk, rfl, ho, hX⟩ := hrel
      have X := hid hX
      have HO := hid ho
      clear hX ho X0
      by_cases hkn : k < n
      · obtain ⟨j, rfl⟩ : ∃ j, k = j + 1 := ⟨k - 1, by omega⟩
        rw [show ((j + 1 : Nat) : Int) = (j : Int) + 1 by omega]
        obtain ⟨-, e0, f0, gl⟩ := num_cell X.out j (by omega)
        obtain ⟨-, e1, f1, -⟩ := num_cell X.out (j + 1) (by omega)
        have hb1 : 0 ≤ (j : Int) ∧ (j : Int) < (n : Int) := by omega
        have hb2 : 0 ≤ (j : Int) + 1 ∧ (j : Int) + 1 < (n : Int) := by omega
        have hw4 : ((j : Int) + 1).toNat = j + 1 := by omega
        have hw1 : IntKind.i64.wrap ((j : Int) + 1) = (j : Int) + 1 := IntWalk.i64_in _ (by omega)
        have hw2 : IntKind.i64.wrap (j : Int) = (j : Int) := IntWalk.i64_in _ (by omega)
        have hw3 : (j : Int) + 1 - 1 = (j : Int) := by omega
        by_cases he : at' l (j + 1) = at' l j
        · have he' : (at' l (j + 1) == at' l j) = true := by simpa using he
          have HE := hid he
          clear he
          have hst : Left l l (j + 1) (j + 2) ∧ j + 1 = (once l (j + 2)).length := by
            have hp : Left l l (j + 1) (j + 1) := ⟨rfl, HO.out.symm, fun i _ => rfl⟩
            exact hp.pass (by rw [HO.out, List.length_take, HLN.out]; omega) (by omega) (by rw [Nat.add_sub_cancel]; exact HE.out)
          have HST := hid hst
          have hcj : ¬ cc = j + 1 := by omega
          clear hst
          generalize at' l (j + 1) = u1 at *
          generalize at' l j = u0 at *
          go_wp2
          go_quiet (fail)
          have X2 := hid (X.out.go ((Chg.refl _).drewN nq))
          clear X e0 f0 e1 f1 gl
          generalize wr.drewN nq = w2 at *
          go_wp2_with fail
          go_loopw [3, 5] (fun mv kv wr => ∃ (m e : Nat) (l' : List Int), j + 1 + (e + 1) ≤ n ∧ mv = .int .i64 m ∧ kv = .int .i64 ((e : Int) + 1) ∧ m < j + 1 + (e + 1) ∧ Left l l' m (j + 1 + (e + 1)) ∧ m = (once l (j + 1 + (e + 1))).length ∧ Star w0 wr (numR g n cc l' :: L)) (fun _ kv _ => n - (intOf kv).toNat)
          case atStart => exact ⟨j + 1, 0, l, by omega, by go_num, by go_num, by omega, HST.out.1, HST.out.2, X2.out⟩
          case round =>
            obtain ⟨m, e, l', he, rfl, rfl, hmj, hL, hm, hX⟩ := hrel
            have X := hid hX
            have HL := hid hL
            have HM := hid hm
            clear hX hL hm X2 HST
            by_cases hen : j + 1 + (e + 1) < n
            · have hll : l'.length = n := by rw [HL.out.1, HLN.out]
              obtain ⟨-, a0, b0, gl⟩ := num_cell X.out (j + 1 + e) (by omega)
              obtain ⟨-, a1, b1, -⟩ := num_cell X.out (j + 1 + (e + 1)) (by omega)
              obtain ⟨-, a2, b2, -⟩ := num_cell X.out m (by omega)
              have r0 := HL.out.2.2 (j + 1 + e) (by omega)
              have r1 := HL.out.2.2 (j + 1 + (e + 1)) (by omega)
              rw [r0] at a0
              rw [r1] at a1
              clear r0 r1
              have hc1 : 0 ≤ (e : Int) ∧ (e : Int) < ((n - (j + 1) : Nat) : Int) := by omega
              have hc2 : 0 ≤ (e : Int) + 1 ∧ (e : Int) + 1 < ((n - (j + 1) : Nat) : Int) := by omega
              have hv4 : ((e : Int) + 1).toNat = e + 1 := by omega
              have hv1 : IntKind.i64.wrap ((e : Int) + 1) = (e : Int) + 1 := IntWalk.i64_in _ (by omega)
              have hv2 : IntKind.i64.wrap (e : Int) = (e : Int) := IntWalk.i64_in _ (by omega)
              have hv3 : (e : Int) + 1 - 1 = (e : Int) := by omega
              have hmn : m < n := by omega
              by_cases hq : at' l (j + 1 + (e + 1)) = at' l (j + 1 + e)
              · have hq' : (at' l (j + 1 + (e + 1)) != at' l (j + 1 + e)) = false := by simpa using hq
                have HP := hid (HL.out.pass HM.out (by omega) (by rw [show j + 1 + (e + 1) - 1 = j + 1 + e by omega]; exact hq))
                clear hq
                generalize at' l (j + 1 + (e + 1)) = v1 at *
                generalize at' l (j + 1 + e) = v0 at *
                generalize at' l' m = vm at *
                go_wp2
                go_quiet (fail)
                go_wp2
                go_roundw
                case rel => exact ⟨m, e + 1, l', by omega, rfl, by go_num, by omega, HP.out.1, HP.out.2, X.out.go ((Chg.refl _).drewN _)⟩
                case measure => simp [intOf]; omega
              · have hq' : (at' l (j + 1 + (e + 1)) != at' l (j + 1 + e)) = true := by simpa using hq
                have HP := hid (HL.out.step HM.out hmj (by rw [HLN.out]; omega) (by rw [show j + 1 + (e + 1) - 1 = j + 1 + e by omega]; exact hq))
                have YS : Hid (∀ w', Same wr w' → Star w0 (w'.setCell ⟨g, m, none⟩ (.int .i64 (at' l (j + 1 + (e + 1))))) (numR g n cc (l'.set m (at' l (j + 1 + (e + 1)))) :: L)) := hid (fun w' hs => num_set (X.out.go (w' := w') hs) m _)
                obtain ⟨lz, hlz⟩ : ∃ lz, lz = l'.set m (at' l (j + 1 + (e + 1))) := ⟨_, rfl⟩
                rw [← hlz] at HP YS
                clear hq hlz
                generalize at' l (j + 1 + (e + 1)) = v1 at *
                generalize at' l (j + 1 + e) = v0 at *
                generalize at' l' m = vm at *
                go_wp2
                go_quiet (fail)
                go_wp2
                go_roundw
                case rel => exact ⟨m + 1, e + 1, lz, by omega, by go_num, by go_num, by omega, HP.out.1, HP.out.2, YS.out _ (Chg.drewN _ (Chg.refl _))⟩
                case measure => simp [intOf]; omega
            · have hjn : j + 1 + (e + 1) = n := by omega
              have hcm : ¬ cc = m := by omega
              have hmn : m < n := by omega
              obtain ⟨w9, hclr, hX9⟩ := num_clear X.out m hmn (cc - m)
              rw [HL.out.2.1, hjn] at hX9
              have HM2 := hid HM.out
              rw [hjn] at HM2
              have X9 := hid hX9
              clear hX9 X HL HM
              go_wp2
              go_ret
              exact ⟨m, HM2.out, rfl, X9.out⟩
        · have he' : (at' l (j + 1) == at' l j) = false := by simpa using he
          have HO2 := hid (show once l (j + 2) = l.take (j + 2) by
            rw [once, if_pos (.inr (by rw [Nat.add_sub_cancel]; exact he)), HO.out, List.take_succ_eq_append_getElem (i := j + 1) (by rw [HLN.out]; omega)]
            simp [at', List.getD, show j + 1 < l.length by rw [HLN.out]; omega])
          clear he
          generalize at' l (j + 1) = u1 at *
          generalize at' l j = u0 at *
          go_wp2
          go_quiet (fail)
          go_wp2
          go_roundw
          case rel => exact ⟨j + 2, by omega, by omega, by go_num, HO2.out, X.out.go ((Chg.refl _).drewN _)⟩
          case measure => simp [intOf]; omega
      · obtain rfl : k = n := by omega
        have HO2 := hid (show once l k = l by rw [HO.out, List.take_of_length_le (by rw [HLN.out]; omega)])
        go_wp2
        go_ret
        exact ⟨k, by rw [HO2.out, HLN.out], rfl, by rw [HO2.out]; exact X.out⟩

theorem mem_at {l : List Int} {x : Int} : x ∈ l ↔ ∃ i, i < l.length ∧ at' l i = x := by
  constructor
  · intro h
    obtain ⟨i, hi, rfl⟩ := List.mem_iff_getElem.1 h
    exact ⟨i, hi, by simp [at', List.getD, hi]⟩
  · rintro ⟨i, hi, rfl⟩
    exact List.mem_of_getElem? (at_get hi)
/-- In order, each once. -/
structure OrdOf (xs l : List Int) : Prop where
  mem : ∀ x, x ∈ l ↔ x ∈ xs
  rise : l.Pairwise (· < ·)
  pos : 1 ≤ l.length
  le : l.length ≤ xs.length
theorem OrdOf.of {xs l : List Int} (hp : l.Perm xs) (hr : Rise l l.length) (h1 : 1 ≤ l.length) : OrdOf xs (once l l.length) :=
  ⟨fun x => by rw [once_mem _ (Nat.le_refl _), ← mem_at, hp.mem_iff], (once_rise _ (Nat.le_refl _) hr).1, once_pos l _ h1, by have := once_le l l.length; have := hp.length_eq; omega⟩
set_option maxRecDepth 100000 in
set_option maxHeartbeats 4000000 in
theorem ordInts_any (w : World) (xs : List Int) (v : Value) (hr : Ints w v xs) (h1 : 1 ≤ xs.length) (h8 : xs.length ≤ 8) : Calls Tryd.prog 47 #[v] w fun r w' => ∃ g cc l, OrdOf xs l ∧ r = .returned (.slice (some ⟨g, 0, none⟩) l.length cc) ∧ Star w w' [numR g l.length cc l] := by
  obtain ⟨av, cv, rfl⟩ := hr.slice
  have HR := hid hr
  have H1 := hid h1
  obtain ⟨n, hn⟩ : ∃ n, n = xs.length := ⟨_, rfl⟩
  have HN := hid hn
  rw [← hn] at HR h1 h8 ⊢
  clear hr hn
  go_enter Tryd.func47, Tryd.ntmps47
  go_wp2_with fail
  refine (show Calls Tryd.prog 72 #[.slice av n cv, cmpV] w (fun r w' => ∃ g cc l, OrdOf xs l ∧ r = .returned (.slice (some ⟨g, 0, none⟩) l.length cc) ∧ Star w w' [numR g l.length cc l]) from ?_).mono ?_
  · go_enter Tryd.func72, Tryd.ntmps72
    go_wp2_with fail
    refine (CloneI.clone_any _ n (xs.map (Value.int .i64)) _ (by have h := HR.out; unfold Ints at h; rw [← HN.out] at h; exact h) (by intro u hu; simp at hu; obtain ⟨i, _, rfl⟩ := hu; rfl) (by omega)).mono ?_
    rintro r w1 ⟨v1, rfl, hf, hs⟩
    have X1 := hid ((Star.new w).fresh hf hs)
    obtain ⟨g, cc, rfl⟩ := own_shape hf.1 (by omega)
    clear hf hs
    go_wp2_with fail
    refine (sort_any X1.out h1 h8).mono ?_
    rintro r w2 ⟨rfl, l2, hp2, hr2, hX2⟩
    have X2 := hid hX2
    have hl2 : l2.length = n := by rw [hp2.length_eq, HN.out]
    have HO := hid (show OrdOf xs (once l2 n) by
      have h := OrdOf.of hp2 (by rw [hl2]; exact hr2) (by omega)
      rw [hl2] at h
      exact h)
    clear hX2 hp2 hr2 X1
    go_wp2_with fail
    refine (compact_any X2.out h1 (by omega)).mono ?_
    rintro r w3 ⟨m, hm, rfl, hX3⟩
    have X3 := hid hX3
    have HM := hid hm
    clear hX3 hm X2
    go_wp2
    go_ret
    exact ⟨g, cc, once l2 n, HO.out, by rw [← HM.out]; rfl, by rw [← HM.out]; exact X3.out⟩
  · rintro r w1 ⟨g, cc, l, ho, rfl, hX⟩
    have X := hid hX
    have HO := hid ho
    clear hX ho
    go_wp2
    go_ret
    exact ⟨g, cc, l, HO.out, rfl, X.out⟩
end
end Go.Proofs.YtilobedihjkpjaaDoor.Ord

/-
  Grounds in plain Lean: tiles, steps, what a walk costs, what it costs at least.
-/
namespace Go.Proofs.YtilobedihjkpjaaDoor

/-- A ground: its columns, its rows, which tiles are free. -/
structure Gr where
  W : Nat
  H : Nat
  fs : List Bool
structure Gr.Ok (G : Gr) : Prop where
  w1 : 1 ≤ G.W
  w2 : G.W ≤ 32
  h1 : 1 ≤ G.H
  h2 : G.H ≤ 32
  len : G.fs.length = G.W * G.H
theorem Gr.Ok.max {G : Gr} (h : G.Ok) : G.fs.length ≤ 1024 ∧ 1 ≤ G.fs.length := by
  have h1 : G.W * G.H ≤ 32 * 32 := Nat.mul_le_mul h.w2 h.h2
  have h2 : 1 * 1 ≤ G.W * G.H := Nat.mul_le_mul h.w1 h.h1
  rw [h.len]; omega

def dxOf : Nat → Int
  | 0 => 1 | 1 => 1 | 2 => 0 | 3 => -1 | 4 => -1 | 5 => -1 | 6 => 0 | _ => 1
def dyOf : Nat → Int
  | 0 => 0 | 1 => 1 | 2 => 1 | 3 => 1 | 4 => 0 | 5 => -1 | 6 => -1 | _ => -1

namespace Gr
variable (G : Gr)
/-- Is there a free tile of a column and row? -/
def isF (x y : Int) : Bool := decide (0 ≤ x ∧ x < G.W ∧ 0 ≤ y ∧ y < G.H) && G.fs.getD (y * G.W + x).toNat false
/-- The tile of a column and row. -/
def at' (x y : Int) : Int := y * G.W + x
def X (t : Nat) : Int := ((t % G.W : Nat) : Int)
def Y (t : Nat) : Int := ((t / G.W : Nat) : Int)
/-- Is a tile free? -/
def free (t : Nat) : Bool := G.fs.getD t false
/-- The tile in a direction; -1: there is none, or it isn't free. -/
def to (t d : Nat) : Int := if G.isF (G.X t + dxOf d) (G.Y t + dyOf d) then G.at' (G.X t + dxOf d) (G.Y t + dyOf d) else -1
/-- Where a step goes, and what it costs. -/
def go (t d : Nat) : Option (Nat × Int) :=
  if G.free t ∧ d < 8 ∧ G.isF (G.X t + dxOf d) (G.Y t + dyOf d) then
    if d % 2 = 0 then some ((G.at' (G.X t + dxOf d) (G.Y t + dyOf d)).toNat, 10)
    else if G.isF (G.X t + dxOf d) (G.Y t) ∧ G.isF (G.X t) (G.Y t + dyOf d) then some ((G.at' (G.X t + dxOf d) (G.Y t + dyOf d)).toNat, 14)
    else none
  else none
/-- A step: its direction, where it goes, what it costs. -/
structure St where
  d : Nat
  to : Nat
  c : Int
deriving DecidableEq
def step (t d : Nat) : Option St := (G.go t d).map fun p => ⟨d, p.1, p.2⟩
def around (t : Nat) : List St := (List.range 8).filterMap (G.step t)
def guess (a b : Nat) : Int := 14 * min (G.X a - G.X b).natAbs (G.Y a - G.Y b).natAbs + 10 * (max (G.X a - G.X b).natAbs (G.Y a - G.Y b).natAbs - min (G.X a - G.X b).natAbs (G.Y a - G.Y b).natAbs : Int)
end Gr

section
variable {G : Gr}
theorem Gr.tile (h : G.Ok) {x y : Int} (h1 : 0 ≤ x) (h2 : x < G.W) (h3 : 0 ≤ y) : G.X (G.at' x y).toNat = x ∧ G.Y (G.at' x y).toNat = y := by
  obtain ⟨x, rfl⟩ := Int.eq_ofNat_of_zero_le h1
  obtain ⟨y, rfl⟩ := Int.eq_ofNat_of_zero_le h3
  have e : (G.at' (x : Int) (y : Int)).toNat = y * G.W + x := by
    unfold Gr.at'
    rw [← Int.natCast_mul, ← Int.natCast_add, Int.toNat_natCast]
  have hx : x < G.W := by omega
  have := h.w1
  unfold Gr.X Gr.Y
  rw [e, Nat.mul_comm, Nat.mul_add_mod, Nat.mod_eq_of_lt hx, Nat.mul_add_div (by omega), Nat.div_eq_of_lt hx]
  simp
theorem Gr.isF_iff {x y : Int} : G.isF x y = true ↔ 0 ≤ x ∧ x < G.W ∧ 0 ≤ y ∧ y < G.H ∧ G.free (G.at' x y).toNat = true := by
  unfold Gr.isF Gr.free Gr.at'
  rw [Bool.and_eq_true, decide_eq_true_iff]
  constructor
  · rintro ⟨⟨a, b, c, d⟩, e⟩; exact ⟨a, b, c, d, e⟩
  · rintro ⟨a, b, c, d, e⟩; exact ⟨⟨a, b, c, d⟩, e⟩
theorem Gr.XY (h : G.Ok) (t : Nat) : 0 ≤ G.X t ∧ G.X t < G.W ∧ 0 ≤ G.Y t ∧ G.at' (G.X t) (G.Y t) = t := by
  have := h.w1
  have h1 : t % G.W < G.W := Nat.mod_lt _ (by omega)
  have h2 := Nat.div_add_mod t G.W
  unfold Gr.X Gr.Y Gr.at'
  refine ⟨Int.natCast_nonneg _, by omega, Int.natCast_nonneg _, ?_⟩
  rw [← Int.natCast_mul, ← Int.natCast_add, Nat.mul_comm, h2]
theorem Gr.Yin (h : G.Ok) {t : Nat} (ht : t < G.fs.length) : G.Y t < G.H := by
  rw [h.len] at ht
  have := Nat.div_lt_of_lt_mul ht
  unfold Gr.Y; omega
theorem Gr.free_in {t : Nat} (h : G.free t = true) : t < G.fs.length := by
  unfold Gr.free at h
  by_cases ht : t < G.fs.length
  · exact ht
  · rw [List.getD_eq_getElem?_getD, List.getElem?_eq_none (by omega)] at h; simp at h
theorem Gr.isF_self (h : G.Ok) {t : Nat} (hf : G.free t = true) : G.isF (G.X t) (G.Y t) = true := by
  obtain ⟨h1, h2, h3, h4⟩ := Gr.XY h t
  rw [Gr.isF_iff, h4, Int.toNat_natCast]
  exact ⟨h1, h2, h3, Gr.Yin h (Gr.free_in hf), hf⟩
theorem Gr.at_lt (h : G.Ok) {x y : Int} (h1 : 0 ≤ x) (h2 : x < G.W) (h3 : 0 ≤ y) (h4 : y < G.H) : 0 ≤ G.at' x y ∧ G.at' x y < G.fs.length := by
  obtain ⟨x, rfl⟩ := Int.eq_ofNat_of_zero_le h1
  obtain ⟨y, rfl⟩ := Int.eq_ofNat_of_zero_le h3
  unfold Gr.at'
  rw [← Int.natCast_mul, ← Int.natCast_add, h.len]
  have : y * G.W + x < G.W * G.H := by
    calc y * G.W + x < y * G.W + G.W := by omega
      _ = (y + 1) * G.W := by rw [Nat.succ_mul]
      _ ≤ G.H * G.W := Nat.mul_le_mul_right _ (by omega)
      _ = G.W * G.H := Nat.mul_comm _ _
  omega
/-- What a step is, by columns and rows. -/
theorem Gr.go_some {t d : Nat} {u : Nat} {c : Int} (hg : G.go t d = some (u, c)) : G.free t = true ∧ d < 8 ∧ G.isF (G.X t + dxOf d) (G.Y t + dyOf d) = true ∧ u = (G.at' (G.X t + dxOf d) (G.Y t + dyOf d)).toNat ∧ c = (if d % 2 = 0 then 10 else 14) ∧ (d % 2 = 1 → G.isF (G.X t + dxOf d) (G.Y t) = true ∧ G.isF (G.X t) (G.Y t + dyOf d) = true) := by
  unfold Gr.go at hg
  by_cases hc : G.free t ∧ d < 8 ∧ G.isF (G.X t + dxOf d) (G.Y t + dyOf d)
  · rw [if_pos hc] at hg
    by_cases hd : d % 2 = 0
    · rw [if_pos hd] at hg
      simp only [Option.some.injEq, Prod.mk.injEq] at hg
      exact ⟨hc.1, hc.2.1, hc.2.2, hg.1.symm, by rw [if_pos hd]; exact hg.2.symm, fun h => by omega⟩
    · rw [if_neg hd] at hg
      by_cases hs : G.isF (G.X t + dxOf d) (G.Y t) ∧ G.isF (G.X t) (G.Y t + dyOf d)
      · rw [if_pos hs] at hg
        simp only [Option.some.injEq, Prod.mk.injEq] at hg
        exact ⟨hc.1, hc.2.1, hc.2.2, hg.1.symm, by rw [if_neg hd]; exact hg.2.symm, fun _ => hs⟩
      · rw [if_neg hs] at hg; cases hg
  · rw [if_neg hc] at hg; cases hg
theorem Gr.go_of {t d : Nat} (h1 : G.free t = true) (h2 : d < 8) (h3 : G.isF (G.X t + dxOf d) (G.Y t + dyOf d) = true) (h4 : d % 2 = 1 → G.isF (G.X t + dxOf d) (G.Y t) = true ∧ G.isF (G.X t) (G.Y t + dyOf d) = true) :
    G.go t d = some ((G.at' (G.X t + dxOf d) (G.Y t + dyOf d)).toNat, if d % 2 = 0 then 10 else 14) := by
  unfold Gr.go
  rw [if_pos ⟨h1, h2, h3⟩]
  by_cases hd : d % 2 = 0
  · rw [if_pos hd, if_pos hd]
  · rw [if_neg hd, if_neg hd, if_pos (h4 (by omega))]
theorem opp {d : Nat} (h : d < 8) : dxOf ((d + 4) % 8) = - dxOf d ∧ dyOf ((d + 4) % 8) = - dyOf d := by
  have : d = 0 ∨ d = 1 ∨ d = 2 ∨ d = 3 ∨ d = 4 ∨ d = 5 ∨ d = 6 ∨ d = 7 := by omega
  rcases this with rfl | rfl | rfl | rfl | rfl | rfl | rfl | rfl <;> decide
theorem dir_abs {d : Nat} (h : d < 8) : (dxOf d).natAbs ≤ 1 ∧ (dyOf d).natAbs ≤ 1 ∧ (d % 2 = 0 → (dxOf d).natAbs + (dyOf d).natAbs = 1) ∧ (d % 2 = 1 → (dxOf d).natAbs = 1 ∧ (dyOf d).natAbs = 1) := by
  have : d = 0 ∨ d = 1 ∨ d = 2 ∨ d = 3 ∨ d = 4 ∨ d = 5 ∨ d = 6 ∨ d = 7 := by omega
  rcases this with rfl | rfl | rfl | rfl | rfl | rfl | rfl | rfl <;> decide
/-- Where a step ends. -/
theorem Gr.go_end (h : G.Ok) {t d u : Nat} {c : Int} (hg : G.go t d = some (u, c)) : G.free u = true ∧ G.X u = G.X t + dxOf d ∧ G.Y u = G.Y t + dyOf d := by
  obtain ⟨h1, h2, h3, rfl, rfl, h4⟩ := Gr.go_some hg
  rw [Gr.isF_iff] at h3
  exact ⟨h3.2.2.2.2, Gr.tile h h3.1 h3.2.1 h3.2.2.1⟩
/-- A step goes back the way it came. -/
theorem Gr.go_back (h : G.Ok) {t d u : Nat} {c : Int} (hg : G.go t d = some (u, c)) : G.go u ((d + 4) % 8) = some (t, c) := by
  obtain ⟨e1, e2, e3⟩ := Gr.go_end h hg
  obtain ⟨h1, h2, h3, h5, h6, h4⟩ := Gr.go_some hg
  obtain ⟨o1, o2⟩ := opp h2
  have a1 : G.X u + dxOf ((d + 4) % 8) = G.X t := by omega
  have a2 : G.Y u + dyOf ((d + 4) % 8) = G.Y t := by omega
  have hs := Gr.isF_self h h1
  rw [Gr.go_of e1 (by omega) (by rw [a1, a2]; exact hs) (fun hd => by rw [a1, a2, e2, e3]; have := h4 (by omega); exact ⟨this.2, this.1⟩), a1, a2, (Gr.XY h t).2.2.2, Int.toNat_natCast, h6, show (d + 4) % 8 % 2 = d % 2 by omega]
theorem Gr.go_guess (h : G.Ok) {t d u : Nat} {c : Int} (hg : G.go t d = some (u, c)) : G.guess t u = c := by
  obtain ⟨e1, e2, e3⟩ := Gr.go_end h hg
  obtain ⟨h1, h2, h3, h5, h6, h4⟩ := Gr.go_some hg
  obtain ⟨d1, d2, d3, d4⟩ := dir_abs h2
  have a1 : (G.X t - G.X u).natAbs = (dxOf d).natAbs := by omega
  have a2 : (G.Y t - G.Y u).natAbs = (dyOf d).natAbs := by omega
  unfold Gr.guess
  rw [a1, a2, h6]
  by_cases hd : d % 2 = 0
  · rw [if_pos hd]; have := d3 hd; omega
  · rw [if_neg hd]; have := d4 (by omega); omega
theorem Gr.guess_tri (a b c : Nat) : G.guess a c ≤ G.guess a b + G.guess b c := by
  unfold Gr.guess
  generalize G.X a = xa; generalize G.X b = xb; generalize G.X c = xc
  generalize G.Y a = ya; generalize G.Y b = yb; generalize G.Y c = yc
  have h1 : (xa - xc).natAbs ≤ (xa - xb).natAbs + (xb - xc).natAbs := by omega
  have h2 : (ya - yc).natAbs ≤ (ya - yb).natAbs + (yb - yc).natAbs := by omega
  generalize (xa - xc).natAbs = p at *; generalize (xa - xb).natAbs = p1 at *; generalize (xb - xc).natAbs = p2 at *
  generalize (ya - yc).natAbs = q at *; generalize (ya - yb).natAbs = q1 at *; generalize (yb - yc).natAbs = q2 at *
  omega
theorem Gr.guess_self (a : Nat) : G.guess a a = 0 := by
  unfold Gr.guess
  simp
theorem Gr.guess_nonneg (a b : Nat) : 0 ≤ G.guess a b := by
  unfold Gr.guess
  omega
theorem Gr.mem_around {t : Nat} {s : Gr.St} : s ∈ G.around t ↔ G.go t s.d = some (s.to, s.c) := by
  unfold Gr.around Gr.step
  rw [List.mem_filterMap]
  constructor
  · rintro ⟨d, _, hd⟩
    cases hg : G.go t d with
    | none => rw [hg] at hd; cases hd
    | some p => rw [hg] at hd; cases hd; exact hg
  · intro hg
    refine ⟨s.d, ?_, by rw [hg]; rfl⟩
    rw [List.mem_range]
    exact (Gr.go_some hg).2.1
end

namespace Gr
variable (G : Gr)
/-- What a step from a tile to another one costs. -/
def edge (a b : Nat) : Option Int := ((G.around a).find? fun s => s.to == b).map (·.c)
/-- What a walk costs. -/
def walkC : List Nat → Option Int
  | a :: b :: l => (G.edge a b).bind fun c => (walkC (b :: l)).map (c + ·)
  | _ => some 0
def has (t : Int) : Bool := decide (0 ≤ t ∧ t < G.fs.length)
/-- What a walk costs, and the error's number. -/
def cost (l : List Int) : Int × Int :=
  if l = [] then (0, 3) else if l.all G.has = false then (0, 1) else if l.any (fun t => !G.free t.toNat) = true then (0, 8) else
  match G.walkC (l.map Int.toNat) with
  | some c => (c, 0)
  | none => (0, 9)
end Gr
section
variable {G : Gr}
theorem Gr.edge_of (h : G.Ok) {a d b : Nat} {c : Int} (hg : G.go a d = some (b, c)) : G.edge a b = some c := by
  unfold Gr.edge
  have hm : (⟨d, b, c⟩ : Gr.St) ∈ G.around a := Gr.mem_around.2 hg
  cases hf : (G.around a).find? (fun s => s.to == b) with
  | none => exact absurd (List.find?_eq_none.1 hf _ hm) (by simp)
  | some s =>
    have h1 := List.find?_some hf
    have h2 := Gr.mem_around.1 (List.mem_of_find?_eq_some hf)
    have e : s.to = b := by simpa using h1
    rw [e] at h2
    rw [Option.map_some, ← Gr.go_guess h hg, ← Gr.go_guess h h2]
theorem Gr.walkC_snoc : ∀ (l : List Nat) {a b : Nat} {c k : Int}, G.walkC (l ++ [a]) = some k → G.edge a b = some c → G.walkC (l ++ [a] ++ [b]) = some (k + c)
  | [], a, b, c, k, h1, h2 => by
    simp [Gr.walkC] at h1
    subst h1
    simp [Gr.walkC, h2]
  | [x], a, b, c, k, h1, h2 => by
    simp [Gr.walkC] at h1
    simp [Gr.walkC, h2, h1]
  | x :: y :: l, a, b, c, k, h1, h2 => by
    simp only [List.cons_append, Gr.walkC] at h1 ⊢
    cases he : G.edge x y with
    | none => rw [he] at h1; cases h1
    | some e =>
      rw [he] at h1
      simp only [Option.bind_some] at h1 ⊢
      cases hk : G.walkC (y :: (l ++ [a])) with
      | none => rw [hk] at h1; cases h1
      | some k' =>
        rw [hk] at h1
        simp only [Option.map_some, Option.some.injEq] at h1
        have := Gr.walkC_snoc (y :: l) (a := a) (by simpa using hk) h2
        simp only [List.cons_append] at this
        rw [this]
        simp only [Option.map_some, Option.some.injEq]
        omega
theorem Gr.walkC_cons {l : List Nat} {a b : Nat} {c k : Int} (h1 : G.walkC (a :: l) = some k) (h2 : G.edge b a = some c) : G.walkC (b :: a :: l) = some (c + k) := by
  simp [Gr.walkC, h1, h2]
theorem Gr.cost_ok {l : List Nat} {c : Int} (h0 : l ≠ []) (hf : ∀ t ∈ l, G.free t = true) (hc : G.walkC l = some c) : G.cost (l.map Int.ofNat) = (c, 0) := by
  have e1 : (l.map Int.ofNat).all G.has = true := by
    rw [List.all_eq_true]
    intro t ht
    obtain ⟨u, hu, rfl⟩ := List.mem_map.1 ht
    have := Gr.free_in (hf u hu)
    unfold Gr.has
    rw [decide_eq_true_iff]
    exact ⟨Int.natCast_nonneg _, by simpa using this⟩
  have e2 : (l.map Int.ofNat).any (fun t => !G.free t.toNat) = false := by
    rw [List.any_eq_false]
    intro t ht
    obtain ⟨u, hu, rfl⟩ := List.mem_map.1 ht
    simp [hf u hu]
  have e3 : (l.map Int.ofNat).map Int.toNat = l := by simp [List.map_map, Function.comp_def]
  unfold Gr.cost
  rw [if_neg (by simpa using h0), e1, e2, e3, hc]
  simp

/-- The ground on which one tile more is free. -/
def Gr.set (G : Gr) (t : Nat) (b : Bool) : Gr := { G with fs := G.fs.set t b }
theorem Gr.set_ok (h : G.Ok) (t : Nat) (b : Bool) : (G.set t b).Ok := ⟨h.w1, h.w2, h.h1, h.h2, by simp [Gr.set, h.len]⟩
theorem Gr.set_free (t u : Nat) (b : Bool) : (G.set t b).free u = if t = u ∧ t < G.fs.length then b else G.free u := by
  unfold Gr.free Gr.set
  simp only [List.getD_eq_getElem?_getD, List.getElem?_set]
  by_cases e : t = u
  · subst e
    by_cases hl : t < G.fs.length
    · simp [hl]
    · simp [hl, List.getElem?_eq_none (Nat.le_of_not_lt hl)]
  · simp [e]
theorem Gr.set_mono {t u : Nat} (h : G.free u = true) : (G.set t true).free u = true := by
  rw [Gr.set_free]; split <;> simp [h]
theorem Gr.isF_mono {t : Nat} {x y : Int} (h : G.isF x y = true) : (G.set t true).isF x y = true := by
  rw [Gr.isF_iff] at h ⊢
  exact ⟨h.1, h.2.1, h.2.2.1, h.2.2.2.1, Gr.set_mono h.2.2.2.2⟩
theorem Gr.go_mono {t a d b : Nat} {c : Int} (hg : G.go a d = some (b, c)) : (G.set t true).go a d = some (b, c) := by
  obtain ⟨h1, h2, h3, h5, h6, h4⟩ := Gr.go_some hg
  have := Gr.go_of (G := G.set t true) (t := a) (Gr.set_mono h1) h2 (Gr.isF_mono h3) (fun hd => ⟨Gr.isF_mono (h4 hd).1, Gr.isF_mono (h4 hd).2⟩)
  rw [this, h5, h6]; rfl
/-- All tiles that aren't free. -/
def Gr.blocked (G : Gr) : List Nat := (List.range G.fs.length).filter fun t => !G.free t
theorem Gr.blocked_mono (t : Nat) : (G.set t true).blocked.length ≤ G.blocked.length := by
  unfold Gr.blocked
  have e : (G.set t true).fs.length = G.fs.length := by simp [Gr.set]
  rw [e, ← List.countP_eq_length_filter, ← List.countP_eq_length_filter]
  refine List.countP_mono_left fun u _ hu => ?_
  cases h : G.free u with
  | false => rfl
  | true => rw [Gr.set_mono h] at hu; cases hu
end
def Gr.freeI (G : Gr) (t : Int) : Bool := G.has t && G.free t.toNat
/-- .. at any whole numbers. -/
def Gr.goI (G : Gr) (t d : Int) : Option (Nat × Int) := if 0 ≤ t ∧ 0 ≤ d then G.go t.toNat d.toNat else none
section
variable {G : Gr}
theorem Gr.freeI_nat (t : Nat) : G.freeI t = G.free t := by
  unfold Gr.freeI Gr.has
  by_cases h : G.free t = true
  · have := Gr.free_in h
    rw [decide_eq_true (by omega), Bool.true_and, Int.toNat_natCast]
  · simp only [Bool.not_eq_true] at h
    rw [Int.toNat_natCast, h, Bool.and_false]
theorem Gr.goI_nat (t d : Nat) : G.goI t d = G.go t d := by
  unfold Gr.goI
  rw [if_pos (by omega), Int.toNat_natCast, Int.toNat_natCast]
theorem Gr.goI_free {t d : Int} (h : G.freeI t = false) : G.goI t d = none := by
  unfold Gr.goI
  by_cases hc : 0 ≤ t ∧ 0 ≤ d
  · rw [if_pos hc]
    obtain ⟨t, rfl⟩ := Int.eq_ofNat_of_zero_le hc.1
    rw [Gr.freeI_nat] at h
    unfold Gr.go
    rw [Int.toNat_natCast, h]
    simp
  · rw [if_neg hc]
theorem Gr.goI_dir {t d : Int} (h : ¬ (0 ≤ d ∧ d < 8)) : G.goI t d = none := by
  unfold Gr.goI
  by_cases hc : 0 ≤ t ∧ 0 ≤ d
  · rw [if_pos hc]
    unfold Gr.go
    rw [if_neg (by omega)]
  · rw [if_neg hc]
theorem Gr.to_none (h : G.Ok) (t d : Nat) : G.to t d = -1 ↔ G.isF (G.X t + dxOf d) (G.Y t + dyOf d) = false := by
  unfold Gr.to
  cases hf : G.isF (G.X t + dxOf d) (G.Y t + dyOf d) with
  | false => simp
  | true =>
    rw [Gr.isF_iff] at hf
    have := (Gr.at_lt h hf.1 hf.2.1 hf.2.2.1 hf.2.2.2.1).1
    rw [if_pos rfl]
    constructor
    · intro e; omega
    · intro e; cases e
theorem Gr.to_nat (h : G.Ok) (t d : Nat) (hn : G.to t d ≠ -1) : G.to t d = ((G.to t d).toNat : Int) ∧ (G.to t d).toNat = (G.at' (G.X t + dxOf d) (G.Y t + dyOf d)).toNat ∧ (G.to t d).toNat < G.fs.length := by
  have hf : G.isF (G.X t + dxOf d) (G.Y t + dyOf d) = true := by
    cases e : G.isF (G.X t + dxOf d) (G.Y t + dyOf d) with
    | true => rfl
    | false => exact absurd ((Gr.to_none h t d).2 e) hn
  have e : G.to t d = G.at' (G.X t + dxOf d) (G.Y t + dyOf d) := by unfold Gr.to; rw [if_pos hf]
  rw [Gr.isF_iff] at hf
  have := Gr.at_lt h hf.1 hf.2.1 hf.2.2.1 hf.2.2.2.1
  rw [e]
  omega
theorem Gr.sides (t d : Nat) (hd : d < 8) (ho : d % 2 = 1) : (G.isF (G.X t + dxOf (d - 1)) (G.Y t + dyOf (d - 1)) = true ∧ G.isF (G.X t + dxOf ((d + 1) % 8)) (G.Y t + dyOf ((d + 1) % 8)) = true) ↔ (G.isF (G.X t + dxOf d) (G.Y t) = true ∧ G.isF (G.X t) (G.Y t + dyOf d) = true) := by
  have : d = 1 ∨ d = 3 ∨ d = 5 ∨ d = 7 := by omega
  rcases this with rfl | rfl | rfl | rfl <;> simp [dxOf, dyOf, and_comm]
/-- A step, as the program finds it. -/
theorem Gr.go_to (h : G.Ok) (t d : Nat) (hf : G.free t = true) (hd : d < 8) : G.go t d = if G.to t d = -1 then none else if d % 2 = 0 then some ((G.to t d).toNat, 10) else if G.to t (d - 1) = -1 ∨ G.to t ((d + 1) % 8) = -1 then none else some ((G.to t d).toNat, 14) := by
  by_cases h1 : G.to t d = -1
  · rw [if_pos h1]
    rw [Gr.to_none h] at h1
    unfold Gr.go
    rw [if_neg (by rw [h1]; simp)]
  · obtain ⟨_, e, _⟩ := Gr.to_nat h t d h1
    rw [if_neg h1, e]
    have hF : G.isF (G.X t + dxOf d) (G.Y t + dyOf d) = true := by
      cases e : G.isF (G.X t + dxOf d) (G.Y t + dyOf d) with
      | true => rfl
      | false => exact absurd ((Gr.to_none h t d).2 e) h1
    unfold Gr.go
    rw [if_pos ⟨hf, hd, hF⟩]
    by_cases h2 : d % 2 = 0
    · rw [if_pos h2, if_pos h2]
    · rw [if_neg h2, if_neg h2]
      have := Gr.sides (G := G) t d hd (by omega)
      by_cases h3 : G.isF (G.X t + dxOf d) (G.Y t) = true ∧ G.isF (G.X t) (G.Y t + dyOf d) = true
      · rw [if_pos h3, if_neg]
        have := this.2 h3
        rw [Gr.to_none h, Gr.to_none h, this.1, this.2]
        simp
      · rw [if_neg h3, if_pos]
        have h4 := fun hh => h3 (this.1 hh)
        rw [Gr.to_none h, Gr.to_none h]
        cases a : G.isF (G.X t + dxOf (d - 1)) (G.Y t + dyOf (d - 1)) with
        | false => exact .inl rfl
        | true =>
          cases b : G.isF (G.X t + dxOf ((d + 1) % 8)) (G.Y t + dyOf ((d + 1) % 8)) with
          | false => exact .inr rfl
          | true => exact absurd ⟨a, b⟩ h4
end
/-- .. from any whole number. -/
def Gr.stepI (G : Gr) (t : Int) (d : Nat) : Option Gr.St := (G.goI t d).map fun p => ⟨d, p.1, p.2⟩
def Gr.aroundTo (G : Gr) (t : Int) (k : Nat) : List Gr.St := (List.range k).filterMap (G.stepI t)
def Gr.aroundI (G : Gr) (t : Int) : List Gr.St := G.aroundTo t 8
theorem Gr.aroundI_nat (G : Gr) (t : Nat) : G.aroundI t = G.around t := by
  have e : G.stepI (t : Int) = G.step t := funext fun d => by unfold Gr.stepI Gr.step; rw [Gr.goI_nat]
  unfold Gr.aroundI Gr.aroundTo Gr.around
  rw [e]
theorem Gr.aroundTo_none {G : Gr} {t : Int} {k : Nat} (h : G.goI t k = none) : G.aroundTo t (k + 1) = G.aroundTo t k := by
  unfold Gr.aroundTo
  rw [List.range_succ, List.filterMap_append]
  simp [Gr.stepI, h]
theorem Gr.aroundTo_some {G : Gr} {t : Int} {k u : Nat} {c : Int} (h : G.goI t k = some (u, c)) : G.aroundTo t (k + 1) = G.aroundTo t k ++ [⟨k, u, c⟩] := by
  unfold Gr.aroundTo
  rw [List.range_succ, List.filterMap_append]
  simp [Gr.stepI, h]
theorem Gr.aroundTo_len (G : Gr) (t : Int) (k : Nat) : (G.aroundTo t k).length ≤ k := by
  unfold Gr.aroundTo
  exact Nat.le_trans (List.length_filterMap_le _ _) (by simp)
end Go.Proofs.YtilobedihjkpjaaDoor

/-
  A ground in memory: its block, and the row of what is free.
-/
namespace Go.Proofs.YtilobedihjkpjaaDoor
open Go Go.RowKit

def bv (bs : List Bool) : List Value := bs.map Value.bool
theorem bv_len (bs : List Bool) : (bv bs).length = bs.length := by simp [bv]
theorem bv_one (bs : List Bool) : ∀ u ∈ bv bs, u.oneCell' = true := by intro u hu; simp [bv] at hu; rcases hu with ⟨_, rfl⟩ | ⟨_, rfl⟩ <;> rfl
theorem bv_get (bs : List Bool) (i : Nat) (h : i < bs.length) : (bv bs)[i]? = some (.bool (bs.getD i false)) := by simp [bv, h, List.getD_eq_getElem?_getD]
theorem bv_set (bs : List Bool) (i : Nat) (b : Bool) : (bv bs).set i (.bool b) = bv (bs.set i b) := by simp [bv, List.map_set]

/-- A ground (of type T: steps' or paddockref16's) at block p, its row in block g. -/
structure Gnd (T : TypeId) (w : World) (p g c : Nat) (G : Gr) : Prop where
  blk : w.heap[p]? = some (.cells #[.int .i64 G.W, .int .i64 G.H, .slice (some ⟨g, 0, none⟩) G.fs.length c] T (0, 0))
  own : w.ownsRow 0 4 1 (.slice (some ⟨g, 0, none⟩) G.fs.length c) G.fs.length (bv G.fs)
  ne : g ≠ p
  ok : G.Ok

section
variable {T : TypeId} {w w' : World} {p g c : Nat} {G : Gr}
theorem Gnd.c0 (h : Gnd T w p g c G) : w.cell? ⟨p, 0, none⟩ = some (.int .i64 G.W) := cell_of h.blk 0
theorem Gnd.c1 (h : Gnd T w p g c G) : w.cell? ⟨p, 1, none⟩ = some (.int .i64 G.H) := cell_of h.blk 1
theorem Gnd.c2 (h : Gnd T w p g c G) : w.cell? ⟨p, 2, none⟩ = some (.slice (some ⟨g, 0, none⟩) G.fs.length c) := cell_of h.blk 2
theorem Gnd.pl (h : Gnd T w p g c G) : p < w.heap.size := lt_of h.blk
theorem Gnd.gl (h : Gnd T w p g c G) : g < w.heap.size := (h.own.lt g rfl).2
theorem Gnd.get (h : Gnd T w p g c G) (i : Nat) (hi : i < G.fs.length) : w.cell? ⟨g, i, none⟩ = some (.bool (G.free i)) := (h.own.cellAt i (by omega)).trans (bv_get _ i hi)
theorem Gnd.frozen (h : Gnd T w p g c G) (i : Nat) : w.frozen? ⟨g, i, none⟩ = false := h.own.frozenAt i
theorem Gnd.same (h : Gnd T w p g c G) (hs : Same w w') : Gnd T w' p g c G := ⟨hs.heap h.blk (fun f => f), own_chg h.own hs (fun _ _ f => f), h.ne, h.ok⟩
theorem Gnd.set (h : Gnd T w p g c G) (i : Nat) (b : Bool) : Gnd T (w.setCell ⟨g, i, none⟩ (.bool b)) p g c (G.set i b) := by
  have hst := (h.own.stored i (Value.bool b)).1
  rw [bv_set] at hst
  have e : (G.set i b).fs.length = G.fs.length := by simp [Gr.set]
  refine ⟨?_, ?_, h.ne, Gr.set_ok h.ok i b⟩
  · rw [set_other _ _ (fun e => h.ne e.symm), e]
    exact h.blk
  · rw [e]
    exact hst
end

def gndR (T p : Nat) (G : Gr) : Res where
  rel w F := ∃ g c, Gnd T w p g c G ∧ F = fun k => k = p ∨ k = g
  here := by
    rintro w F ⟨g, c, h, rfl⟩ k (rfl | rfl)
    · exact h.pl
    · exact h.gl
  keep := by
    rintro w w' F ⟨g, c, h, rfl⟩ hk
    refine ⟨g, c, ⟨(hk p (.inl rfl)).trans h.blk, ⟨h.own.1, ?_⟩, h.ne, h.ok⟩, rfl⟩
    rcases h.own.2 with hn' | ⟨g', cap, cur, e, hb, hg, r⟩
    · exact .inl hn'
    · have e' : g' = g := by cases e; rfl
      subst e'
      exact .inr ⟨g', cap, cur, e, hb, (hk g' (.inr rfl)).trans hg, r⟩

section
variable {w0 w w' : World} {L : List Res} {T p : Nat} {G : Gr}
theorem gnd_at (X : Star w0 w L) (i : Nat) (hi : L[i]? = some (gndR T p G)) : ∃ g c, Gnd T w p g c G ∧ w0.heap.size ≤ p ∧ w0.heap.size ≤ g ∧ ∀ (j : Nat) (b : Bool), Star w0 (w.setCell ⟨g, j, none⟩ (.bool b)) (L.set i (gndR T p (G.set j b))) := by
  obtain ⟨F, ⟨g, c, h, rfl⟩, h2, h3⟩ := X.at i hi
  exact ⟨g, c, h, h2 p (.inl rfl), h2 g (.inr rfl), fun j b => h3 _ _ _ ⟨g, c, h.set j b, rfl⟩ (Chg.setCell _ _ (Chg.refl _) (fun _ => .inr rfl)) (fun k f => .inl f)⟩
theorem gnd_new {g c : Nat} (X : Star w0 w L) (hs : Same w w') (h : Gnd T w' p g c G) (h1 : w.heap.size ≤ p) (h2 : w.heap.size ≤ g) : Star w0 w' (gndR T p G :: L) :=
  X.add hs ⟨g, c, h, rfl⟩ (by rintro k (rfl | rfl) <;> assumption)
end

end Go.Proofs.YtilobedihjkpjaaDoor
