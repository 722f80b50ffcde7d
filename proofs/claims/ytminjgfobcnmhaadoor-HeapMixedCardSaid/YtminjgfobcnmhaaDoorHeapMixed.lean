/-
  HeapMixed: the walk.
-/
import Derived.Test.YtminjgfobcnmhaaDoorHeapSort
import Derived.Test.YtminjgfobcnmhaaDoorPart
namespace Go.Proofs.YtminjgfobcnmhaaDoor.HeapMixed
open Go Go.RowKit Go.Proofs.YtminjgfobcnmhaaDoor.Hp

theorem flat_drop (xs : List (Int × Int)) (k : Nat) : (flat xs).drop (k * 2) = flat (xs.drop k) := by
  have h := flat_append (xs.take k) (xs.drop k)
  rw [List.take_append_drop] at h
  by_cases hk : k ≤ xs.length
  · rw [h, List.drop_append_of_le_length (by rw [flat_length, List.length_take]; omega), List.drop_eq_nil_of_le (by rw [flat_length, List.length_take]; omega), List.nil_append]
  · rw [List.drop_eq_nil_of_le (by rw [flat_length]; omega), List.drop_eq_nil_of_le (by omega)]; rfl

/-- What the loop keeps: the heap, and the entries that stay. -/
structure Mix (w wr : World) (p : Nat) (v u : Value) (es st : List (Int × Int)) : Prop where
  live : Live w wr p v es
  row : wr.ownsRow 0 31 2 u st.length (flat st)
  new : After w u
  sep : Sep p v u
  perm : st.Perm es

theorem Mix.go {w a b : World} {p : Nat} {v u : Value} {es st : List (Int × Int)} (h : Mix w a p v u es st) (hs : Same a b) : Mix w b p v u es st :=
  ⟨h.live.go hs, own_chg h.row hs (fun _ _ f => f), h.new, h.sep, h.perm⟩

theorem erase_perm (st : List (Int × Int)) (t : Nat) (h : t < st.length) : (st[t] :: st.eraseIdx t).Perm st := by
  rw [List.eraseIdx_eq_take_drop_succ]
  refine List.perm_middle.symm.trans ?_
  rw [← List.drop_eq_getElem_cons h, List.take_append_drop]

/-- Where an entry last lies among the first i. -/
def LastAt (st : List (Int × Int)) (e : Int × Int) (i : Nat) (av : Value) : Prop :=
  (∃ a : Nat, av = .int .i64 a ∧ a < i ∧ at_ st a = e) ∨ (av = .int .i64 (-1) ∧ ∀ a, a < i → at_ st a ≠ e)
theorem LastAt.int {st : List (Int × Int)} {e : Int × Int} {i : Nat} {av : Value} (h : LastAt st e i av) : ∃ x, av = .int .i64 x := by
  rcases h with ⟨a, h, _⟩ | ⟨h, _⟩
  · exact ⟨_, h⟩
  · exact ⟨_, h⟩
theorem LastAt.step {st : List (Int × Int)} {e : Int × Int} {i : Nat} {av : Value} (h : LastAt st e i av) : (at_ st i = e → LastAt st e (i + 1) (.int .i64 i)) ∧ (at_ st i ≠ e → LastAt st e (i + 1) av) := by
  constructor
  · intro he
    exact .inl ⟨i, rfl, by omega, he⟩
  · intro hne
    rcases h with ⟨a, h1, h2, h3⟩ | ⟨h1, h2⟩
    · exact .inl ⟨a, h1, by omega, h3⟩
    · refine .inr ⟨h1, fun a ha => ?_⟩
      by_cases e : a = i
      · rw [e]; exact hne
      · exact h2 a (by omega)

theorem LastAt.found {st : List (Int × Int)} {e : Int × Int} {i : Nat} {av : Value} (h : LastAt st e i av) (hl : st.length = i) (hm : e ∈ st) : ∃ t : Nat, av = .int .i64 t ∧ t < i ∧ at_ st t = e := by
  rcases h with h | ⟨_, h⟩
  · exact h
  · obtain ⟨t, ht, he⟩ := List.mem_iff_getElem.1 hm
    exact absurd (by simp [at_, List.getD, ht, he]) (h t (by omega))

set_option maxRecDepth 100000 in
set_option maxHeartbeats 4000000 in
theorem walk (xs : List (Int × Int)) (bs : List Bool) (v vb : Value) (w : World) (hr : Reads w v xs.length 2 (flat xs)) (hb : Reads w vb bs.length 1 (bs.map Value.bool)) (hm : xs.length ≤ 9223372036854775807) (hmb : bs.length ≤ 9223372036854775807)
    (T : TypeId) (ex : Addr) (he : w.cell? ⟨1, 0, none⟩ = some (.iface T (.pointer (some ex)))) :
    Calls Tryd.prog 4 #[v, vb] w fun r w' => r = .returned (.bool true) ∧ Same w w' := by
  obtain ⟨i0, hi, hz0, hz1, hz2⟩ := info_parts info
  obtain ⟨a, c, rfl⟩ := hr.slice
  obtain ⟨a', c', rfl⟩ := hb.slice
  have HR := hid hr
  have HB := hid hb
  have HE := hid he
  clear hr hb he
  obtain ⟨n, hn⟩ : ∃ n, n = xs.length := ⟨_, rfl⟩
  obtain ⟨m, hmm⟩ : ∃ m, m = bs.length := ⟨_, rfl⟩
  rw [← hn] at hm HR
  rw [← hmm] at hmb HB
  have HN := hid hn
  have HM := hid hmm
  simp only [← hn, ← hmm]
  clear hn hmm
  go_enter Tryd.func4, Tryd.ntmps4
  go_wp2_with fail
  refine (alive _).mono ?_
  rintro r w1 ⟨rfl, hs1⟩
  have S1 := hid hs1
  clear hs1
  by_cases h1 : 100 < n
  · go_wp2
    go_ret
    exact ⟨rfl, S1.out⟩
  by_cases h2 : 200 < m
  · go_wp2
    go_ret
    exact ⟨rfl, S1.out⟩
  go_wp2_with fail
  refine (live_new w w1 S1.out).mono ?_
  rintro r w2 ⟨rfl, h2', hs2⟩
  have hp2 := h2'.hp.lt
  have X2 := hid (Mix.mk (u := .slice (some ⟨w2.heap.size, 0, none⟩) 0 0) (st := []) (h2'.go ((Chg.refl _).alloc (.cells #[] 31))) (World.ownsRow_lit (base := 0) w2 #[] 0 (Nat.zero_le _) (by decide) rfl) (fun k e => by cases e; exact Nat.le_trans S1.out.size hs2.size) (fun k e h => by cases e; rcases h with h | h; (simp at h; omega); simp [Value.ownBlock] at h) (List.Perm.refl _))
  have S2 := hid (S1.out.trans hs2 (fun _ _ f => f))
  clear h2' hs2
  generalize w1.heap.size = p at *
  go_wp2_with fail
  go_loopw [6, 7, 29] (fun u kv iv wr => ∃ (k j : Nat) (v : Value) (es st : List (Int × Int)), k ≤ n ∧ j ≤ m ∧ st.length ≤ j ∧ kv = .int .i64 k ∧ iv = .int .i64 j ∧ Mix w wr p v u es st) (fun _ _ iv _ => m - (intOf iv).toNat)
  case atStart => exact ⟨0, 0, _, [], [], Nat.zero_le _, Nat.zero_le _, by simp, rfl, rfl, X2.out⟩
  case round =>
    obtain ⟨k, j, v, es, st, hk, hj, hlj, rfl, rfl, hX⟩ := hrel
    have X := hid hX
    clear hX X2
    by_cases hlt : j < m
    · obtain ⟨b, off, cap, e1, hb, hcl⟩ := HB.out.open (by omega)
      cases e1
      have hbj : (bs.map Value.bool)[j]? = some (.bool (bs[j]'(by have := HM.out; omega))) := by simp [show j < bs.length by have := HM.out; omega]
      have g1 := X.out.live.same.keep (hcl j _ hbj)
      clear hcl
      generalize (bs[j]'(by have := HM.out; omega)) = pop at *
      have hes : es.length ≤ 200 := by have := X.out.perm.length_eq; omega
      cases pop with
      | false =>
        by_cases hkn : k < n
        · obtain ⟨b2, off2, cap2, e1, hb2, hcl2⟩ := HR.out.open (by omega)
          cases e1
          have hxk := at_eq (es := xs) (k := k) (by have := HN.out; omega)
          have HG := hid (hcl2 (k * 2) _ (flat_0 _ _ _ hxk))
          have HG2 := hid (hcl2 (k * 2 + 1) _ (flat_1 _ _ _ hxk))
          have q1 := X.out.live.same.keep HG.out
          have q2 := X.out.live.same.keep HG2.out
          rw [← Nat.add_assoc] at q2
          clear hcl2
          generalize at_ xs k = e at *
          clear hxk
          go_wp2_with fail
          refine (live_push (X.out.live.go ((Chg.refl _).alloc _)) [e] _ 1 1 rfl (reads_lit #[.int .i64 e.1, .int .i64 e.2] _ 1 2 (by omega) rfl) (by intro b e _ h; cases e; have := X.out.live.hp.lt; rcases h with h | h; simp at h; omega; have := own_lt X.out.live.hp.own _ h.symm; simp at this) (by omega)).mono ?_
          rintro r w4 ⟨rfl, v4, es4, h4, hp4, hc4, hn4⟩
          have hrow0 := own_chg X.out.row ((Chg.refl _).alloc (.cells #[.int .i64 e.1, .int .i64 e.2] 31) : Same wr _) (fun _ _ f => f)
          have hrow := own_chg hrow0 hc4 (fun k hk => X.out.sep k hk)
          have hsep := X.out.sep.heap (own_lt hrow0) hn4
          obtain ⟨au, cu, rfl, -⟩ := own_slice X.out.row
          have HROW := hid hrow
          have HSEP := hid hsep
          have H4 := hid h4
          have HP4 := hid hp4
          have q3 := h4.same.keep HG.out
          have q4 := h4.same.keep HG2.out
          rw [← Nat.add_assoc] at q4
          clear hrow0 hrow hsep h4 hp4 hc4 hn4
          generalize hl : st.length = l at *
          have HL := hid hl
          clear hl
          go_wp2_with (at_builtin; refine wpList_app rfl _ _ 22 rfl 31 i0 (.agg #[.int .i64 0, .int .i64 0]) 2 16 Tryd.underlying22 hi hz0 hz1 hz2 rfl (by decide) _ l (flat st) rfl (own_chg (S := fun _ => False) HROW.out (by repeat (first | exact Chg.refl _ | refine Chg.drew ?_ | refine Chg.alloc _ ?_)) (fun _ _ f => f)) (some _) 1 1 (fl e) rfl (reads_blk (cs := #[.int .i64 e.1, .int .i64 e.2]) (E := 31) (f := (0, 0)) (by first | exact alloc_new _ _ | exact alloc2_new _ _ _) 1 1 2 rfl) (by intro u hu; simp [fl] at hu; rcases hu with rfl | rfl <;> rfl) (by omega) (by omega) ?_; intro a5 c5 w5 ho5 hg5 hn5)
          have hc5 : Chg (fun k => some k = (Value.slice au l cu).ownBlock) w4 w5 := (Chg.grown (by repeat (first | exact Chg.refl _ | refine Chg.drew ?_ | refine Chg.alloc _ ?_)) hg5 (fun k e _ => e.symm))
          have hn5' : NewOr w4 (.slice au l cu) (.slice a5 (l + 1) c5) := NewOr.trans (.inl rfl) (Chg.size (S := fun _ => False) (by repeat (first | exact Chg.refl _ | refine Chg.drew ?_ | refine Chg.alloc _ ?_))) hn5
          have X5 := hid (Mix.mk (H4.out.row hc5 HSEP.out X.out.new) (u := .slice a5 (l + 1) c5) (st := st ++ [e]) (by rw [flat_append, List.length_append, HL.out]; simpa [flat] using ho5) (hn5'.after X.out.new H4.out.same.size) (HSEP.out.row H4.out.hp hn5') (((X.out.perm.append_right _)).trans HP4.out.symm) : Mix w w5 p v4 (.slice a5 (l + 1) c5) es4 (st ++ [e]))
          clear hc5 hn5' ho5 hg5 hn5 q1 q2 q3 q4 g1
          go_wp2
          go_roundw
          case rel => exact ⟨k + 1, j + 1, _, _, _, by omega, by omega, by simp [HL.out]; omega, by go_num, by go_num, X5.out⟩
          case measure => simp [intOf]; omega
        · go_wp2
          go_roundw
          case rel => exact ⟨k, j + 1, v, es, st, hk, by omega, by omega, rfl, by go_num, X.out⟩
          case measure => simp [intOf]; omega
      | true =>
        by_cases h0 : 0 < es.length
        · go_wp2_with fail
          refine (live_pop X.out.live h0 (by omega)).mono ?_
          rintro r w6 ⟨e, v6, es6, rfl, h6, hp6, hl6, hc6, hn6⟩
          have hlst : st.length = es.length := X.out.perm.length_eq
          obtain ⟨gu, cu, rfl⟩ := own_shape X.out.row (by omega)
          have hrow := own_chg X.out.row hc6 (fun k hk => X.out.sep k hk)
          have hsep := X.out.sep.heap (own_lt X.out.row) hn6
          have hgb := own_lt hrow gu rfl
          have hQ := alloc_new w6 (.cells #[.int .i64 e.1, .int .i64 e.2] 31)
          have HROW := hid (own_chg hrow ((Chg.refl _).alloc (.cells #[.int .i64 e.1, .int .i64 e.2] 31) : Same w6 _) (fun _ _ f => f))
          have HSEP := hid hsep
          have H6 := hid (h6.go ((Chg.refl _).alloc (.cells #[.int .i64 e.1, .int .i64 e.2] 31)))
          have HP6 := hid hp6
          have hle : ∀ s ∈ st, le e s := fun s hs => by
            rcases List.mem_cons.1 (hp6.symm.subset (X.out.perm.subset hs)) with h | h
            · rw [h]; exact le_refl _
            · exact hl6 s h
          have hmem : e ∈ st := X.out.perm.symm.subset (hp6.subset List.mem_cons_self)
          have HLE := hid hle
          have HMEM := hid hmem
          have HQ := hid hQ
          clear hrow hsep h6 hp6 hl6 hc6 hn6 hle hmem hQ g1
          have hst0 : 0 < st.length := by omega
          have hst1 : st.length ≤ 200 := by omega
          have HLST := hid hlst
          clear hlst h0 hes
          generalize hl : st.length = l at *
          have HL := hid hl
          clear hl
          go_wp2_with fail
          generalize hw7 : w6.alloc (.cells #[.int .i64 e.1, .int .i64 e.2] 31) = w7 at *
          clear hw7
          generalize w6.heap.size = q at *
          go_loopw [12, 69] (fun av iv wx => ∃ i : Nat, i ≤ l ∧ iv = .int .i64 i ∧ Same w7 wx ∧ LastAt st e i av) (fun _ iv _ => l - (intOf iv).toNat)
          case atStart => exact ⟨0, Nat.zero_le _, rfl, Chg.refl _, .inr ⟨rfl, fun a h => by omega⟩⟩
          case round =>
            obtain ⟨i, hil, rfl, hsx, hla⟩ := hrel
            have HSX := hid hsx
            have HLA := hid hla
            clear hsx hla
            by_cases hli : i < l
            · have hai := at_eq (es := st) (k := i) (by have := HL.out; omega)
              have hsi : at_ st i ∈ st := List.mem_of_getElem? hai
              have r0 := HSX.out.keep ((HROW.out.cellAt (i * 2) (by omega)).trans (flat_0 _ _ _ hai))
              have r1 := HSX.out.keep ((HROW.out.cellAt (i * 2 + 1) (by omega)).trans (flat_1 _ _ _ hai))
              have hqx := HSX.out.heap HQ.out (fun f => f)
              have e0 := cell_of hqx 0
              have e1 := cell_of hqx 1
              have hqb := lt_of hqx
              have hle := (le_iff _ _).1 (HLE.out _ hsi)
              have hnext := LastAt.step HLA.out
              have HNEXT := hid hnext
              obtain ⟨b, rfl⟩ := HLA.out.int
              clear hnext hqx hai hsi
              obtain ⟨s1, s2, hs⟩ : ∃ s1 s2, at_ st i = (s1, s2) := ⟨_, _, rfl⟩
              obtain ⟨e1', e2'⟩ := e
              rw [hs] at r0 r1 hle HNEXT
              clear hs
              simp only at r0 r1 e0 e1 hle
              rcases hle with hlt2 | ⟨rfl, hle2⟩
              · have hne : ¬ s1 = e1' := by omega
                have hnl : ¬ s1 < e1' := by omega
                go_wp2
                go_roundw
                case rel => exact ⟨i + 1, by omega, by go_num, HSX.out.alloc _, HNEXT.out.2 (fun h => by cases h; omega)⟩
                case measure => simp [intOf]; omega
              · by_cases h2e : s2 = e2'
                · subst h2e
                  go_wp2
                  go_roundw
                  case rel => exact ⟨i + 1, by omega, by go_num, HSX.out.alloc _, HNEXT.out.1 rfl⟩
                  case measure => simp [intOf]; omega
                · have hnl : ¬ s2 < e2' := by omega
                  go_wp2
                  go_roundw
                  case rel => exact ⟨i + 1, by omega, by go_num, HSX.out.alloc _, HNEXT.out.2 (fun h => by cases h; omega)⟩
                  case measure => simp [intOf]; omega
            · have hie : i = l := by omega
              subst hie
              obtain ⟨t, rfl, htl, hte⟩ := HLA.out.found HL.out HMEM.out
              have HTE := hid hte
              clear hte
              go_wp2_with fail
              have hrow := own_chg HROW.out HSX.out (fun _ _ f => f)
              have hcap := own_cap hrow
              have hsrc := (Reads.of_own hrow).rest (t + 1) (cu - (t + 1)) (by omega) hcap
              rw [Nat.zero_add] at hsrc
              have hhead := own_take hrow t (by omega)
              have HHEAD := hid hhead
              have HSRC := hid hsrc
              have hw1 : IntKind.i64.wrap ((t : Int) + 1) = (t : Int) + 1 := IntWalk.i64_in _ (by omega)
              have hw2 : (0 : Int) ≤ (t : Int) + 1 := by omega
              have hw3 : ((t : Int) + 1).toNat = t + 1 := by omega
              have hw4 : t + 1 ≤ i := by omega
              have hw5 : t + 1 ≤ cu := by omega
              have hw6 : t ≤ cu := by omega
              have hw7 : (t : Int) + 1 ≤ (i : Int) := by omega
              have hw8 : (t : Int) + 1 ≤ (cu : Int) := by omega
              have hw9 : (t : Int) ≤ (cu : Int) := by omega
              have HUB := hid (flat_one st)
              clear hrow hsrc hhead hcap
              go_region_law (refine step_app rfl (.tmp 104) (.tmp 108) 22 rfl 31 i0 (.agg #[.int .i64 0, .int .i64 0]) 2 16 Tryd.underlying22 hi hz0 hz1 hz2 rfl (by decide) (.slice (some ⟨gu, 0, none⟩) t cu) t ((flat st).take (t * 2)) (by simp [Act.eval, Act.put]) (by exact own_chg (S := fun _ => False) HHEAD.out (by repeat (first | exact Chg.refl _ | refine Chg.drew ?_)) (fun _ _ f => f)) (if cu = t + 1 then some ⟨gu, 0, none⟩ else some ⟨gu, (t + 1) * 2, none⟩) (i - (t + 1)) (cu - (t + 1)) ((flat st).drop ((t + 1) * 2)) (by simp [Act.eval, Act.put]) (by exact HSRC.out.same (by repeat (first | exact Chg.refl _ | refine Chg.drew ?_))) (fun u hu => HUB.out u (List.mem_of_mem_drop hu)) (by omega) (by omega) ?_; intro a8 c8 w8; rw [show t + (i - (t + 1)) = i - 1 from by omega]; intro ho8 hg8 hn8)
              have hc8 : Chg (fun k => some k = (Value.slice (some ⟨gu, 0, none⟩) i cu).ownBlock) wr w8 := Chg.grown (by repeat (first | exact Chg.refl _ | refine Chg.drew ?_)) hg8 (fun k e _ => e.symm)
              have hn8' : NewOr wr (.slice (some ⟨gu, 0, none⟩) i cu) (.slice a8 (i - 1) c8) := by
                rcases hn8 with h | h
                · exact .inl h
                · exact .inr h
              have hti : t < st.length := by have := HL.out; omega
              have hle : (st.eraseIdx t).length = i - 1 := by rw [List.length_eraseIdx]; simp [hti]; have := HL.out; omega
              have hfl : (flat st).take (t * 2) ++ (flat st).drop ((t + 1) * 2) = flat (st.eraseIdx t) := by rw [List.eraseIdx_eq_take_drop_succ, flat_append, flat_take, flat_drop]
              have hpm : (st.eraseIdx t).Perm es6 := by
                have h1 := erase_perm st t hti
                have h2 : st[t] = e := by have := HTE.out; simpa [at_, List.getD, hti] using this
                rw [h2] at h1
                exact List.Perm.cons_inv (h1.trans (X.out.perm.trans HP6.out.symm))
              have hnew := hn8'.after X.out.new (H6.out.go HSX.out).same.size
              have hlen6 : es6.length = i - 1 := by rw [← hpm.length_eq]; exact hle
              have X8 := hid (Mix.mk ((H6.out.go HSX.out).row hc8 HSEP.out X.out.new) (u := .slice a8 (i - 1) c8) (st := st.eraseIdx t) (by rw [hle, ← hfl]; exact ho8) hnew (HSEP.out.row (H6.out.go HSX.out).hp hn8') hpm : Mix w w8 p v6 (.slice a8 (i - 1) c8) es6 (st.eraseIdx t))
              have HLE8 := hid hle
              have HLEN6 := hid hlen6
              clear hc8 hn8' hti hle hfl hpm hnew hlen6 ho8 hg8 hn8 HHEAD HSRC HUB hw1 hw2 hw3 hw4 hw5 hw6 hw7 hw8 hw9
              go_wp2_with (go_at_call 17; refine (len_any p v6 es6 _ X8.out.live.hp).mono ?_; rintro r w9 ⟨rfl, rfl⟩; rw [HLEN6.out])
              go_roundw
              case rel => exact ⟨k, j + 1, v6, es6, st.eraseIdx t, hk, by omega, by rw [HLE8.out]; omega, rfl, by go_num, X8.out⟩
              case measure => simp [intOf]; omega
        · have hst : st = [] := List.eq_nil_of_length_eq_zero (by have := X.out.perm.length_eq; omega)
          have hes0 : es = [] := List.eq_nil_of_length_eq_zero (by omega)
          subst hst
          subst hes0
          clear h0
          go_wp2_with fail
          refine (pop_none p v _ X.out.live.hp T ex (X.out.live.same.keep HE.out)).mono ?_
          rintro r w6 ⟨rfl, hs6⟩
          have X6 := hid (X.out.go hs6)
          clear hs6
          obtain ⟨au, cu, rfl, -⟩ := own_slice X.out.row
          clear X g1 hbj hes hlj
          simp only [List.length_nil] at X6 ⊢
          go_wp2_with fail
          refine wp_loop_rounds 1 ?_
          rw [rounds_succ]
          go_wp2_with fail
          refine (len_any p v [] _ (X6.out.go ((Chg.refl _).alloc _)).live.hp).mono ?_
          rintro r w7 ⟨rfl, rfl⟩
          go_wp2
          go_roundw
          case rel => exact ⟨k, j + 1, v, [], [], hk, by omega, by simp, rfl, by go_num, X6.out.go ((Chg.refl _).alloc _)⟩
          case measure => simp [intOf]; omega
    · go_wp2
      go_ret
      exact ⟨rfl, X.out.live.same⟩
end Go.Proofs.YtminjgfobcnmhaaDoor.HeapMixed
