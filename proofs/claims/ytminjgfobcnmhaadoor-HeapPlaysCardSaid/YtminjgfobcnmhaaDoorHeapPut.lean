/-
  Package paddockref10: Put.
-/
import Derived.Test.YtminjgfobcnmhaaDoorHeapSort
import Derived.Test.YtminjgfobcnmhaaDoorPart
namespace Go.Proofs.YtminjgfobcnmhaaDoor.Hp
open Go Go.RowKit

theorem infoR : (Tryd.prog.info? 64).map (fun i => (i.zero, i.size, i.bytes)) = some (some (.agg #[.int .i64 0, .int .i64 0]), 2, 16) := by kernel_rfl

theorem flat_drop (xs : List (Int × Int)) (k : Nat) : (flat xs).drop (k * 2) = flat (xs.drop k) := by
  have h := flat_append (xs.take k) (xs.drop k)
  rw [List.take_append_drop] at h
  by_cases hk : k ≤ xs.length
  · rw [h, List.drop_append_of_le_length (by rw [flat_length, List.length_take]; omega), List.drop_eq_nil_of_le (by rw [flat_length, List.length_take]; omega), List.nil_append]
  · rw [List.drop_eq_nil_of_le (by rw [flat_length]; omega), List.drop_eq_nil_of_le (by omega)]; rfl

/-- An entry is put into a row at the place k. -/
def ins (l : List (Int × Int)) (k : Nat) (e : Int × Int) : List (Int × Int) := l.take k ++ e :: l.drop k
/-- .. its right place. -/
structure Place (l : List (Int × Int)) (k : Nat) (e : Int × Int) : Prop where
  le : k ≤ l.length
  low : k = 0 ∨ ah e (at_ l (k - 1)) = false
  high : ∀ j, k ≤ j → j < l.length → ah e (at_ l j) = true
theorem ins_length (l : List (Int × Int)) (k : Nat) (e : Int × Int) (h : k ≤ l.length) : (ins l k e).length = l.length + 1 := by simp [ins]; omega
theorem ins_perm (l : List (Int × Int)) (k : Nat) (e : Int × Int) : (ins l k e).Perm (e :: l) := by
  unfold ins
  refine List.perm_middle.trans ?_
  rw [List.take_append_drop]
theorem rising_at {l : List (Int × Int)} (h : Rising l) {i j : Nat} (hij : i ≤ j) (hj : j < l.length) : le (at_ l i) (at_ l j) := by
  rcases Nat.lt_or_eq_of_le hij with hlt | rfl
  · have := List.pairwise_iff_getElem.1 h i j (by omega) hj hlt
    simpa [at_, List.getD, hj, show i < l.length by omega] using this
  · exact le_refl _
theorem ins_rising (l : List (Int × Int)) (k : Nat) (e : Int × Int) (h : Rising l) (hp : Place l k e) : Rising (ins l k e) := by
  have hlow : ∀ a ∈ l.take k, le a e := by
    intro a ha
    obtain ⟨i, hi, rfl⟩ := List.mem_iff_getElem.1 ha
    simp at hi
    rcases hp.low with h0 | h0
    · omega
    · have h1 := rising_at h (i := i) (j := k - 1) (by omega) (by have := hp.le; omega)
      have h2 : le (at_ l (k - 1)) e := h0
      have := le_trans h1 h2
      simpa [at_, List.getD, show i < l.length by omega] using this
  have hhigh : ∀ b ∈ l.drop k, le e b := by
    intro b hb
    obtain ⟨i, hi, rfl⟩ := List.mem_iff_getElem.1 hb
    simp at hi
    have := le_of_ah (hp.high (k + i) (by omega) (by omega))
    simpa [at_, List.getD, show k + i < l.length by omega] using this
  unfold ins
  refine List.pairwise_append.2 ⟨List.Pairwise.sublist (List.take_sublist _ _) h, List.pairwise_cons.2 ⟨hhigh, List.Pairwise.sublist (List.drop_sublist _ _) h⟩, ?_⟩
  intro a ha b hb
  rcases List.mem_cons.1 hb with rfl | hb
  · exact hlow a ha
  · exact le_trans (hlow a ha) (hhigh b hb)

theorem flat_ins (l : List (Int × Int)) (k : Nat) (e : Int × Int) : flat (ins l k e) = (flat l).take (k * 2) ++ fl e ++ (flat l).drop (k * 2) := by
  unfold ins
  rw [flat_append, flat_take, flat_drop]
  simp [flat]

set_option maxRecDepth 100000 in
set_option maxHeartbeats 2000000 in
theorem put_some (l : List (Int × Int)) (e : Int × Int) (b off cap n : Nat) (w : World) (hn : n = l.length) (hr : Reads w (.slice (some ⟨b, off, none⟩) n cap) n 2 (flat l)) (hc : n ≤ cap) (hm : n ≤ 100000) (hb : b < w.heap.size) :
    Calls Tryd.prog 28 #[.slice (some ⟨b, off, none⟩) n cap, ev e] w fun r w' => ∃ u, r = .returned u ∧ ∃ k, Place l k e ∧ Fresh w w' 64 2 u (n + 1) (flat (ins l k e)) ∧ Same w w' := by
  obtain ⟨i0, hi, hz0, hz1, hz2⟩ := info_parts infoR
  have HN := hid hn
  have HR := hid hr
  clear hr hn
  have hs0 : ∀ o, Same w (w.alloc o) := fun o => (Chg.refl _).alloc o
  have HS0 := hid (hs0 (.cells #[.int .i64 e.1, .int .i64 e.2] 64))
  have HQ := hid (alloc_new w (.cells #[.int .i64 e.1, .int .i64 e.2] 64))
  clear hs0
  go_enter Tryd.func28, Tryd.ntmps28
  go_wp2_with fail
  generalize w.alloc (.cells #[.int .i64 e.1, .int .i64 e.2] 64) = w1 at *
  generalize hq : w.heap.size = q at *
  have HW := hid hq
  clear hq
  go_loopw [5] (fun kv wr => ∃ k : Nat, k ≤ n ∧ kv = .int .i64 k ∧ Same w1 wr ∧ ∀ j, k ≤ j → j < n → ah e (at_ l j) = true) (fun kv _ => (intOf kv).toNat)
  case atStart => exact ⟨n, Nat.le_refl _, rfl, Chg.refl _, fun j h1 h2 => by omega⟩
  case round =>
    obtain ⟨k, hk, rfl, hs, hhi⟩ := hrel
    have HS := hid hs
    have HH := hid hhi
    clear hs hhi
    have hqx := HS.out.heap HQ.out (fun f => f)
    have hqb := lt_of hqx
    have e0 := cell_of hqx 0
    have e1 := cell_of hqx 1
    clear hqx
    by_cases hcont : 0 < k ∧ ah e (at_ l (k - 1)) = true
    · obtain ⟨hk0, hah⟩ := hcont
      obtain ⟨j, hj⟩ : ∃ j, k = j + 1 := ⟨k - 1, by omega⟩
      obtain ⟨b', off', cap', e2, hb2, hcl⟩ := HR.out.open (by omega)
      cases e2
      have hak := at_eq (es := l) (k := j) (by have := HN.out; omega)
      have g1 := HS.out.keep (HS0.out.keep (hcl (j * 2) _ (flat_0 _ _ _ hak)))
      have g2 := HS.out.keep (HS0.out.keep (hcl (j * 2 + 1) _ (flat_1 _ _ _ hak)))
      rw [← Nat.add_assoc] at g2
      have HNX := hid (show ∀ i, j ≤ i → i < n → ah e (at_ l i) = true from fun i h1 h2 => by
        rcases Nat.lt_or_eq_of_le h1 with h | h
        · exact HH.out i (by omega) h2
        · rw [← h]; rw [show k - 1 = j by omega] at hah; exact hah)
      rw [show k - 1 = j by omega, ah_iff] at hah
      have hjn : j < n := by omega
      have hw1 : IntKind.i64.wrap ((k : Int) - 1) = (j : Int) := by rw [hj, show (((j + 1 : Nat) : Int) - 1) = (j : Int) by omega]; exact IntWalk.i64_in _ (by omega)
      have hd : decide ((0 : Int) < (k : Int)) = true := by simp; omega
      have HJ := hid hj
      clear hcl hak hj
      generalize at_ l j = a at *
      rcases hah with c1 | ⟨c1, c2⟩
      · have hd1 : decide (e.1 < a.1) = true := by simpa using c1
        go_wp2_with fail
        go_quiet (fail)
        go_wp2
        go_roundw
        case rel => exact ⟨j, by omega, by have := HJ.out; go_num, HS.out.drewN _, HNX.out⟩
        case measure => have := HJ.out; simp [intOf]; omega
      · have hd1 : decide (e.1 < a.1) = false := by simp; omega
        have hd2 : (a.1 == e.1) = true := by simp [c1]
        have hd3 : decide (e.2 < a.2) = true := by simpa using c2
        have C1 := hid c1
        clear c1
        go_wp2_with fail
        go_quiet (fail)
        go_wp2
        go_roundw
        case rel => exact ⟨j, by omega, by have := HJ.out; go_num, HS.out.drewN _, HNX.out⟩
        case measure => have := HJ.out; simp [intOf]; omega
    · have HP := hid (Place.mk (l := l) (k := k) (e := e) (by have := HN.out; omega) (by
        rcases Nat.eq_zero_or_pos k with h | h
        · exact .inl h
        · refine .inr ?_
          cases hb : ah e (at_ l (k - 1)) with
          | false => rfl
          | true => exact absurd ⟨h, hb⟩ hcont) (fun j h1 h2 => HH.out j h1 (by have := HN.out; omega)))
      have hstop : k = 0 ∨ ∃ j a, k = j + 1 ∧ l[j]? = some a ∧ ah e a = false := by
        rcases Nat.eq_zero_or_pos k with h | h
        · exact .inl h
        · refine .inr ⟨k - 1, at_ l (k - 1), by omega, at_eq (by have := HN.out; omega), ?_⟩
          rcases HP.out.low with h0 | h0
          · omega
          · exact h0
      clear hcont
      have hsplit : (k = 0) ∨ (∃ (j : Nat) (a : Int × Int), k = j + 1 ∧ l[j]? = some a ∧ a.1 < e.1) ∨ (∃ (j : Nat) (a : Int × Int), k = j + 1 ∧ l[j]? = some a ∧ a.1 = e.1 ∧ a.2 ≤ e.2) := by
        rcases hstop with h | ⟨j, a, h1, h2, h3⟩
        · exact .inl h
        · have h4 : le a e := h3
          rw [le_iff] at h4
          rcases h4 with h4 | h4
          · exact .inr (.inl ⟨j, a, h1, h2, h4⟩)
          · exact .inr (.inr ⟨j, a, h1, h2, h4⟩)
      clear hstop
      rcases hsplit with h0 | ⟨j, a, hj, hak, hc1⟩ | ⟨j, a, hj, hak, hc1, hc2⟩
      case' inl =>
        have hd : decide ((0 : Int) < (k : Int)) = false := by simp; omega
        clear h0
        generalize hx : (k : Int) = x at hd ⊢
        have HXK := hid hx
        clear hx
        go_wp2_with fail
        go_quiet (fail)
        have hx := HXK.out
        subst hx
      case' inr.inl =>
        obtain ⟨b', off', cap', e2, hb2, hcl⟩ := HR.out.open (by omega)
        cases e2
        have g1 := HS.out.keep (HS0.out.keep (hcl (j * 2) _ (flat_0 _ _ _ hak)))
        have g2 := HS.out.keep (HS0.out.keep (hcl (j * 2 + 1) _ (flat_1 _ _ _ hak)))
        rw [← Nat.add_assoc] at g2
        have hjn : j < n := by omega
        have hw1 : IntKind.i64.wrap ((k : Int) - 1) = (j : Int) := by rw [hj, show (((j + 1 : Nat) : Int) - 1) = (j : Int) by omega]; exact IntWalk.i64_in _ (by omega)
        have hd : decide ((0 : Int) < (k : Int)) = true := by simp; omega
        have hk0 : 0 < k := by omega
        have hd1 : decide (e.1 < a.1) = false := by simp; omega
        have hd2 : (a.1 == e.1) = false := by simp; omega
        clear hcl hak hj
        go_wp2_with fail
        go_quiet (fail)
      case' inr.inr =>
        obtain ⟨b', off', cap', e2, hb2, hcl⟩ := HR.out.open (by omega)
        cases e2
        have g1 := HS.out.keep (HS0.out.keep (hcl (j * 2) _ (flat_0 _ _ _ hak)))
        have g2 := HS.out.keep (HS0.out.keep (hcl (j * 2 + 1) _ (flat_1 _ _ _ hak)))
        rw [← Nat.add_assoc] at g2
        have hjn : j < n := by omega
        have hw1 : IntKind.i64.wrap ((k : Int) - 1) = (j : Int) := by rw [hj, show (((j + 1 : Nat) : Int) - 1) = (j : Int) by omega]; exact IntWalk.i64_in _ (by omega)
        have hd : decide ((0 : Int) < (k : Int)) = true := by simp; omega
        have hk0 : 0 < k := by omega
        have hd1 : decide (e.1 < a.1) = false := by simp; omega
        have hd2 : (a.1 == e.1) = true := by simp [hc1]
        have hd3 : decide (e.2 < a.2) = false := by simp; omega
        clear hcl hak hj hc1
        go_wp2_with fail
        go_quiet (fail)
      all_goals
        have hsx : Same w (wr.drewN nq) := (HS0.out.trans HS.out (fun _ _ f => f)).drewN _
        have hqx := (HS.out.drewN nq).heap HQ.out (fun f => f)
        generalize wr.drewN nq = w2 at *
        have HX := hid hsx
        have hqb2 := lt_of hqx
        have e02 := cell_of hqx 0
        have e12 := cell_of hqx 1
        have hb2' : b < w2.heap.size := Nat.lt_of_lt_of_le (by have := HW.out; omega) hsx.size
        have HRH := hid ((HR.out.same hsx).head k cap hk)
        have hrt := fun c' => (HR.out.same hsx).rest k c' hk hc
        have HQX := hid hqx
        have HUB := hid (flat_one l)
        have hkc : k ≤ cap := by omega
        have hkn : (k : Int) ≤ (n : Int) := by omega
        have hkn0 : k ≤ n := hk
        clear hsx hqx e0 e1 hqb HS
        rcases Nat.lt_or_eq_of_le hkc with hck | hck
      all_goals first | subst hck | skip
      all_goals
        first | rw [if_neg (show ¬ cap = k by omega)] at hrt | rw [if_pos rfl] at hrt
        have HRT := hid hrt
        clear hrt
        try have hcne : ¬ cap = k := by omega
        go_wp2_with (at_builtin; first
          | (refine wpList_app rfl _ _ 62 rfl 64 i0 (.agg #[.int .i64 0, .int .i64 0]) 2 16 Tryd.underlying62 hi hz0 hz1 hz2 rfl (by decide) _ 0 [] rfl (World.ownsRow_lit (base := 0) w2 #[] 0 (Nat.zero_le _) (by decide) rfl) (some _) k _ ((flat l).take (k * 2)) rfl (HRH.out.same ((Chg.refl _).alloc _)) (fun u hu => HUB.out u (List.mem_of_mem_take hu)) (by omega) (by omega) ?_; intro a3 c3 w3; rw [show 0 + k = k from Nat.zero_add _, List.nil_append]; intro ho3 hg3 hn3; have hs3 : Same w2 w3 := Chg.grown ((Chg.refl _).alloc _) hg3 (fun k e hk => absurd hk (by have : w2.heap.size = k := Option.some.inj e; omega)); have hq3 := hs3.heap HQX.out (fun f => f); have e03 := cell_of hq3 0; have e13 := cell_of hq3 1; have ht3 : After w2 (.slice a3 k c3) := hn3.after (fun i e => by cases e; exact Nat.le_refl _) (by simp); have HT3 := hid ht3; clear hq3 ht3)
          | (refine wpList_app rfl _ _ 62 rfl 64 i0 (.agg #[.int .i64 0, .int .i64 0]) 2 16 Tryd.underlying62 hi hz0 hz1 hz2 rfl (by decide) _ k ((flat l).take (k * 2)) rfl (own_chg (S := fun _ => False) ho3 ((Chg.refl _).alloc _) (fun _ _ f => f)) (some _) 1 1 (fl e) rfl (reads_blk (cs := #[.int .i64 e.1, .int .i64 e.2]) (E := 64) (f := (0, 0)) (alloc_new _ _) 1 1 2 rfl) (by intro u hu; simp [fl] at hu; rcases hu with rfl | rfl <;> rfl) (by omega) (by omega) ?_; intro a4 c4 w4 ho4 hg4 hn4; have hs4 : Same w2 w4 := hs3.new (S := fun i => some i = (Value.slice a3 k c3).ownBlock) (Chg.grown ((Chg.refl _).alloc _) hg4 (fun k e _ => e.symm)) (fun i hi => HT3.out i hi.symm); have ht4 : After w2 (.slice a4 (k + 1) c4) := hn4.after HT3.out (Nat.le_trans hs3.size (by simp)); have HT4 := hid ht4; clear ht4)
          | (refine wpList_app rfl _ _ 62 rfl 64 i0 (.agg #[.int .i64 0, .int .i64 0]) 2 16 Tryd.underlying62 hi hz0 hz1 hz2 rfl (by decide) _ (k + 1) ((flat l).take (k * 2) ++ fl e) rfl ho4 (some ⟨b, off + k * 2, none⟩) (n - k) _ ((flat l).drop (k * 2)) rfl ((HRT.out _).same hs4) (fun u hu => HUB.out u (List.mem_of_mem_drop hu)) (by omega) (by omega) ?_; intro a5 c5 w5; rw [show k + 1 + (n - k) = n + 1 by omega]; intro ho5 hg5 hn5)
          | (refine wpList_app rfl _ _ 62 rfl 64 i0 (.agg #[.int .i64 0, .int .i64 0]) 2 16 Tryd.underlying62 hi hz0 hz1 hz2 rfl (by decide) _ (k + 1) ((flat l).take (k * 2) ++ fl e) rfl ho4 (some ⟨b, off, none⟩) 0 0 ((flat l).drop (k * 2)) rfl (by have h := (HRT.out 0).same hs4; rw [show n - k = 0 by omega] at h; exact h) (fun u hu => HUB.out u (List.mem_of_mem_drop hu)) (by omega) (by omega) ?_; intro a5 c5 w5 ho5 hg5 hn5))
        go_ret
        have hs5 : Same w2 w5 := hs4.new (S := fun i => some i = (Value.slice a4 (k + 1) c4).ownBlock) (Chg.grown (Chg.refl _) hg5 (fun k e _ => e.symm)) (fun i hi => HT4.out i hi.symm)
        have ht5 := hn5.after HT4.out hs4.size
        exact ⟨_, rfl, k, HP.out, ⟨by rw [flat_ins]; first | exact ho5 | (rw [show n + 1 = k + 1 + 0 by omega]; exact ho5), fun i hi => Nat.le_trans HX.out.size (ht5 i hi)⟩, HX.out.trans hs5 (fun _ _ f => f)⟩
end Go.Proofs.YtminjgfobcnmhaaDoor.Hp
