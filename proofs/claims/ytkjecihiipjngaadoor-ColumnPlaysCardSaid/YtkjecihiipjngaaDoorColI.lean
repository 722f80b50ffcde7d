/-
  The methods of column.Column[int], each by its contract.
-/
import Derived.Test.YtkjecihiipjngaaDoorCol
namespace Go.Proofs.YtkjecihiipjngaaDoor.ColI
open Go Go.RowKit

theorem info : (Tryd.prog.info? 3).map (fun i => (i.zero, i.size, i.bytes)) = some (some (.int .i64 0), 1, 8) := by kernel_rfl
theorem zeroE : ∀ w, (zeroValue 3).run Tryd.prog w = .ok (.int .i64 0) w := by intro w; kernel_rfl

theorem new_any (m : Int) (w : World) :
    Calls Tryd.prog 38 #[.int .i64 m] w fun r w' => r = .returned (.pointer (some ⟨w.heap.size, 0, none⟩)) ∧ Col 94 3 w' w.heap.size (.slice none 0 0) [] (max m 0) ∧ Same w w' ∧ w'.heap.size = w.heap.size + 1 := by
  go_enter Tryd.func38, Tryd.ntmps38
  go_wp2
  · go_ret
    refine ⟨rfl, ⟨?_, World.ownsRow_nil _ _ _ _, by simp [Value.ownBlock]⟩, (Chg.refl _).alloc _, by simp⟩
    rw [show max m 0 = 0 by omega]; exact alloc_new _ _
  · go_ret
    refine ⟨rfl, ⟨?_, World.ownsRow_nil _ _ _ _, by simp [Value.ownBlock]⟩, (Chg.refl _).alloc _, by simp⟩
    rw [show max m 0 = m by omega]; exact alloc_new _ _

set_option maxRecDepth 100000 in
theorem push_full (p : Nat) (v : Value) (xs : List Value) (m : Int) (ad : Option Addr) (n c : Nat) (w : World) (h : Col 94 3 w p v xs m) (hm : 0 ≤ m ∧ m ≤ 9223372036854775807) (hn : n ≤ 9223372036854775807) (hf : m - xs.length < n) (e : Value) (he : w.cell? ⟨0, 0, none⟩ = some e) :
    Calls Tryd.prog 39 #[.pointer (some ⟨p, 0, none⟩), .slice ad n c] w fun r w' => r = .returned e ∧ Same w w' := by
  obtain ⟨a, cp, rfl⟩ := h.shape
  have h0 := h.c0
  have h1 := h.c1
  have hx := h.max
  clear h
  go_enter Tryd.func39, Tryd.ntmps39
  go_wp2
  go_quiet (fail)
  go_wp2
  go_ret
  exact ⟨rfl, (Chg.refl _).drewN _⟩

set_option maxRecDepth 100000 in
theorem push_ok (p : Nat) (v : Value) (xs ys : List Value) (m : Int) (ad : Option Addr) (n c : Nat) (w : World) (h : Col 94 3 w p v xs m) (hm : 0 ≤ m ∧ m ≤ 9223372036854775807)
    (hr : Reads w (.slice ad n c) n 1 ys) (h1y : ∀ u ∈ ys, u.oneCell' = true) (hf : n ≤ m - xs.length) (hb : (xs.length + n) * 8 ≤ 140737488355328) :
    Calls Tryd.prog 39 #[.pointer (some ⟨p, 0, none⟩), .slice ad n c] w fun r w' => r = .returned .nilIface ∧ ∃ v', Col 94 3 w' p v' (xs ++ ys) m ∧ Chg (ColS p v) w w' ∧ NewOr w v v' := by
  obtain ⟨i0, hi, hz0, hz1, hz2⟩ := info_parts info
  obtain ⟨a, cp, rfl⟩ := h.shape
  have h0 := h.c0
  have h1 := h.c1
  have hf0 := h.f 0
  have hx := h.max
  have hl : ys.length = n := by obtain ⟨_, _, _, hl, _⟩ := hr; omega
  have hlt := h.lt
  have H := hid h
  have HR := hid hr
  have HL := hid hl
  clear h hr hl
  go_enter Tryd.func39, Tryd.ntmps39
  go_wp2
  go_quiet (fail)
  go_wp2_with (at_builtin; refine wpList_app rfl _ _ 23 rfl 3 i0 (.int .i64 0) 1 8 Tryd.underlying23 hi hz0 hz1 hz2 rfl (by decide) _ _ _ rfl H.out.own ad n c ys rfl HR.out h1y (by omega) hb ?_)
  intro a' c' w1 hown hg hv
  have hch : Chg (fun k => some k = (Value.slice a xs.length cp).ownBlock) w w1 := ((Chg.refl w).drewN nq).grown hg (fun k e _ => e.symm)
  have hb := hch.heap H.out.blk (fun e => H.out.ne e.symm)
  have g0 := cell_of hb 0
  have gf := free_of hb 0
  have hst := hid (H.out.store (xs' := xs ++ ys) hch (by rw [List.length_append, HL.out]; exact hown) hv)
  have HV := hid hv
  clear hv hb hown hg hch
  go_wp2
  go_ret
  exact ⟨rfl, _, hst.out.1, hst.out.2, HV.out⟩

theorem len_any (p : Nat) (v : Value) (xs : List Value) (m : Int) (w : World) (h : Col 94 3 w p v xs m) :
    Calls Tryd.prog 41 #[.pointer (some ⟨p, 0, none⟩)] w fun r w' => r = .returned (.int .i64 xs.length) ∧ w = w' := by
  obtain ⟨a, cp, rfl⟩ := h.shape
  have h0 := h.c0
  clear h
  go_enter Tryd.func41, Tryd.ntmps41
  go_wp2
  go_ret
  exact ⟨rfl, rfl⟩

theorem most_any (p : Nat) (v : Value) (xs : List Value) (m : Int) (w : World) (h : Col 94 3 w p v xs m) :
    Calls Tryd.prog 45 #[.pointer (some ⟨p, 0, none⟩)] w fun r w' => r = .returned (.int .i64 m) ∧ w = w' := by
  have h0 := h.c1
  clear h
  go_enter Tryd.func45, Tryd.ntmps45
  go_wp2
  go_ret
  exact ⟨rfl, rfl⟩

set_option maxRecDepth 100000 in
theorem at_in (p : Nat) (v : Value) (xs : List Value) (m : Int) (i : Nat) (w : World) (h : Col 94 3 w p v xs m) (hi : i < xs.length) :
    Calls Tryd.prog 66 #[.pointer (some ⟨p, 0, none⟩), .int .i64 i] w fun r w' => (∃ g, v.ownBlock = some g ∧ r = .returned (.pointer (some ⟨g, i, none⟩))) ∧ w = w' := by
  have hx := h.max
  obtain ⟨g, cp, rfl⟩ := own_shape h.own (by omega)
  have h0 := h.c0
  clear h
  go_enter Tryd.func66, Tryd.ntmps66
  go_wp2
  go_ret
  exact ⟨⟨g, rfl, rfl⟩, rfl⟩

set_option maxRecDepth 100000 in
theorem at_out (p : Nat) (v : Value) (xs : List Value) (m : Int) (i : Int) (w : World) (h : Col 94 3 w p v xs m) (hi : i < 0 ∨ xs.length ≤ i) :
    Calls Tryd.prog 66 #[.pointer (some ⟨p, 0, none⟩), .int .i64 i] w fun r w' => r = .returned (.pointer none) ∧ w = w' := by
  have hx := h.max
  obtain ⟨a, cp, rfl⟩ := h.shape
  have h0 := h.c0
  clear h
  by_cases h2 : i < 0
  all_goals
    go_enter Tryd.func66, Tryd.ntmps66
    go_wp2
    go_ret
    exact ⟨rfl, rfl⟩

set_option maxRecDepth 100000 in
theorem get_out (p : Nat) (v : Value) (xs : List Value) (m : Int) (i : Int) (w : World) (h : Col 94 3 w p v xs m) (hi : i < 0 ∨ xs.length ≤ i) (e : Value) (he : w.cell? ⟨1, 0, none⟩ = some e) :
    Calls Tryd.prog 49 #[.pointer (some ⟨p, 0, none⟩), .int .i64 i] w fun r w' => r = .returned (.tuple #[(.int .i64 0), e]) ∧ Same w w' := by
  have H := hid h
  clear h
  go_enter Tryd.func49, Tryd.ntmps49
  go_wp2_with (go_at_call 66; refine (at_out _ _ _ _ _ _ H.out hi).mono ?_; rintro r w' ⟨rfl, rfl⟩)
  go_quiet (fail)
  go_wp2
  go_ret2
  exact ⟨rfl, (Chg.refl _).drewN _⟩

set_option maxRecDepth 100000 in
theorem get_in (p : Nat) (v : Value) (xs : List Value) (m : Int) (i : Nat) (w : World) (h : Col 94 3 w p v xs m) (x : Value) (hi : xs[i]? = some x) :
    Calls Tryd.prog 49 #[.pointer (some ⟨p, 0, none⟩), .int .i64 i] w fun r w' => r = .returned (.tuple #[x, .nilIface]) ∧ Same w w' := by
  have hl := (List.getElem?_eq_some_iff.1 hi).1
  obtain ⟨g, cp, rfl⟩ := own_shape h.own (by omega)
  have hc := (h.own.cellAt i (by omega)).trans hi
  have H := hid h
  clear h hi
  go_enter Tryd.func49, Tryd.ntmps49
  go_wp2_with (go_at_call 66; refine (at_in _ _ _ _ _ _ H.out hl).mono ?_; rintro r w' ⟨⟨g', hg, rfl⟩, rfl⟩; obtain rfl : g = g' := by simpa [Value.ownBlock] using hg)
  go_ret2
  exact ⟨rfl, Chg.refl _⟩

set_option maxRecDepth 100000 in
theorem set_out (p : Nat) (v : Value) (xs : List Value) (m : Int) (i : Int) (x : Value) (w : World) (h : Col 94 3 w p v xs m) (hi : i < 0 ∨ xs.length ≤ i) (e : Value) (he : w.cell? ⟨1, 0, none⟩ = some e) :
    Calls Tryd.prog 51 #[.pointer (some ⟨p, 0, none⟩), .int .i64 i, x] w fun r w' => r = .returned e ∧ Same w w' := by
  have H := hid h
  clear h
  go_enter Tryd.func51, Tryd.ntmps51
  go_wp2_with (go_at_call 66; refine (at_out _ _ _ _ _ _ H.out hi).mono ?_; rintro r w' ⟨rfl, rfl⟩)
  go_ret
  exact ⟨rfl, Chg.refl _⟩

set_option maxRecDepth 100000 in
theorem set_in (p : Nat) (v : Value) (xs : List Value) (m : Int) (i : Nat) (s : Int) (w : World) (h : Col 94 3 w p v xs m) (hi : i < xs.length) :
    Calls Tryd.prog 51 #[.pointer (some ⟨p, 0, none⟩), .int .i64 i, Value.int .i64 s] w fun r w' => r = .returned .nilIface ∧ Col 94 3 w' p v (xs.set i (Value.int .i64 s)) m ∧ Chg (ColS p v) w w' := by
  obtain ⟨g, cp, rfl⟩ := own_shape h.own (by omega)
  have hc := (h.own.cellAt i (by omega)).trans (List.getElem?_eq_getElem hi)
  have hf := h.own.frozenAt i
  have hst := (h.own.stored i (Value.int .i64 s)).1
  have fin : Col 94 3 (w.setCell ⟨g, i, none⟩ (Value.int .i64 s)) p (.slice (some ⟨g, 0, none⟩) xs.length cp) (xs.set i (Value.int .i64 s)) m := by
    refine ⟨?_, by simpa using hst, h.ne⟩
    rw [set_other]
    · exact h.blk
    · intro e; exact h.ne (by simp [Value.ownBlock, e])
  have H := hid h
  have F := hid fin
  clear h fin hst
  go_enter Tryd.func51, Tryd.ntmps51
  go_wp2_with (go_at_call 66; refine (at_in _ _ _ _ _ _ H.out hi).mono ?_; rintro r w' ⟨⟨g', hg, rfl⟩, rfl⟩; obtain rfl : g = g' := by simpa [Value.ownBlock] using hg)
  go_ret
  exact ⟨rfl, F.out, by refine Chg.setCell _ _ (Chg.refl _) ?_; exact fun _ => .inr rfl⟩

set_option maxRecDepth 100000 in
theorem take_out (p : Nat) (v : Value) (xs : List Value) (m : Int) (i : Int) (w : World) (h : Col 94 3 w p v xs m) (hi : i < 0 ∨ xs.length ≤ i) (e : Value) (he : w.cell? ⟨1, 0, none⟩ = some e) (hen : ∃ T u, e = .iface T u) :
    Calls Tryd.prog 40 #[.pointer (some ⟨p, 0, none⟩), .int .i64 i] w fun r w' => r = .returned (.tuple #[(.int .i64 0), e]) ∧ Same w w' := by
  have H := hid h
  clear h
  obtain ⟨T, u, rfl⟩ := hen
  go_enter Tryd.func40, Tryd.ntmps40
  go_wp2_with (go_at_call 49; refine (get_out _ _ _ _ _ _ H.out hi _ he).mono ?_; rintro r w1 ⟨rfl, hs⟩; have HS := hid hs; clear hs)
  go_ret2
  exact ⟨rfl, HS.out⟩

set_option maxRecDepth 100000 in
theorem take_in (p : Nat) (v : Value) (xs : List Value) (m : Int) (i : Nat) (w : World) (h : Col 94 3 w p v xs m) (x : Value) (hi : xs[i]? = some x) (h1 : ∀ u ∈ xs, ∃ s, u = Value.int .i64 s) :
    Calls Tryd.prog 40 #[.pointer (some ⟨p, 0, none⟩), .int .i64 i] w fun r w' => r = .returned (.tuple #[x, .nilIface]) ∧ ∃ v', Col 94 3 w' p v' (takeOut xs i) m ∧ Chg (ColS p v) w w' ∧ v'.ownBlock = v.ownBlock := by
  have hx := h.max
  have hl := (List.getElem?_eq_some_iff.1 hi).1
  have H := hid h
  have HI := hid hi
  clear h hi
  go_enter Tryd.func40, Tryd.ntmps40
  go_wp2_with fail
  refine (get_in _ _ _ _ _ _ H.out _ HI.out).mono ?_
  rintro r w1 ⟨rfl, hs⟩
  have HS := hid hs
  have h := H.out.chg hs (fun _ _ f => f)
  clear hs
  obtain ⟨g, cp, rfl⟩ := own_shape h.own (by omega)
  obtain ⟨n, hn⟩ : ∃ n, xs.length = n + 1 := ⟨xs.length - 1, by omega⟩
  have h0 := h.c0
  have hci := (h.own.cellAt i (by omega)).trans HI.out
  obtain ⟨y, hy⟩ : ∃ y, xs[n]? = some y := ⟨xs[n]'(by omega), by simp⟩
  have hcn := (h.own.cellAt n (by omega)).trans hy
  have hcap := own_cap h.own
  have o2 := (h.own.stored i y).1
  have hc2 : (w1.setCell ⟨g, i, none⟩ y).cell? ⟨g, n, none⟩ = some y := by
    rw [o2.cellAt n (by omega), List.getElem?_set]
    split
    · first | rfl | rw [if_pos hl]
    · exact hy
  have hf2 := o2.frozenAt n
  have o3 := (o2.stored n (.int .i64 0)).1
  have o4 := own_take o3 n (by omega)
  have hto : ((xs.set i y).set n (.int .i64 0)).take n = takeOut xs i := by
    have e : xs.getLast? = some y := by rw [List.getLast?_eq_getElem?, hn]; exact hy
    unfold takeOut
    rw [e]
    simp only [List.dropLast_eq_take, List.length_set, hn, Nat.add_sub_cancel]
    rw [List.take_set_of_le (Nat.le_refl n)]
  rw [Nat.mul_one, hto] at o4
  have hlo : (takeOut xs i).length = n := by have := o4.1; omega
  have hff := h.own.frozenAt i
  have hfn := h.own.frozenAt n
  have hf0 := h.f 0
  have hpg : ¬ p = g := fun e => h.ne (by simp [Value.ownBlock, e])
  have hgp : ¬ g = p := fun e => hpg e.symm
  obtain ⟨sy, rfl⟩ := h1 y (List.mem_of_getElem? hy)
  rw [hn] at h0 hx hl hcap
  have hclr := run_clear_one (P := Tryd.prog) ((w1.setCell ⟨g, i, none⟩ (Value.int .i64 sy)).drew) 23 3 0 (.int .i64 0) Tryd.underlying23 zeroE rfl rfl ⟨g, n, none⟩ (cp - n) (Value.int .i64 sy) hc2 hf2
  have O4 := hid o4
  have HN := hid hn
  have H1 := hid h
  have HLO := hid hlo
  clear h hy hn o2 o3 o4 hc2 hf2 hto hlo
  go_wp2_with fail
  go_region
  go_wp2
  go_ret2
  have hch : Chg (fun k => some k = (Value.slice (some ⟨g, 0, none⟩) xs.length cp).ownBlock) w1 (((w1.setCell ⟨g, i, none⟩ (Value.int .i64 sy)).setCell ⟨g, n, none⟩ (.int .i64 0)).drew) :=
    by refine Chg.drew (Chg.setCell _ _ (Chg.setCell _ _ (Chg.refl _) ?_) ?_) <;> exact fun _ => rfl
  have hst := H1.out.store (v' := .slice (some ⟨g, 0, none⟩) n cp) (xs' := takeOut xs i) (hid hch).out (by rw [HLO.out]; exact O4.out) (.inl rfl)
  refine ⟨rfl, .slice (some ⟨g, 0, none⟩) n cp, hst.1, Chg.after HS.out hst.2, rfl⟩

set_option maxRecDepth 100000 in
theorem clone_any (ad : Option Addr) (n c : Nat) (ys : List Value) (w : World) (hr : Reads w (.slice ad n c) n 1 ys) (h1y : ∀ u ∈ ys, u.oneCell' = true) (hn : n ≤ 9223372036854775807) (hb : n * 8 ≤ 140737488355328) :
    Calls Tryd.prog 67 #[.slice ad n c] w fun r w' => ∃ v', r = .returned v' ∧ Fresh w w' 3 1 v' n ys ∧ Same w w' := by
  obtain ⟨i0, hi, hz0, hz1, hz2⟩ := info_parts info
  have hs1 := fun wx => Lib.run_eql_slice_nil (P := Tryd.prog) wx 23 3 ad n c 0 0 Tryd.underlying23
  have HR := hid hr
  clear hr
  cases ad with
  | none =>
    obtain ⟨_, _, he, hl, hnn, _⟩ := HR.out
    cases he
    obtain ⟨rfl, rfl⟩ := hnn rfl
    have hys : ys = [] := List.eq_nil_of_length_eq_zero (by simpa using hl)
    subst hys
    go_enter Tryd.func67, Tryd.ntmps67
    go_wp2
    go_ret
    exact ⟨_, rfl, ⟨World.ownsRow_nil _ _ _ _, by simp [Value.ownBlock]⟩, Chg.refl _⟩
  | some ad =>
    go_enter Tryd.func67, Tryd.ntmps67
    go_wp2_with (at_builtin; refine wpList_app rfl _ _ 23 rfl 3 i0 (.int .i64 0) 1 8 Tryd.underlying23 hi hz0 hz1 hz2 rfl (by decide) _ 0 [] rfl (World.ownsRow_lit w #[] 0 (Nat.zero_le _) (by unfold maxLen; omega) rfl) (some ad) n c ys rfl (HR.out.same ((Chg.refl _).alloc _)) h1y (by omega) (by simpa using hb) ?_)
    intro a' c' w1 hown hg hv
    have hch : Same w w1 := ((Chg.refl w).alloc (.cells #[] 3)).grown hg (fun k e hk => by simp [Value.ownBlock] at e; omega)
    have hnew : ∀ k, (Value.slice a' n c').ownBlock = some k → w.heap.size ≤ k := by
      intro k hk
      rcases hv with hv | hv
      · rw [hv] at hk; simp [Value.ownBlock] at hk; omega
      · have := hv k hk; simp at this; omega
    have H1 := hid hown
    have H2 := hid hch
    have H3 := hid hnew
    clear hown hch hnew hg hv
    go_wp2
    go_ret
    exact ⟨_, rfl, ⟨H1.out, H3.out⟩, H2.out⟩

set_option maxRecDepth 100000 in
theorem all_any (p : Nat) (v : Value) (xs : List Value) (m : Int) (w : World) (h : Col 94 3 w p v xs m) (h1 : ∀ u ∈ xs, u.oneCell' = true) (hb : xs.length * 8 ≤ 140737488355328) :
    Calls Tryd.prog 54 #[.pointer (some ⟨p, 0, none⟩)] w fun r w' => ∃ v', r = .returned v' ∧ Fresh w w' 3 1 v' xs.length xs ∧ Same w w' := by
  have hx := h.max
  obtain ⟨a, cp, rfl⟩ := h.shape
  have h0 := h.c0
  have H := hid h
  clear h
  go_enter Tryd.func54, Tryd.ntmps54
  go_wp2_with fail
  refine (clone_any a xs.length cp xs _ (Reads.of_own H.out.own) h1 hx hb).mono ?_
  rintro r w1 ⟨v', rfl, hf, hs⟩
  have HF := hid hf
  have HS := hid hs
  clear hf hs
  go_wp2
  go_ret
  exact ⟨v', rfl, HF.out, HS.out⟩

set_option maxRecDepth 100000 in
theorem cloneCol_any (p : Nat) (v : Value) (xs : List Value) (m : Int) (w : World) (h : Col 94 3 w p v xs m) (h1 : ∀ u ∈ xs, u.oneCell' = true) (hb : xs.length * 8 ≤ 140737488355328) :
    Calls Tryd.prog 53 #[.pointer (some ⟨p, 0, none⟩)] w fun r w' => ∃ q v', r = .returned (.pointer (some ⟨q, 0, none⟩)) ∧ Col 94 3 w' q v' xs m ∧ Same w w' ∧ (∀ k, ColS q v' k → w.heap.size ≤ k) := by
  have h1c := h.c1
  have H := hid h
  clear h
  go_enter Tryd.func53, Tryd.ntmps53
  go_wp2
  go_region_with (go_at_call 54; refine (all_any _ _ _ _ _ (H.out.chg ((Chg.refl w).drew) (fun _ _ f => f)) h1 hb).mono ?_; rintro r w1 ⟨v', rfl, hf, hs⟩; have HF := hid hf; have HS := hid hs; have h1d := ((H.out.chg ((Chg.refl w).drew) (fun _ _ f => f)).chg hs (fun _ _ f => f)).c1; clear hf hs; obtain ⟨a', c', rfl, _⟩ := own_slice HF.out.1)
  all_goals
    go_wp2
    go_ret
    exact ⟨_, _, rfl, Col.made (w := w) ⟨HF.out.1, HF.out.2⟩ (Chg.after ((Chg.refl _).drew) HS.out)⟩
end Go.Proofs.YtkjecihiipjngaaDoor.ColI
