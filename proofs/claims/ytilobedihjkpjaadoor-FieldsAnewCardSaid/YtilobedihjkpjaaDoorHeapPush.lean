/-
  Package heap: New, Push, Peek, Pop, Len, Clear, each by its contract.
-/
import Derived.Test.YtilobedihjkpjaaDoorHeapOps
namespace Go.Proofs.YtilobedihjkpjaaDoor.Hp
open Go Go.RowKit

theorem info : (Tryd.prog.info? 172).map (fun i => (i.zero, i.size, i.bytes)) = some (some (.agg #[.int .i64 0, .int .i64 0]), 2, 16) := by kernel_rfl

theorem new_any (w : World) : Calls Tryd.prog 90 #[] w fun r w' => r = .returned (.pointer (some ⟨w.heap.size, 0, none⟩)) ∧ Hp w' w.heap.size (.slice none 0 0) [] ∧ Same w w' ∧ w'.heap.size = w.heap.size + 1 := by
  go_enter Tryd.func90, Tryd.ntmps90
  go_wp2
  go_ret
  exact ⟨rfl, ⟨alloc_new _ _, World.ownsRow_nil _ _ _ _, by simp [Value.ownBlock]⟩, (Chg.refl _).alloc _, by simp⟩

theorem len_any (p : Nat) (v : Value) (es : List (Int × Int)) (w : World) (h : Hp w p v es) :
    Calls Tryd.prog 101 #[.pointer (some ⟨p, 0, none⟩)] w fun r w' => r = .returned (.int .i64 es.length) ∧ w = w' := by
  obtain ⟨a, cp, rfl⟩ := h.shape
  have h0 := h.c0
  clear h
  go_enter Tryd.func101, Tryd.ntmps101
  go_wp2
  go_ret
  exact ⟨rfl, rfl⟩

set_option maxRecDepth 100000 in
theorem push_full (p : Nat) (v : Value) (es : List (Int × Int)) (ad : Option Addr) (n c : Nat) (w : World) (h : Hp w p v es) (_ : n ≤ 9223372036854775807) (hf : 16384 - (es.length : Int) < n) (e : Value) (he : w.cell? ⟨2, 0, none⟩ = some e) :
    Calls Tryd.prog 100 #[.pointer (some ⟨p, 0, none⟩), .slice ad n c] w fun r w' => r = .returned e ∧ w = w' := by
  obtain ⟨a, cp, rfl⟩ := h.shape
  have h0 := h.c0
  have hx := h.max
  clear h
  go_enter Tryd.func100, Tryd.ntmps100
  go_wp2
  go_ret
  exact ⟨rfl, rfl⟩

/-- One entry is put behind, and goes up: what the loop keeps. -/
structure Pushed (w wr : World) (p : Nat) (v v' : Value) (es es' ys : List (Int × Int)) : Prop where
  hp : Hp wr p v' es'
  heap : IsHeap es'
  perm : es'.Perm (es ++ ys)
  chg : Chg (HpS p v) w wr
  new : NewOr w v v'

set_option maxRecDepth 100000 in
set_option maxHeartbeats 1000000 in
theorem push_ok (p : Nat) (v : Value) (es ys : List (Int × Int)) (ad : Option Addr) (n c : Nat) (w : World) (h : Hp w p v es) (hh : IsHeap es) (hn : n = ys.length) (hr : Reads w (.slice ad n c) n 2 (flat ys)) (hsep : ∀ b, ad = some b → 0 < n → ¬ HpS p v b.block) (hf : n + es.length ≤ 16384) :
    Calls Tryd.prog 100 #[.pointer (some ⟨p, 0, none⟩), .slice ad n c] w fun r w' => r = .returned .nilIface ∧ ∃ v' es', Pushed w w' p v v' es es' ys := by
  obtain ⟨i0, hi, hz0, hz1, hz2⟩ := info_parts info
  obtain ⟨a, cp, rfl⟩ := h.shape
  have h0 := h.c0
  have hx := h.max
  have H := hid h
  have HH := hid hh
  have HN := hid hn
  have HR := hid hr
  have HSEP := hid hsep
  clear h hh hn hr hsep
  go_enter Tryd.func100, Tryd.ntmps100
  go_wp2_with fail
  go_loopw [19] (fun iv wr => ∃ (k : Nat) (v' : Value) (es' : List (Int × Int)), k ≤ n ∧ iv = .int .i64 k ∧ Pushed w wr p (.slice a es.length cp) v' es es' (ys.take k)) (fun iv _ => n - (intOf iv).toNat)
  case atStart => exact ⟨0, _, es, Nat.zero_le _, rfl, H.out, HH.out, by simp, Chg.refl _, .inl rfl⟩
  case round =>
    obtain ⟨k, v', es', hk, rfl, hP⟩ := hrel
    have HP := hid hP
    clear hP
    by_cases hlt : k < n
    · obtain ⟨b, off, cap, e1, hb, hcl⟩ := HR.out.open (by omega)
      cases e1
      have hky : k < ys.length := by have := HN.out; omega
      have hsb := HSEP.out _ rfl (by omega)
      have g1 := (HP.out.chg.cell (p := ⟨b, off + k * 2, none⟩) hb hsb).trans (hcl (k * 2) _ (flat_0 ys k _ (at_eq hky)))
      have g2 := (HP.out.chg.cell (p := ⟨b, off + (k * 2 + 1), none⟩) hb hsb).trans (hcl (k * 2 + 1) _ (flat_1 ys k _ (at_eq hky)))
      rw [← Nat.add_assoc] at g2
      have HTK := hid (show ys.take (k + 1) = ys.take k ++ [at_ ys k] by rw [List.take_succ_eq_append_getElem hky]; simp [at_, List.getD, hky])
      generalize at_ ys k = e at *
      clear hcl
      obtain ⟨a', cp', rfl⟩ := HP.out.hp.shape
      have k0 := HP.out.hp.c0
      have kf := HP.out.hp.f 0
      have hpl := HP.out.hp.lt
      have hlen : es'.length = es.length + k := by have := HP.out.perm.length_eq; simp at this; omega
      obtain ⟨l, hl⟩ : ∃ l, l = es'.length := ⟨_, rfl⟩
      have hown := HP.out.hp.own
      have hblk := HP.out.hp.blk
      have hne := HP.out.hp.ne
      rw [← hl] at k0 hown hblk hne
      have hll : l ≤ 16383 := by omega
      have HL := hid hl
      clear hlen
      have HOWN := hid hown
      have HBLK := hid hblk
      have HNE := hid hne
      clear hown hblk hne hl
      go_wp2
      go_region_law (first
        | (refine step_app rfl _ _ 167 rfl 172 i0 (.agg #[.int .i64 0, .int .i64 0]) 2 16 Tryd.underlying167 hi hz0 hz1 hz2 rfl (by decide) _ l (flat es') rfl (by exact own_chg (S := fun _ => False) HOWN.out (by repeat (first | exact Chg.refl _ | refine Chg.drew ?_ | refine Chg.alloc _ ?_)) (fun _ _ f => f)) (some _) 1 1 (fl e) rfl (by exact reads_blk (cs := #[.int .i64 e.1, .int .i64 e.2]) (E := 172) (f := (0, 0)) (by first | exact alloc_new _ _ | exact alloc2_new _ _ _) 1 1 2 rfl) (by intro u hu; simp [fl] at hu; rcases hu with rfl | rfl <;> rfl) (by omega) (by omega) ?_; intro a2 c2 w2 ho2 hg2 hn2; have hch : Chg (fun k => some k = (Value.slice a' l cp').ownBlock) wr w2 := (Chg.grown (by repeat (first | exact Chg.refl _ | refine Chg.drew ?_ | refine Chg.alloc _ ?_)) hg2 (fun k e _ => e.symm)); have hb2 := hch.heap HBLK.out (fun e => HNE.out e.symm); have q0 := cell_of hb2 0; have qf := free_of hb2 0; clear hb2))
      all_goals go_wp2_with fail
      all_goals
        (have hl := HL.out
         subst hl
         have hnew : NewOr wr (.slice a' es'.length cp') (.slice a2 (es'.length + 1) c2) := NewOr.trans (.inl rfl) (Chg.size (S := fun _ => False) (by repeat (first | exact Chg.refl _ | refine Chg.drew ?_ | refine Chg.alloc _ ?_))) hn2
         have hstore := Hp.store (es' := es' ++ [e]) HP.out.hp hch (by rw [flat_append, List.length_append]; simpa [flat] using ho2) hnew
         have HST := hid hstore.1
         have HCH := hid hstore.2
         have HNEW := hid hnew
         clear hstore hnew ho2 hg2 hn2 hch q0 qf HBLK HNE HOWN k0 kf g1 g2
         refine (up_any p _ _ es'.length _ HST.out (by simp) (push_up es' e HP.out.heap)).mono ?_
         rintro r w3 ⟨rfl, es3, x1, x2, x3, x4⟩
         have X := hid (Pushed.mk (w := w) (v := Value.slice a es.length cp) (es := es) (ys := ys.take (k + 1)) x1 x2 (by rw [HTK.out, ← List.append_assoc]; exact x3.trans (HP.out.perm.append_right _))
           (HP.out.chg.trans (HCH.out.trans x4 (HpS.back HNEW.out)) (HpS.back HP.out.new)) (HP.out.new.trans HP.out.chg.size HNEW.out))
         clear x1 x2 x3 x4
         go_wp2
         go_roundw)
      all_goals (first | exact ⟨k + 1, _, _, by omega, by go_num, X.out⟩ | (simp [intOf]; omega))
    · go_wp2
      go_ret
      have : ys.take k = ys := List.take_of_length_le (by have := HN.out; omega)
      rw [this] at HP
      exact ⟨rfl, v', es', HP.out⟩
end Go.Proofs.YtilobedihjkpjaaDoor.Hp
