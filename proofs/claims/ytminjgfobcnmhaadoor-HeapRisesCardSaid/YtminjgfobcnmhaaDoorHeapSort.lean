/-
  Package heap: Sort.
-/
import Derived.Test.YtminjgfobcnmhaaDoorHeapLive
namespace Go.Proofs.YtminjgfobcnmhaaDoor.Hp
open Go Go.RowKit

abbrev Rising (l : List (Int × Int)) : Prop := l.Pairwise le

theorem rising_unique : ∀ (a b : List (Int × Int)), Rising a → Rising b → a.Perm b → a = b
  | [], b, _, _, h => (h.symm.eq_nil).symm
  | x :: a, [], _, _, h => h.eq_nil
  | x :: a, y :: b, ha, hb, h => by
    have hxy : x = y := by
      rcases List.mem_cons.1 (h.subset List.mem_cons_self) with e | hx
      · exact e
      · rcases List.mem_cons.1 (h.symm.subset List.mem_cons_self) with e | hy
        · exact e.symm
        · exact le_antisymm ((List.pairwise_cons.1 ha).1 y hy) ((List.pairwise_cons.1 hb).1 x hx)
    subst hxy
    rw [rising_unique a b (List.pairwise_cons.1 ha).2 (List.pairwise_cons.1 hb).2 (List.perm_cons x |>.1 h)]

/-- How long a slice is. -/
def lenOf : Value → Nat
  | .slice _ n _ => n
  | _ => 0

/-- What the loop of Sort keeps: out is done, the heap holds the rest. -/
structure Sorting (w wr : World) (p : Nat) (v u : Value) (es out xs : List (Int × Int)) : Prop where
  live : Live w wr p v es
  row : wr.ownsRow 0 31 2 u out.length (flat out)
  new : After w u
  sep : Sep p v u
  perm : (out ++ es).Perm xs
  rises : Rising out
  ahead : ∀ a ∈ out, ∀ b ∈ es, le a b

set_option maxRecDepth 100000 in
set_option maxHeartbeats 1000000 in
theorem sort_any (xs : List (Int × Int)) (ad : Option Addr) (n c : Nat) (w : World) (hn : n = xs.length) (hr : Reads w (.slice ad n c) n 2 (flat xs)) (had : ∀ b, ad = some b → 0 < n → b.block < w.heap.size) (hf : n ≤ 16384) :
    Calls Tryd.prog 27 #[.slice ad n c] w fun r w' => ∃ u out, r = .returned (.tuple #[u, .nilIface]) ∧ Fresh w w' 31 2 u out.length (flat out) ∧ out.Perm xs ∧ Rising out ∧ Same w w' := by
  obtain ⟨i0, hi, hz0, hz1, hz2⟩ := info_parts info
  have HN := hid hn
  have HR := hid hr
  have HAD := hid had
  clear hn hr had
  go_enter Tryd.func27, Tryd.ntmps27
  go_wp2_with fail
  refine (live_new w w (Chg.refl _)).mono ?_
  rintro r w1 ⟨rfl, h1, hs1⟩
  have H1 := hid h1
  have S1 := hid hs1
  have hpe : w.heap.size ≤ w.heap.size := Nat.le_refl _
  clear h1 hs1
  generalize hp : w.heap.size = p at *
  have HP := hid hp
  clear hp hpe
  go_wp2_with fail
  refine (live_push H1.out xs ad n c HN.out (HR.out.same S1.out) (by rintro b rfl h0 (h | h); have := HAD.out b rfl h0; have := HP.out; omega; simp [Value.ownBlock] at h) (by simpa using hf)).mono ?_
  rintro r w2 ⟨rfl, v2, es2, h2, hp2, -, -⟩
  have X2 := hid (Sorting.mk (xs := xs) h2 (World.ownsRow_nil _ _ _ _) (After.nil w) (Sep.nil p v2) (by simpa using hp2) List.Pairwise.nil (by simp) : Sorting w w2 p v2 (.slice none 0 0) es2 [] xs)
  clear h2 hp2 S1 H1
  go_wp2_with fail
  go_loopw [6] (fun u wr => ∃ v es out, Sorting w wr p v u es out xs) (fun u _ => n - lenOf u)
  case atStart => exact ⟨_, _, _, X2.out⟩
  case round =>
    obtain ⟨v, es, out, hx⟩ := hrel
    have X := hid hx
    clear hx X2
    go_wp2_with fail
    refine (len_any p v es _ X.out.live.hp).mono ?_
    rintro r w3 ⟨rfl, rfl⟩
    have hlen : out.length + es.length = n := by have := X.out.perm.length_eq; have := HN.out; simp at *; omega
    by_cases h0 : 0 < es.length
    · have hm : es.length ≤ 16384 := by omega
      go_wp2_with fail
      refine (live_pop X.out.live h0 (by omega)).mono ?_
      rintro r w4 ⟨e, v4, es4, rfl, h4, hp4, hl4, hc4, hn4⟩
      obtain ⟨au, cu, rfl, -⟩ := own_slice X.out.row
      have hrow := own_chg X.out.row hc4 (fun k hk => X.out.sep k hk)
      have hsep := X.out.sep.heap (own_lt X.out.row) hn4
      have HROW := hid hrow
      have HSEP := hid hsep
      have H4 := hid h4
      have HP4 := hid hp4
      have HL4 := hid hl4
      clear hrow hsep h4 hp4 hl4 hc4 hn4
      generalize hl : out.length = l at *
      have HL := hid hl
      clear hl
      have hle : l ≤ 16384 := by omega
      have HLEN := hid hlen
      clear hlen
      generalize hk : es.length = k at *
      have HK := hid hk
      clear hk
      go_wp2_with (at_builtin; refine wpList_app rfl _ _ 22 rfl 31 i0 (.agg #[.int .i64 0, .int .i64 0]) 2 16 Tryd.underlying22 hi hz0 hz1 hz2 rfl (by decide) _ l (flat out) rfl (own_chg (S := fun _ => False) HROW.out (by repeat (first | exact Chg.refl _ | refine Chg.drew ?_ | refine Chg.alloc _ ?_)) (fun _ _ f => f)) (some _) 1 1 (fl e) rfl (reads_blk (cs := #[.int .i64 e.1, .int .i64 e.2]) (E := 31) (f := (0, 0)) (by first | exact alloc_new _ _ | exact alloc2_new _ _ _) 1 1 2 rfl) (by intro u hu; simp [fl] at hu; rcases hu with rfl | rfl <;> rfl) (by omega) (by omega) ?_; intro a5 c5 w5 ho5 hg5 hn5)
      have hc5 : Chg (fun k => some k = (Value.slice au l cu).ownBlock) w4 w5 := (Chg.grown (by repeat (first | exact Chg.refl _ | refine Chg.drew ?_ | refine Chg.alloc _ ?_)) hg5 (fun k e _ => e.symm))
      have hn5' : NewOr w4 (.slice au l cu) (.slice a5 (l + 1) c5) := NewOr.trans (.inl rfl) (Chg.size (S := fun _ => False) (by repeat (first | exact Chg.refl _ | refine Chg.drew ?_ | refine Chg.alloc _ ?_))) hn5
      have hX := X.out
      have hl := HL.out
      have X5 := hid (Sorting.mk (xs := xs) (H4.out.row hc5 HSEP.out hX.new) (u := .slice a5 (l + 1) c5) (out := out ++ [e]) (by rw [flat_append, List.length_append, hl]; simpa [flat] using ho5) (hn5'.after hX.new H4.out.same.size) (HSEP.out.row H4.out.hp hn5')
        (by rw [List.append_assoc]; exact (List.Perm.append_left out (by simpa using HP4.out)).trans hX.perm)
        (List.pairwise_append.2 ⟨hX.rises, by simp, fun a ha b hb => by obtain rfl := List.mem_singleton.1 hb; exact hX.ahead a ha _ (HP4.out.subset List.mem_cons_self)⟩)
        (fun a ha b hb => by
          rcases List.mem_append.1 ha with h | h
          · exact hX.ahead a h b (HP4.out.subset (List.mem_cons_of_mem _ hb))
          · obtain rfl := List.mem_singleton.1 h; exact HL4.out b hb) : Sorting w w5 p v4 (.slice a5 (l + 1) c5) es4 (out ++ [e]) xs)
      have hl4 : es4.length + 1 = k := by have := HP4.out.length_eq; have := HK.out; simp at *; omega
      clear hX hl hc5 hn5' ho5 hg5 hn5
      go_roundw
      case rel => exact ⟨_, _, _, X5.out⟩
      case measure => have := HL.out; have := HLEN.out; simp only [lenOf]; omega
    · have : es = [] := List.eq_nil_of_length_eq_zero (by omega)
      subst this
      go_wp2
      go_ret2
      exact ⟨_, out, rfl, ⟨X.out.row, X.out.new⟩, by simpa using X.out.perm, X.out.rises, X.out.live.same⟩
end Go.Proofs.YtminjgfobcnmhaaDoor.Hp
