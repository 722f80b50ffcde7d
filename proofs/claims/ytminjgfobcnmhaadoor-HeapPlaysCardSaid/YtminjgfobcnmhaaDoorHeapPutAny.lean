/-
  Package paddockref10: Put, onto no row, and onto any.
-/
import Derived.Test.YtminjgfobcnmhaaDoorHeapPut
namespace Go.Proofs.YtminjgfobcnmhaaDoor.Hp
open Go Go.RowKit

theorem reads_none (w : World) (size : Nat) : Reads w (.slice none 0 0) 0 size [] := ⟨none, 0, rfl, by simp, fun _ => ⟨rfl, rfl⟩, fun _ h => by cases h⟩

set_option maxRecDepth 100000 in
theorem put_nil (e : Int × Int) (w : World) :
    Calls Tryd.prog 28 #[.slice none 0 0, ev e] w fun r w' => ∃ u, r = .returned u ∧ Fresh w w' 64 2 u 1 (flat [e]) ∧ Same w w' := by
  obtain ⟨i0, hi, hz0, hz1, hz2⟩ := info_parts infoR
  have hs0 : ∀ o, Same w (w.alloc o) := fun o => (Chg.refl _).alloc o
  have HS0 := hid (hs0 (.cells #[.int .i64 e.1, .int .i64 e.2] 64))
  have HQ := hid (alloc_new w (.cells #[.int .i64 e.1, .int .i64 e.2] 64))
  clear hs0
  go_enter Tryd.func28, Tryd.ntmps28
  go_wp2_with fail
  generalize w.alloc (.cells #[.int .i64 e.1, .int .i64 e.2] 64) = w1 at *
  generalize hq : w.heap.size = q at *
  have HW := hid hq
  clear hq
  refine wp_loop_rounds 1 ?_
  rw [rounds_succ]
  go_wp2_with fail
  go_quiet (fail)
  have hsx : Same w (w1.drewN nq) := HS0.out.drewN _
  have hqx := ((Chg.refl w1).drewN nq : Same w1 _).heap HQ.out (fun f => f)
  generalize w1.drewN nq = w2 at *
  have HX := hid hsx
  have hqb2 := lt_of hqx
  have e02 := cell_of hqx 0
  have e12 := cell_of hqx 1
  have HQX := hid hqx
  clear hsx hqx
  go_wp2_with (at_builtin; first
    | (refine wpList_app rfl _ _ 62 rfl 64 i0 (.agg #[.int .i64 0, .int .i64 0]) 2 16 Tryd.underlying62 hi hz0 hz1 hz2 rfl (by decide) _ 0 [] rfl (World.ownsRow_lit (base := 0) w2 #[] 0 (Nat.zero_le _) (by decide) rfl) none 0 0 [] rfl (reads_none _ _) (fun u hu => by cases hu) (by omega) (by omega) ?_; intro a3 c3 w3; rw [show 0 + 0 = 0 from rfl, List.nil_append]; intro ho3 hg3 hn3; have hs3 : Same w2 w3 := Chg.grown ((Chg.refl _).alloc _) hg3 (fun k e hk => absurd hk (by have : w2.heap.size = k := Option.some.inj e; omega)); have hq3 := hs3.heap HQX.out (fun f => f); have e03 := cell_of hq3 0; have e13 := cell_of hq3 1; have ht3 : After w2 (.slice a3 0 c3) := hn3.after (fun i e => by cases e; exact Nat.le_refl _) (by simp); have HT3 := hid ht3; clear hq3 ht3)
    | (refine wpList_app rfl _ _ 62 rfl 64 i0 (.agg #[.int .i64 0, .int .i64 0]) 2 16 Tryd.underlying62 hi hz0 hz1 hz2 rfl (by decide) _ 0 [] rfl (own_chg (S := fun _ => False) ho3 ((Chg.refl _).alloc _) (fun _ _ f => f)) (some _) 1 1 (fl e) rfl (reads_blk (cs := #[.int .i64 e.1, .int .i64 e.2]) (E := 64) (f := (0, 0)) (alloc_new _ _) 1 1 2 rfl) (by intro u hu; simp [fl] at hu; rcases hu with rfl | rfl <;> rfl) (by omega) (by omega) ?_; intro a4 c4 w4; rw [show 0 + 1 = 1 from rfl, List.nil_append]; intro ho4 hg4 hn4; have hs4 : Same w2 w4 := hs3.new (S := fun i => some i = (Value.slice a3 0 c3).ownBlock) (Chg.grown ((Chg.refl _).alloc _) hg4 (fun k e _ => e.symm)) (fun i hi => HT3.out i hi.symm); have ht4 : After w2 (.slice a4 1 c4) := hn4.after HT3.out (Nat.le_trans hs3.size (by simp)); have HT4 := hid ht4; clear ht4)
    | (refine wpList_app rfl _ _ 62 rfl 64 i0 (.agg #[.int .i64 0, .int .i64 0]) 2 16 Tryd.underlying62 hi hz0 hz1 hz2 rfl (by decide) _ 1 (fl e) rfl ho4 none 0 0 [] rfl (reads_none _ _) (fun u hu => by cases hu) (by omega) (by omega) ?_; intro a5 c5 w5; rw [show 1 + 0 = 1 from rfl, List.append_nil]; intro ho5 hg5 hn5))
  go_ret
  have hs5 : Same w2 w5 := hs4.new (S := fun i => some i = (Value.slice a4 1 c4).ownBlock) (Chg.grown (Chg.refl _) hg5 (fun k e _ => e.symm)) (fun i hi => HT4.out i hi.symm)
  have ht5 := hn5.after HT4.out hs4.size
  exact ⟨_, rfl, ⟨by simpa [flat] using ho5, fun i hi => Nat.le_trans HX.out.size (ht5 i hi)⟩, HX.out.trans hs5 (fun _ _ f => f)⟩

theorem put_any (l : List (Int × Int)) (e : Int × Int) (v : Value) (w : World) (hr : Reads w v l.length 2 (flat l)) (hm : l.length ≤ 100000)
    (hs : (v = .slice none 0 0 ∧ l = []) ∨ ∃ b off cap, v = .slice (some ⟨b, off, none⟩) l.length cap ∧ l.length ≤ cap ∧ b < w.heap.size) :
    Calls Tryd.prog 28 #[v, ev e] w fun r w' => ∃ u, r = .returned u ∧ ∃ k, Place l k e ∧ Fresh w w' 64 2 u (l.length + 1) (flat (ins l k e)) ∧ Same w w' := by
  rcases hs with ⟨rfl, rfl⟩ | ⟨b, off, cap, rfl, hc, hb⟩
  · exact (put_nil e w).mono fun _ _ ⟨u, h1, h2, h3⟩ => ⟨u, h1, 0, ⟨Nat.le_refl _, .inl rfl, fun j _ h => by simp at h⟩, h2, h3⟩
  · exact put_some l e b off cap l.length w rfl hr hc hm hb
end Go.Proofs.YtminjgfobcnmhaaDoor.Hp
