/-
  A heap that is new since w, and all else as in w: the calls, so told. And the chapter's example.
-/
import Derived.Test.YtminjgfobcnmhaaDoorHeapPop
namespace Go.Proofs.YtminjgfobcnmhaaDoor.Hp
open Go Go.RowKit

theorem own_lt {w : World} {B : Nat} {e : TypeId} {size : Nat} {v : Value} {n : Nat} {xs : List Value} (h : w.ownsRow B e size v n xs) (k : Nat) (hk : v.ownBlock = some k) : k < w.heap.size := (h.lt k hk).2

structure Live (w wr : World) (p : Nat) (v : Value) (es : List (Int × Int)) : Prop where
  hp : Hp wr p v es
  heap : IsHeap es
  p_new : w.heap.size ≤ p
  v_new : After w v
  same : Same w wr

theorem Live.go {w a b : World} {p : Nat} {v : Value} {es : List (Int × Int)} (h : Live w a p v es) (hs : Same a b) : Live w b p v es :=
  ⟨h.hp.chg hs (fun _ _ f => f), h.heap, h.p_new, h.v_new, h.same.trans hs (fun _ _ f => f)⟩
theorem Live.step {w a b : World} {p : Nat} {v v' : Value} {es es' : List (Int × Int)} (h : Live w a p v es) (hp : Hp b p v' es') (hh : IsHeap es') (hc : Chg (HpS p v) a b) (hn : NewOr a v v') : Live w b p v' es' :=
  ⟨hp, hh, h.p_new, hn.after h.v_new h.same.size, h.same.new hc (fun i hi => HpS.new h.p_new h.v_new i hi)⟩

/-- The slice u lies apart from the heap. -/
def Sep (p : Nat) (v u : Value) : Prop := ∀ k, u.ownBlock = some k → ¬ HpS p v k
theorem Sep.nil (p : Nat) (v : Value) : Sep p v (.slice none 0 0) := fun k h => by simp [Value.ownBlock] at h
theorem Sep.heap {a : World} {p : Nat} {v v' u : Value} (h : Sep p v u) (hu : ∀ k, u.ownBlock = some k → k < a.heap.size) (hn : NewOr a v v') : Sep p v' u := by
  intro k hk hs
  rcases hs with rfl | hs
  · exact h k hk (.inl rfl)
  · rcases hn with e | e
    · exact h k hk (.inr (hs.trans e))
    · have := e k hs.symm; have := hu k hk; omega
theorem Sep.row {a : World} {p : Nat} {v u u' : Value} {es : List (Int × Int)} (h : Sep p v u) (hp : Hp a p v es) (hn : NewOr a u u') : Sep p v u' := by
  intro k hk hs
  rcases hn with e | e
  · exact h k (e ▸ hk) hs
  · have h1 := e k hk
    rcases hs with rfl | hs
    · have := hp.lt; omega
    · have := own_lt hp.own k hs.symm; omega

theorem Live.row {w a b : World} {p : Nat} {v u : Value} {es : List (Int × Int)} (h : Live w a p v es) (hc : Chg (fun k => some k = u.ownBlock) a b) (hs : Sep p v u) (hu : After w u) : Live w b p v es :=
  ⟨h.hp.chg hc (fun k hk e => hs k e.symm hk), h.heap, h.p_new, h.v_new, h.same.new hc (fun i hi => hu i hi.symm)⟩

theorem live_new (w a : World) (h : Same w a) : Calls Tryd.prog 14 #[] a fun r w' => r = .returned (.pointer (some ⟨a.heap.size, 0, none⟩)) ∧ Live w w' a.heap.size (.slice none 0 0) [] ∧ Same a w' :=
  (new_any a).mono fun _ _ ⟨h1, h2, h3, _⟩ => ⟨h1, ⟨h2, fun k _ hk => by simp at hk, h.size, After.nil w, h.trans h3 (fun _ _ f => f)⟩, h3⟩

theorem live_push {w a : World} {p : Nat} {v : Value} {es : List (Int × Int)} (h : Live w a p v es) (ys : List (Int × Int)) (ad : Option Addr) (n c : Nat) (hn : n = ys.length) (hr : Reads a (.slice ad n c) n 2 (flat ys)) (hsep : ∀ b, ad = some b → 0 < n → ¬ HpS p v b.block) (hf : n + es.length ≤ 16384) :
    Calls Tryd.prog 15 #[.pointer (some ⟨p, 0, none⟩), .slice ad n c] a fun r w' => r = .returned .nilIface ∧ ∃ v' es', Live w w' p v' es' ∧ es'.Perm (es ++ ys) ∧ Chg (HpS p v) a w' ∧ NewOr a v v' :=
  (push_ok p v es ys ad n c a h.hp h.heap hn hr hsep hf).mono fun _ _ ⟨h1, v', es', h2⟩ => ⟨h1, v', es', h.step h2.hp h2.heap h2.chg h2.new, h2.perm, h2.chg, h2.new⟩

theorem live_pop {w a : World} {p : Nat} {v : Value} {es : List (Int × Int)} (h : Live w a p v es) (hn : 0 < es.length) (hm : es.length ≤ 1000000) :
    Calls Tryd.prog 16 #[.pointer (some ⟨p, 0, none⟩)] a fun r w' => ∃ e v' es', r = .returned (.tuple #[ev e, .nilIface]) ∧ Live w w' p v' es' ∧ (e :: es').Perm es ∧ (∀ b ∈ es', le e b) ∧ Chg (HpS p v) a w' ∧ NewOr a v v' :=
  (pop_some p v es a h.hp h.heap hn hm).mono fun _ _ ⟨h1, v', es', h2, h3, h4, h5, h6⟩ => ⟨at_ es 0, v', es', h1, h.step h2 h3 h5 h6, h4, fun b hb => least_mem es h.heap b (h4.subset (List.mem_cons_of_mem _ hb)), h5, h6⟩

set_option maxRecDepth 100000 in
theorem alive (w : World) : Calls Tryd.prog 13 #[] w fun r w' => r = .returned (.bool true) ∧ Same w w' := by
  go_enter Tryd.func13, Tryd.ntmps13
  go_wp2_with fail
  refine (live_new w w (Chg.refl _)).mono ?_
  rintro r w1 ⟨rfl, h1, -⟩
  have H1 := hid h1
  clear h1
  generalize w.heap.size = p at *
  go_wp2_with fail
  refine (live_push (H1.out.go ((Chg.refl _).alloc _)) [(3, 1), (2, 9), (2, 4)] _ 3 3 rfl (reads_lit _ _ 3 2 (by omega) rfl) (by intro b e _ h; cases e; have := H1.out.hp.lt; rcases h with h | h; simp at h; omega; simp [Value.ownBlock] at h) (by simp)).mono ?_
  rintro r w2 ⟨rfl, v2, es2, h2, hp2, -, -⟩
  have H2 := hid h2
  have P2 := hid hp2
  clear h2 hp2 H1
  go_wp2_with fail
  have hlen : es2.length = 3 := by have := P2.out.length_eq; simpa using this
  refine (live_pop H2.out (by omega) (by omega)).mono ?_
  rintro r w3 ⟨e, v3, es3, rfl, h3, hp3, hl3, -, -⟩
  have he : e = (2, 4) := by
    have hm : (2, 4) ∈ e :: es3 := hp3.symm.subset (P2.out.symm.subset (by simp))
    have hm' : e ∈ [(3, 1), (2, 9), (2, 4)] := by simpa using P2.out.subset (hp3.subset List.mem_cons_self)
    rcases List.mem_cons.1 hm with h | h
    · exact h.symm
    · have := hl3 _ h
      rw [le_iff] at this
      simp at hm'
      rcases hm' with rfl | rfl | rfl <;> simp at this ⊢
  subst he
  have S3 := hid h3.same
  clear h3 hp3 hl3 H2 P2 hlen
  go_wp2
  go_ret
  refine ⟨rfl, ?_⟩
  repeat (first | exact S3.out | refine Chg.drew ?_ | refine Chg.drewN _ ?_ | refine Chg.alloc _ ?_)
end Go.Proofs.YtminjgfobcnmhaaDoor.Hp
