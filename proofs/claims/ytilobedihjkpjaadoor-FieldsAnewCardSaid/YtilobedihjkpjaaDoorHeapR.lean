/-
  A heap as a thing of the call's own: New, Len, Push of one entry, Pop, so told.
-/
import Derived.Test.YtilobedihjkpjaaDoorHeapPop
import Derived.Test.YtilobedihjkpjaaDoorStar
namespace Go.Proofs.YtilobedihjkpjaaDoor.Hp
open Go Go.RowKit

def heapR (p : Nat) (es : List (Int × Int)) : Res where
  rel w F := ∃ v, Hp w p v es ∧ IsHeap es ∧ F = HpS p v
  here := by
    rintro w F ⟨v, h, _, rfl⟩ k (rfl | hk)
    · exact h.lt
    · exact (h.own.lt k hk.symm).2
  keep := by
    rintro w w' F ⟨v, h, hh, rfl⟩ hk
    refine ⟨v, ⟨(hk p (.inl rfl)).trans h.blk, ⟨h.own.1, ?_⟩, h.ne⟩, hh, rfl⟩
    rcases h.own.2 with hn' | ⟨g, cap, cur, rfl, hb, hg, r⟩
    · exact .inl hn'
    · exact .inr ⟨g, cap, cur, rfl, hb, (hk g (.inr rfl)).trans hg, r⟩

section
variable {w0 w : World} {L : List Res} {p : Nat} {es : List (Int × Int)}
theorem NewOr.hps {a : World} {v v' : Value} (h : NewOr a v v') (k : Nat) (hk : HpS p v' k) : HpS p v k ∨ a.heap.size ≤ k := by
  rcases hk with rfl | hk
  · exact .inl (.inl rfl)
  · rcases h with e | e
    · exact .inl (.inr (hk.trans e))
    · exact .inr (e k hk.symm)
theorem heap_new (X : Star w0 w L) : Calls Tryd.prog 90 #[] w fun r w' => ∃ p, r = .returned (.pointer (some ⟨p, 0, none⟩)) ∧ Star w0 w' (heapR p [] :: L) ∧ w.heap.size ≤ p := by
  refine (new_any w).mono ?_
  rintro r w' ⟨rfl, h, hs, -⟩
  refine ⟨_, rfl, X.add hs (F := HpS w.heap.size (.slice none 0 0)) ⟨_, h, ?_, rfl⟩ ?_, Nat.le_refl _⟩
  · intro k hk hl; simp at hl
  · rintro k (rfl | hk)
    · exact Nat.le_refl _
    · simp [Value.ownBlock] at hk
theorem heap_len (X : Star w0 w (heapR p es :: L)) : Calls Tryd.prog 101 #[.pointer (some ⟨p, 0, none⟩)] w fun r w' => r = .returned (.int .i64 es.length) ∧ w = w' := by
  obtain ⟨F, ⟨v, h, -, -⟩, -, -⟩ := X.at 0 rfl
  exact len_any p v es w h
theorem heap_le (X : Star w0 w (heapR p es :: L)) : w0.heap.size ≤ p ∧ p < w.heap.size := by
  obtain ⟨F, ⟨v, h, -, rfl⟩, h2, -⟩ := X.at 0 rfl
  exact ⟨h2 p (.inl rfl), h.lt⟩
theorem heap_push {q : Nat} {T : TypeId} {a b : Int} (X : Star w0 w (heapR p es :: Blk q #[.int .i64 a, .int .i64 b] T :: L)) (hf : 1 + es.length ≤ 16384) :
    Calls Tryd.prog 100 #[.pointer (some ⟨p, 0, none⟩), .slice (some ⟨q, 0, none⟩) 1 1] w fun r w' => r = .returned .nilIface ∧ ∃ es', es'.Perm (es ++ [(a, b)]) ∧ Star w0 w' (heapR p es' :: Blk q #[.int .i64 a, .int .i64 b] T :: L) := by
  obtain ⟨F, ⟨v, h, hh, rfl⟩, h2, h3⟩ := X.at 0 rfl
  obtain ⟨F1, F2, ⟨v1, h1, -, rfl⟩, ⟨hb, rfl⟩, hap⟩ := X.apart 0 1 rfl rfl (by omega)
  have e : v1 = v := by have a1 := h1.c0; have a2 := h.c0; rw [a1] at a2; exact Option.some.inj a2
  subst e
  refine (push_ok p v1 es [(a, b)] _ 1 1 w h hh rfl (reads_blk hb 1 1 2 rfl) (fun c hc _ hs => by cases hc; exact hap q hs rfl) hf).mono ?_
  rintro r w' ⟨rfl, v', es', hP⟩
  exact ⟨rfl, es', hP.perm, h3 w' (heapR p es') (HpS p v') ⟨v', hP.hp, hP.heap, rfl⟩ hP.chg (NewOr.hps hP.new)⟩
theorem heap_pop (X : Star w0 w (heapR p es :: L)) (hn : 0 < es.length) (hm : es.length ≤ 1000000) :
    Calls Tryd.prog 102 #[.pointer (some ⟨p, 0, none⟩)] w fun r w' => ∃ e es', r = .returned (.tuple #[ev e, .nilIface]) ∧ (e :: es').Perm es ∧ (∀ b ∈ es', e.1 ≤ b.1) ∧ Star w0 w' (heapR p es' :: L) := by
  obtain ⟨F, ⟨v, h, hh, rfl⟩, h2, h3⟩ := X.at 0 rfl
  refine (pop_some p v es w h hh hn hm).mono ?_
  rintro r w' ⟨rfl, v', es', k1, k2, k3, k4, k5⟩
  refine ⟨_, es', rfl, k3, fun b hb => ?_, h3 w' (heapR p es') (HpS p v') ⟨v', k1, k2, rfl⟩ k4 (NewOr.hps k5)⟩
  have := least_mem es hh b (k3.subset (List.mem_cons_of_mem _ hb))
  rw [le_iff] at this
  omega
end
end Go.Proofs.YtilobedihjkpjaaDoor.Hp
