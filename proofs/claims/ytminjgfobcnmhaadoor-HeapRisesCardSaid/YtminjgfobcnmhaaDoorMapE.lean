/-
  m[k]++ and its like: the entry is laid first, then it is written.
-/
import Derived.Test.YtminjgfobcnmhaaDoorMapO
import Derived.WideKeyEntry
namespace Go.Proofs.YtminjgfobcnmhaaDoor
open Go Go.RowKit Go.Maps
open Go.ChangeMaps (setBlock modify_eq_set heap_setBlock_same)
open Go.ChangeShapes Go.WideShapes Go.MapKept
open Go.WideElems (Fit rd rg pl rd_key rd_val rg_of)
open Go.WideMaps (KeyLaw)

section
variable {α : Type} {E : Elem α} {P : Program} {K Et T : TypeId} {w : World} {b n : Nat} {f : Lit → Option α}
theorem entry_update {R : Value → Option (DataW Unit × List MemPlace)} {es : Array MapEntry} {clock : Nat} (KL : KeyLaw P K) (hT : P.underlying T = some (.map K Et)) {z : Value} (hz : ∀ u : World, (zeroValue Et).run P u = .ok z u) (hb : w.heap[b]? = some (.map es clock)) (F : WideElems.Fit P K R es clock)
    {key : Value} {kl : Lit} (hk : keyOf P K key = some kl) {v0 st : Value} {w2 : World} (he : (Instr.mapEntry T (.map (some b)) key).run P w = .ok (.tuple #[v0, st]) w2) :
    (Instr.mapUpdate T (.map (some b)) key v0).run P w = .ok () w2 := by
  rcases KL.find w hk es.toList F.keys with ⟨h1, h2⟩ | ⟨j, e0, h1, h2, h3⟩
  · simp [Instr.mapEntry, run_underlying hT, MapKept.run_getObj_map hb, KL.check w false hk, h1, hz, MapKept.run_setObj_map _ hb, Result.andThen] at he
    obtain ⟨⟨rfl, -⟩, rfl⟩ := he
    simp [Instr.mapUpdate, run_underlying hT, MapKept.run_getObj_map hb, KL.check w false hk, h1, MapKept.run_setObj_map _ hb, Result.andThen]
  · have hj : es[j]? = some e0 := by simpa using h2
    have m1 : es.modify j (fun e' => { e' with key := key, val := e0.val }) = es := by
      apply Array.ext'
      rw [Array.toList_modify, modify_eq_set _ _ _ _ h2]
      have : ({ e0 with key := key, val := e0.val } : MapEntry) = e0 := by rw [← h3]
      rw [this]
      exact WideElems.set_self _ _ _ h2
    have m2 : es.modify j (fun e' => { e' with key := key }) = es := by
      apply Array.ext'
      rw [Array.toList_modify, modify_eq_set _ _ _ _ h2]
      have : ({ e0 with key := key } : MapEntry) = e0 := by rw [← h3]
      rw [this]
      exact WideElems.set_self _ _ _ h2
    simp [Instr.mapEntry, run_underlying hT, MapKept.run_getObj_map hb, KL.check w false hk, h1, hj, h3, KL.stays w hk, m2, MapKept.run_setObj_map _ hb, Result.andThen] at he
    obtain ⟨⟨rfl, -⟩, rfl⟩ := he
    simp [Instr.mapUpdate, run_underlying hT, MapKept.run_getObj_map hb, KL.check w false hk, h1, hj, h3, KL.stays w hk, m1, MapKept.run_setObj_map _ hb, Result.andThen]

/-- The entry, then the store. -/
theorem MapO.entry (h : MapO P K E w b n f) (KL : KeyLaw P K) (hT : P.underlying T = some (.map K Et)) {y0 : α} (hz : ∀ u : World, (zeroValue Et).run P u = .ok (E.val y0) u) (hn : n < 9223372036854775807) {key : Value} {kl : Lit} (hk : keyOf P K key = some kl) :
    ∃ (st : Int) (w2 : World), (Instr.mapEntry T (.map (some b)) key).run P w = .ok (.tuple #[E.val ((f kl).getD y0), .int .i64 st]) w2 ∧
      (Instr.lookup T (.map (some b)) key false).run P w2 = .ok (E.val ((f kl).getD y0)) w2 ∧ Chg (fun k => k = b) w w2 ∧ w2.heap.size = w.heap.size ∧
      ∀ y : α, ∃ w3, (Instr.entryStore T (.map (some b)) (.int .i64 st) (E.val y)).run P w2 = .ok () w3 ∧ MapO P K E w3 b (if (f kl).isSome then n else n + 1) (updO f kl (some y)) ∧ Chg (fun k => k = b) w w3 := by
  have KK := Maps.Keyed.of_law KL
  have hD := h
  obtain ⟨D, ⟨es, clock, hb, F, hs, rfl⟩, hsz, h3⟩ := hD
  obtain ⟨v0, st, es1, clock1, hE, hv, hS⟩ := WideElems.entry_then_store KL hT hz hb F hk
  have hE' : (Instr.mapEntry T (.map (some b)) key).run P w = .ok (.tuple #[v0, .int .i64 st]) (setBlock w b (.map es1 clock1)) := hE
  have hU := entry_update KL hT hz hb F hk hE'
  have hl := h.look false KK hT (hz w) hk
  have hat := atKey_sorted (es.toList.map (rg P K E.R)) (Maps.fit_rising KK F) kl (KK.key hk)
  have hv0 : v0 = E.val ((f kl).getD y0) := by
    rcases hv with ⟨e1, hm, hk1, rfl⟩ | ⟨hno, rfl⟩
    · obtain ⟨q0, hq0⟩ := F.reads e1 hm
      obtain ⟨zv, hzv, hd⟩ := rd_val hq0
      have m0 := rd_key hq0
      rw [hk1, hk] at m0
      obtain ⟨a, ha, rfl⟩ := E.inv hzv
      have : f kl = some a := giveO_some (E := E) (fun zd => by
        rw [← h3 kl (KK.key hk) zd, hat.2 (rg P K E.R e1) (List.mem_map.2 ⟨e1, hm, rfl⟩) (by rw [rg_of hq0]; exact (Option.some.inj m0).symm), rg_of hq0, hd])
      rw [this]
      exact ha
    · have : f kl = none := giveO_none (E := E) (fun zd => by
        rw [← h3 kl (KK.key hk) zd]
        refine hat.1 (fun p hp e1 => ?_) zd
        obtain ⟨x, hx, rfl⟩ := List.mem_map.1 hp
        obtain ⟨y, hy⟩ := F.reads x hx
        have m1 := rd_key hy
        rw [rg_of hy] at e1
        rw [e1] at m1
        exact hno x hx (KK.inj m1 hk))
      rw [this]; rfl
  subst hv0
  obtain ⟨w2, hrun2, hM2, hc2⟩ := h.store KK hT hn hk ((f kl).getD y0)
  rw [hU] at hrun2
  simp only [Result.ok.injEq, true_and] at hrun2
  subst hrun2
  have hsz2 : (setBlock w b (.map es1 clock1)).heap.size = w.heap.size := by simp [setBlock]
  refine ⟨st, _, hE', ?_, hc2, hsz2, fun y => ?_⟩
  · have := hM2.look false KK hT (hz _) hk
    rw [updO_same] at this
    exact this
  · obtain ⟨es', clock', hs1, hs2⟩ := hS _ (E.val y) (heap_setBlock_same hb _)
    obtain ⟨w3, hrun3, hM3, hc3⟩ := h.store KK hT hn hk y
    rw [hs2] at hrun3
    simp only [Result.ok.injEq, true_and] at hrun3
    subst hrun3
    refine ⟨_, ?_, hM3, hc3⟩
    refine (show (Instr.entryStore T (.map (some b)) (goInt st) (E.val y)).run P _ = _ from hs1).trans ?_
    simp [setBlock]
end
end Go.Proofs.YtminjgfobcnmhaaDoor
