/-
  The document's table: what each call answers, told at once.
-/
import Derived.Test.YtegcnkcjmebheaaDoorRef07d
import Derived.Test.YtegcnkcjmebheaaDoorPlaysC
namespace Go.Proofs.YtegcnkcjmebheaaDoor.Tab
open Go Go.RowKit Go.Maps Go.Proofs.YtegcnkcjmebheaaDoor.Mask Go.Proofs.YtegcnkcjmebheaaDoor.TableSets
section
variable {w0 w : World} {L : List Res} {G : List En} {p m : Nat} {sl : Value} {es : List En}
theorem radd_any (X : Star w0 w (rfB p m sl :: rfE sl es :: poolR G :: L)) (h : Hd) (v : Value) (vs : List Vl) (hr : Reads w0 v vs.length 3 (vs.flatMap vc)) (hn : vs.length ≤ 10000) :
    Calls Tryd.prog 22 #[.pointer (some ⟨p, 0, none⟩), hV h, v] w fun r w' => r = .returned (.tuple #[.int .i64 (addA m es.length vs : Nat), .int .i64 (addK m es.length vs : Nat)]) ∧ ∃ sl' es' G', AddE es G h vs (addK m es.length vs) es' G' ∧ Star w0 w' (rfB p m sl' :: rfE sl' es' :: poolR G' :: L) := by
  by_cases ht : RTakes m vs
  · by_cases hl : es.length < 128
    · refine (radd_ok X h v vs hr hn ht hl).mono ?_
      rintro r w' ⟨sl', a, c, rfl, hX⟩
      refine ⟨?_, sl', _, _, .inl ⟨addK_ok ht hl, a, c, rfl, rfl⟩, hX⟩
      unfold addA
      rw [addK_ok ht hl, if_pos rfl]
      rfl
    · refine (radd_full X h v vs (X.reads hr) hn ht (by omega)).mono ?_
      rintro r w' ⟨rfl, hX⟩
      refine ⟨?_, sl, es, G, .inr ⟨by rw [addK_full ht hl]; decide, rfl, rfl⟩, hX⟩
      unfold addA
      rw [addK_full ht hl, if_neg (by decide)]
      rfl
  · refine (radd_form X h v vs (X.reads hr) hn ht).mono ?_
    rintro r w' ⟨rfl, hX⟩
    refine ⟨?_, sl, es, G, .inr ⟨by rw [addK_no ht]; decide, rfl, rfl⟩, hX⟩
    unfold addA
    rw [addK_no ht, if_neg (by decide)]
    rfl
theorem reads_nil (w : World) : Reads w (.slice none 0 0) ([] : List Vl).length 3 (([] : List Vl).flatMap vc) := ⟨none, 0, rfl, rfl, fun _ => ⟨rfl, rfl⟩, fun a h => by cases h⟩
theorem rtake_any (X : Star w0 w (rfB p m sl :: rfE sl es :: poolR G :: L)) (i : Int) (hI : Inv m es G) :
    Calls Tryd.prog 23 #[.pointer (some ⟨p, 0, none⟩), .int .i64 i] w fun r w' => ∃ v sl', r = .returned (.tuple #[.agg (enC (hO (getE es i)).1 (hO (getE es i)).2 v), .int .i64 (kO (getE es i) : Nat)]) ∧ Reads w' v (vsO (getE es i)).length 3 ((vsO (getE es i)).flatMap vc) ∧ Star w0 w' (rfB p m sl' :: rfE sl' (outE es i) :: poolR G :: L) := by
  unfold outE
  cases hg : getE es i with
  | none =>
    refine (rtake_no X i (getE_none hg)).mono ?_
    rintro r w' ⟨rfl, hX⟩
    exact ⟨.slice none 0 0, sl, rfl, reads_nil w', hX⟩
  | some e =>
    obtain ⟨j, rfl, hj⟩ := getE_some hg
    refine (rtake_ok X j e hj (by have := hI.len; omega)).mono ?_
    rintro r w' ⟨sl', rfl, hX⟩
    exact ⟨e.v, sl', rfl, pool_reads hX 2 rfl (hI.get hj).2, hX⟩
theorem rget_any (X : Star w0 w (rfB p m sl :: rfE sl es :: poolR G :: L)) (i k : Int) (hI : Inv m es G) (hm : m < 1024) :
    Calls Tryd.prog 26 #[.pointer (some ⟨p, 0, none⟩), .int .i64 i, .int .i64 k] w fun r w' => r = .returned (.tuple #[vV (getG es i k).1, .int .i64 ((getG es i k).2 : Nat)]) ∧ Star w0 w' (rfB p m sl :: rfE sl es :: poolR G :: L) := by
  unfold getG
  cases hg : getE es i with
  | none =>
    refine (rget_no X i k (getE_none hg)).mono ?_
    rintro r w' ⟨rfl, hX⟩
    exact ⟨rfl, hX⟩
  | some e =>
    obtain ⟨j, rfl, hj⟩ := getE_some hg
    obtain ⟨h1, h2⟩ := hI.get hj
    refine (rget_in X j k e hj h2 (by have := hI.len; omega) (by have := h1.len hm; omega)).mono ?_
    rintro r w' ⟨rfl, hX⟩
    refine ⟨?_, hX⟩
    unfold getA
    dsimp only
    cases findK e.vs k <;> rfl
theorem find_isSome {vs : List Vl} (h : RefRight vs) {k : Int} (hs : (findK vs k).isSome = true) : ∃ kx : Nat, k = (kx : Int) ∧ kx ∈ bitsOf (rowMask vs) := by
  by_cases hh : ∃ kx : Nat, k = (kx : Int) ∧ kx ∈ bitsOf (rowMask vs)
  · exact hh
  · rw [find_no h (fun j hj hm => hh ⟨j, hj, hm⟩)] at hs
    cases hs
theorem rset_any (X : Star w0 w (rfB p m sl :: rfE sl es :: poolR G :: L)) (i : Int) (v : Vl) (hI : Inv m es G) (hm : m < 1024) :
    Calls Tryd.prog 27 #[.pointer (some ⟨p, 0, none⟩), .int .i64 i, vV v] w fun r w' => r = .returned (.int .i64 (setK es i v : Nat)) ∧ ∃ es' G', SetE m es G i v (setK es i v) es' G' ∧ Star w0 w' (rfB p m sl :: rfE sl es' :: poolR G' :: L) := by
  unfold setK
  cases hg : getE es i with
  | none =>
    refine (rset_no X i v (getE_none hg)).mono ?_
    rintro r w' ⟨rfl, hX⟩
    exact ⟨rfl, es, G, .inl ⟨by dsimp only; decide, rfl, rfl⟩, hX⟩
  | some e =>
    obtain ⟨j, rfl, hj⟩ := getE_some hg
    obtain ⟨h1, h2⟩ := hI.get hj
    refine (rset_in X j v e hj h2 (by have := hI.len; omega) (by have := h1.len hm; omega) (fun _ hc => ⟨put_ok h1.1 hc, put_one h1.1 v⟩)).mono ?_
    rintro r w' ⟨rfl, hX1, hX2⟩
    refine ⟨rfl, ?_⟩
    dsimp only
    by_cases h0 : setN (findK e.vs v.k) v = 0
    · obtain ⟨a', c', hX⟩ := hX2 h0
      have hsome : (findK e.vs v.k).isSome = true ∧ chkN v = 0 := by
        unfold setN at h0
        cases hf : findK e.vs v.k with
        | none => rw [hf] at h0; cases h0
        | some x => rw [hf] at h0; exact ⟨rfl, h0⟩
      obtain ⟨kx, hkx, hin⟩ := find_isSome h1.1 hsome.1
      have hrow := put_row h1.1 hkx hin
      have hgood := put_good h1.1 hsome.2 hkx hin
      obtain ⟨hr1, hr2⟩ := h1
      subst hr2
      refine ⟨_, _, .inr ⟨h0, j, kx, e, ⟨e.h, a', c', sortTo (dropK e.vs v.k ++ [v]) 10⟩, rfl, hkx, hin, hsome.2, hj, rfl, hrow, ?_, rfl, rfl⟩, hX⟩
      exact ⟨by rw [hrow]; exact hgood.1, by rw [hrow]; exact hgood.2⟩
    · exact ⟨es, G, .inl ⟨h0, rfl, rfl⟩, hX1 h0⟩
theorem rhas_any (X : Star w0 w (rfB p m sl :: rfE sl es :: L)) (i : Int) : Calls Tryd.prog 31 #[.pointer (some ⟨p, 0, none⟩), .int .i64 i] w fun r w' => r = .returned (.bool (getE es i).isSome) ∧ w = w' := by
  cases hg : getE es i with
  | none => exact has_no X i (getE_none hg)
  | some e =>
    obtain ⟨j, rfl, hj⟩ := getE_some hg
    exact has_yes X j (List.getElem?_eq_some_iff.1 hj).1
end
end Go.Proofs.YtegcnkcjmebheaaDoor.Tab
