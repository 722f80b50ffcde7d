/-
  The table: what each call answers, told at once.
-/
import Derived.Test.YtegcnkcjmebheaaDoorPlaysP
import Derived.Test.YtegcnkcjmebheaaDoorTabGet
namespace Go.Proofs.YtegcnkcjmebheaaDoor.Tab
open Go Go.RowKit Go.Maps Go.Proofs.YtegcnkcjmebheaaDoor.Mask Go.Proofs.YtegcnkcjmebheaaDoor.TableSets
section
variable {w0 w : World} {L : List Res} {G : List En} {t : Pl} {m : Nat} {kv : Value} {es : List En}
theorem tab_cong {H : List Hd} {X X' : Nat → List Vl} (hT : TOk t (bitsOf m)) (h : ∀ k, k ∈ bitsOf m → X k = X' k) : tabL t m kv H X L = tabL t m kv H X' L := by
  unfold tabL
  rw [colS_congr (X' := X') (fun k c hk hc => h k ((hT k).1 (by rw [hc]; rfl)))]
theorem add_any {v : Value} {vs : List Vl} (Y : Star w0 w (Row 37 3 v vs.length (vs.flatMap vc) :: tabL t m kv (hE es) (colE es) L)) (hT : TOk t (bitsOf m)) (h : Hd) (hn : vs.length ≤ 1000) (ad : Nat → Addr) (hEr : Err.ErrsT w0 ad) (hl : es.length ≤ 128) :
    Calls Tryd.prog 9 #[.pointer (some ⟨t.p, 0, none⟩), hV h, v] w fun r w' => r = .returned (.tuple #[.int .i64 (addA m es.length vs : Nat), Err.errV ad (addK m es.length vs)]) ∧ Star w0 w' (Row 37 3 v vs.length (vs.flatMap vc) :: tabL t m kv (hAdd es h (addK m es.length vs)) (xAdd es vs (addK m es.length vs)) L) := by
  have hr := Reads.of_own (Y.row 0 rfl).1
  by_cases ht : RTakes m vs
  · by_cases hl1 : es.length < 128
    · have hT2 : TOk t (bitsOf (rowMask vs)) := by rw [ht.2]; exact hT
      refine (add_ok Y h v vs (fun X => Reads.of_own (X.row 0 rfl).1) (by omega) ad hEr ht.takes (by simpa using hl1) (ht.1.cols hT2) (fun k => by simp; omega) ht.1.once).mono ?_
      rintro r w' ⟨rfl, hX⟩
      unfold addA hAdd xAdd
      rw [addK_ok ht hl1, if_pos rfl, if_pos rfl, if_pos rfl]
      refine ⟨?_, hX⟩
      rw [List.length_map]
      rfl
    · refine (add_full Y h v vs hr (by omega) ad hEr ht.takes (by simp; omega)).mono ?_
      rintro r w' ⟨rfl, hX⟩
      unfold addA hAdd xAdd
      rw [addK_full ht hl1, if_neg (by decide), if_neg (by decide), if_neg (by decide)]
      exact ⟨rfl, hX⟩
  · refine (add_form Y h v vs hr (by omega) ad hEr (fun h => ht h.ref)).mono ?_
    rintro r w' ⟨rfl, hX⟩
    unfold addA hAdd xAdd
    rw [addK_no ht, if_neg (by decide), if_neg (by decide), if_neg (by decide)]
    exact ⟨rfl, hX⟩
theorem add_fit {es' G' : List En} {h : Hd} {vs : List Vl} (hT : TOk t (bitsOf m)) (ha : AddE es G h vs (addK m es.length vs) es' G') : tabL t m kv (hAdd es h (addK m es.length vs)) (xAdd es vs (addK m es.length vs)) L = tabL t m kv (hE es') (colE es') L := by
  rcases ha with ⟨h0, a, c, rfl, _⟩ | ⟨h0, rfl, _⟩
  · have ht := (addK_zero h0).1
    unfold hAdd xAdd
    rw [if_pos h0, if_pos h0, show hE es ++ [h] = hE (es ++ [⟨h, a, c, vs⟩]) by simp]
    exact tab_cong hT (fun k hk => colE_add es (e := ⟨h, a, c, vs⟩) ht hk)
  · unfold hAdd xAdd
    rw [if_neg h0, if_neg h0]
theorem take_any (Y : Star w0 w (tabL t m kv (hE es) (colE es) (natRow kv (bitsOf m) :: L))) (hT : TOk t (bitsOf m)) (hm : m < 1024) (i : Int) (hI : Inv m es G) (ad : Nat → Addr) (hEr : Err.ErrsT w0 ad) :
    Calls Tryd.prog 11 #[.pointer (some ⟨t.p, 0, none⟩), .int .i64 i] w fun r w' => ∃ v, r = .returned (.tuple #[.agg (enC (hO (getE es i)).1 (hO (getE es i)).2 v), Err.errV ad (kO (getE es i))]) ∧ Star w0 w' (Row 37 3 v (vsO (getE es i)).length ((vsO (getE es i)).flatMap vc) :: tabL t m kv (hE (outE es i)) (colE (outE es i)) (natRow kv (bitsOf m) :: L)) := by
  have hkl := bitsOf_len m
  have hl := hI.len
  unfold outE
  cases hg : getE es i with
  | none =>
    refine (take_out Y hT (bits10 hm) hkl i (by simpa using getE_none hg) (by simpa using hl) (fun k => by simp) (ad 0) hEr.c0).mono ?_
    rintro r w' ⟨rfl, hX⟩
    exact ⟨.slice none 0 0, rfl, hX.nilRow _ _⟩
  | some e =>
    obtain ⟨j, rfl, hj⟩ := getE_some hg
    obtain ⟨h1, h2⟩ := hI.get hj
    refine (take_in Y hT (bits10 hm) hkl j e.h (by simp [hj]) (by simpa using hl) (Tab.valOf e.vs) (fun k _ => vals_of hj k) (fun k => by simp; omega)).mono ?_
    rintro r w' ⟨v, rfl, hX⟩
    have hmap := h1.1.map
    rw [h1.2] at hmap
    rw [hmap] at hX
    refine ⟨v, rfl, ?_⟩
    rw [hE_take, show (fun k => takeOut (colE es k) j) = colE (takeOut es j) from funext fun k => colE_take es j k] at hX
    exact hX
theorem entity_any (Y : Star w0 w (tabL t m kv (hE es) (colE es) (natRow kv (bitsOf m) :: L))) (hT : TOk t (bitsOf m)) (hm : m < 1024) (i : Int) (hI : Inv m es G) (ad : Nat → Addr) (hEr : Err.ErrsT w0 ad) :
    Calls Tryd.prog 12 #[.pointer (some ⟨t.p, 0, none⟩), .int .i64 i] w fun r w' => ∃ v, r = .returned (.tuple #[.agg (enC (hO (getE es i)).1 (hO (getE es i)).2 v), Err.errV ad (kO (getE es i))]) ∧ Star w0 w' (Row 37 3 v (vsO (getE es i)).length ((vsO (getE es i)).flatMap vc) :: tabL t m kv (hE es) (colE es) (natRow kv (bitsOf m) :: L)) := by
  have hkl := bitsOf_len m
  have hl := hI.len
  cases hg : getE es i with
  | none =>
    refine (entity_out Y hT (bits10 hm) hkl i (by simpa using getE_none hg) (by simpa using hl) (fun k => by simp) (ad 0) hEr.c0).mono ?_
    rintro r w' ⟨rfl, hX⟩
    exact ⟨.slice none 0 0, rfl, hX.nilRow _ _⟩
  | some e =>
    obtain ⟨j, rfl, hj⟩ := getE_some hg
    obtain ⟨h1, h2⟩ := hI.get hj
    refine (entity_in Y hT (bits10 hm) hkl j e.h (by simp [hj]) (by simpa using hl) (Tab.valOf e.vs) (fun k _ => vals_of hj k) (fun k => by simp; omega)).mono ?_
    rintro r w' ⟨v, rfl, hX⟩
    have hmap := h1.1.map
    rw [h1.2] at hmap
    rw [hmap] at hX
    exact ⟨v, rfl, hX⟩
theorem col_of {k : Nat} (hT : TOk t (bitsOf m)) (hk : k ∈ bitsOf m) : ∃ c, t.cols k = some c := Option.isSome_iff_exists.1 ((hT k).2 hk)
theorem col_no {k : Int} (hT : TOk t (bitsOf m)) (hk : ∀ j : Nat, k = (j : Int) → j ∉ bitsOf m) : mapC t.cols (.int .i64 k) = none := by
  by_cases h0 : k < 0
  · exact mapC_neg _ _ h0
  · obtain ⟨j, rfl⟩ := Int.eq_ofNat_of_zero_le (show (0 : Int) ≤ k by omega)
    rw [mapC_nat]
    cases hc : t.cols j with
    | none => rfl
    | some c => exact absurd ((hT j).1 (by rw [hc]; rfl)) (hk j rfl)
theorem get_any (Y : Star w0 w (tabL t m kv (hE es) (colE es) L)) (hT : TOk t (bitsOf m)) (hm : m < 1024) (i k : Int) (hk1 : -9223372036854775808 ≤ k) (hk2 : k ≤ 9223372036854775807) (hI : Inv m es G) (ad : Nat → Addr) (hEr : Err.ErrsT w0 ad) :
    Calls Tryd.prog 25 #[.pointer (some ⟨t.p, 0, none⟩), .int .i64 i, .int .i64 k] w fun r w' => r = .returned (.tuple #[vV (getG es i k).1, Err.errV ad (getG es i k).2]) ∧ Star w0 w' (tabL t m kv (hE es) (colE es) L) := by
  have hl := hI.len
  unfold getG
  cases hg : getE es i with
  | none =>
    refine (get_out Y i k (by simpa using getE_none hg) (ad 0) hEr.c0).mono ?_
    rintro r w' ⟨rfl, hX⟩
    exact ⟨rfl, hX⟩
  | some e =>
    obtain ⟨j, rfl, hj⟩ := getE_some hg
    obtain ⟨h1, h2⟩ := hI.get hj
    have hjl := (List.getElem?_eq_some_iff.1 hj).1
    by_cases hin : ∃ kx : Nat, k = (kx : Int) ∧ kx ∈ bitsOf m
    · obtain ⟨kx, rfl, hkx⟩ := hin
      obtain ⟨c, hc⟩ := col_of hT hkx
      have hf := find_val h1.1 (k := kx) (by rw [h1.2]; exact hkx)
      refine (get_ok Y j kx c (by simpa using hjl) (bits10 hm kx hkx) hc (Tab.valOf e.vs kx) (vals_of hj kx) (by simp; omega)).mono ?_
      rintro r w' ⟨rfl, hX⟩
      refine ⟨?_, hX⟩
      dsimp only
      rw [hf]
      rfl
    · have hf := find_no h1.1 (k := k) (fun q hq hm2 => hin ⟨q, hq, by rw [← h1.2]; exact hm2⟩)
      refine (get_kind Y j k (by simpa using hjl) hk1 hk2 (col_no hT (fun q hq hm2 => hin ⟨q, hq, hm2⟩)) (ad 4) hEr.c4).mono ?_
      rintro r w' ⟨rfl, hX⟩
      refine ⟨?_, hX⟩
      dsimp only
      rw [hf]
      rfl
def xSet (es : List En) (i : Int) (v : Vl) (K : Nat) : Nat → List Vl := if K = 0 then updX (colE es) v.k.toNat ((colE es v.k.toNat).set i.toNat v) else colE es
theorem set_any (Y : Star w0 w (tabL t m kv (hE es) (colE es) L)) (hT : TOk t (bitsOf m)) (hm : m < 1024) (i : Int) (v : Vl) (hk1 : -9223372036854775808 ≤ v.k) (hk2 : v.k ≤ 9223372036854775807) (hI : Inv m es G) (ad : Nat → Addr) (hEr : Err.ErrsT w0 ad) :
    Calls Tryd.prog 17 #[.pointer (some ⟨t.p, 0, none⟩), .int .i64 i, vV v] w fun r w' => r = .returned (Err.errV ad (setK es i v)) ∧ Star w0 w' (tabL t m kv (hE es) (xSet es i v (setK es i v)) L) := by
  have hl := hI.len
  unfold setK
  cases hg : getE es i with
  | none =>
    refine (set_out Y i (by simpa using getE_none hg) v (ad 0) hEr.c0).mono ?_
    rintro r w' ⟨rfl, hX⟩
    refine ⟨rfl, ?_⟩
    dsimp only
    unfold xSet
    rw [if_neg (by decide)]
    exact hX
  | some e =>
    obtain ⟨j, rfl, hj⟩ := getE_some hg
    obtain ⟨h1, h2⟩ := hI.get hj
    have hjl := (List.getElem?_eq_some_iff.1 hj).1
    dsimp only
    by_cases hin : ∃ kx : Nat, v.k = (kx : Int) ∧ kx ∈ bitsOf m
    · obtain ⟨kx, hkv, hkx⟩ := hin
      obtain ⟨c, hc⟩ := col_of hT hkx
      have hf := find_val h1.1 (k := kx) (by rw [h1.2]; exact hkx)
      rw [← hkv] at hf
      rw [hf]
      unfold setN
      dsimp only
      by_cases h0 : chkN v = 0
      · refine (set_ok Y j kx c (by simpa using hjl) (bits10 hm kx hkx) hc v hkv h0 ad hEr (by simpa using hjl) (by simp; omega)).mono ?_
        rintro r w' ⟨rfl, hX⟩
        refine ⟨by rw [h0]; rfl, ?_⟩
        unfold xSet
        rw [if_pos h0, hkv]
        exact hX
      · refine (set_bad Y j kx c (by simpa using hjl) (bits10 hm kx hkx) hc v hkv h0 ad hEr).mono ?_
        rintro r w' ⟨rfl, hX⟩
        refine ⟨rfl, ?_⟩
        unfold xSet
        rw [if_neg h0]
        exact hX
    · have hf := find_no h1.1 (k := v.k) (fun q hq hm2 => hin ⟨q, hq, by rw [← h1.2]; exact hm2⟩)
      rw [hf]
      unfold setN
      dsimp only
      refine (set_kind Y j (by simpa using hjl) v hk1 hk2 (col_no hT (fun q hq hm2 => hin ⟨q, hq, hm2⟩)) (ad 4) hEr.c4).mono ?_
      rintro r w' ⟨rfl, hX⟩
      refine ⟨rfl, ?_⟩
      unfold xSet
      rw [if_neg (by decide)]
      exact hX
/-- What Set makes of the document's entities. -/
def SetE (m : Nat) (es G : List En) (i : Int) (v : Vl) (K : Nat) (es' G' : List En) : Prop := (K ≠ 0 ∧ es' = es ∧ G' = G) ∨ (K = 0 ∧ ∃ (j kx : Nat) (e e' : En), i = (j : Int) ∧ v.k = (kx : Int) ∧ kx ∈ bitsOf m ∧ chkN v = 0 ∧ es[j]? = some e ∧ e'.h = e.h ∧ e'.vs = (bitsOf m).map (putVal e.vs v) ∧ Good m e' ∧ es' = es.set j e' ∧ G' = e' :: G)
theorem set_fit {es' G' : List En} {i : Int} {v : Vl} {K : Nat} (hT : TOk t (bitsOf m)) (hI : Inv m es G) (ha : SetE m es G i v K es' G') : tabL t m kv (hE es) (xSet es i v K) L = tabL t m kv (hE es') (colE es') L := by
  rcases ha with ⟨h0, rfl, _⟩ | ⟨rfl, j, kx, e, e', rfl, hk, hin, _, hj, hh, hv, _, rfl, _⟩
  · unfold xSet
    rw [if_neg h0]
  · unfold xSet
    rw [if_pos rfl, hk, hE_set hj hh]
    exact tab_cong hT (fun k hk2 => colE_set hj (hI.get hj).1 v hk e' hv hk2)
theorem Inv.setE {es' G' : List En} {i : Int} {v : Vl} {K : Nat} (hI : Inv m es G) (ha : SetE m es G i v K es' G') : Inv m es' G' := by
  rcases ha with ⟨h0, rfl, rfl⟩ | ⟨rfl, j, kx, e, e', rfl, hk, hin, _, hj, hh, hv, hg, rfl, rfl⟩
  · exact hI
  · exact hI.set j hg
theorem clone_all (Y : Star w0 w (tabL t m kv (hE es) (colE es) (natRow kv (bitsOf m) :: L))) (hT : TOk t (bitsOf m)) (hm : m < 1024) (hI : Inv m es G) :
    Calls Tryd.prog 28 #[.pointer (some ⟨t.p, 0, none⟩)] w fun r w' => ∃ t' : Pl, TOk t' (bitsOf m) ∧ r = .returned (.pointer (some ⟨t'.p, 0, none⟩)) ∧ Star w0 w' (tabL t' m kv (hE es) (colE es) (tabL t m kv (hE es) (colE es) (natRow kv (bitsOf m) :: L))) := by
  have hl := hI.len
  refine (clone_any Y (by simp; omega) (fun k => by simp; omega) (fun k c hc => bits10 hm k ((hT k).1 (by rw [hc]; rfl)))).mono ?_
  rintro r w' ⟨t', h1, rfl, hX⟩
  exact ⟨t', fun k => by rw [h1 k]; exact hT k, rfl, hX⟩
end
end Go.Proofs.YtegcnkcjmebheaaDoor.Tab
