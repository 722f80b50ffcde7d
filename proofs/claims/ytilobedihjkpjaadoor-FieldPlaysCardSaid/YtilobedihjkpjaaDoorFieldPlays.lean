/-
  FieldPlays: the walk. 
-/
import Derived.Test.YtilobedihjkpjaaDoorFieldFlat
import Derived.Test.YtilobedihjkpjaaDoorStepSet
import Derived.Test.YtilobedihjkpjaaDoorOrdInts
import Derived.Test.YtilobedihjkpjaaDoorPart
import Derived.Test.YtilobedihjkpjaaDoorFieldNew
import Derived.Test.YtilobedihjkpjaaDoorFieldSame
import Derived.Test.YtilobedihjkpjaaDoorKept
import Derived.Test.YtilobedihjkpjaaDoorFieldStepsP
namespace Go.Proofs.YtilobedihjkpjaaDoor
/-- A ground of which some tiles are freed or blocked. -/
def Gr.sets (G : Gr) (b : Bool) (l : List Int) : Gr := l.foldl (fun G t => G.set t.toNat b) G
theorem Gr.sets_len (G : Gr) (b : Bool) : ∀ l : List Int, (G.sets b l).fs.length = G.fs.length := by
  intro l
  induction l generalizing G with
  | nil => rfl
  | cons a l ih => unfold Gr.sets at ih ⊢; rw [List.foldl_cons, ih]; simp [Gr.set]
theorem Gr.sets_ok {G : Gr} (h : G.Ok) (b : Bool) : ∀ l : List Int, (G.sets b l).Ok := by
  intro l
  induction l generalizing G with
  | nil => exact h
  | cons a l ih => exact ih (Gr.set_ok h _ _)
theorem Gr.sets_snoc (G : Gr) (b : Bool) (l : List Int) (t : Int) : G.sets b (l ++ [t]) = (G.sets b l).set t.toNat b := by simp [Gr.sets, List.foldl_append]
theorem Gr.set_same {G : Gr} {t : Nat} {b : Bool} (ht : t < G.fs.length) (h : G.free t = b) : G.set t b = G := by
  unfold Gr.free at h
  unfold Gr.set
  have : G.fs.set t b = G.fs := by
    apply List.ext_getElem
    · simp
    · intro i h1 h2
      rw [List.getElem_set]
      by_cases e : t = i
      · subst e
        rw [if_pos rfl, ← h]
        simp [List.getD_eq_getElem?_getD, ht]
      · rw [if_neg e]
  rw [this]
end Go.Proofs.YtilobedihjkpjaaDoor
namespace Go.Proofs.YtilobedihjkpjaaDoor.Fld
open Go Go.RowKit Go.Proofs.YtilobedihjkpjaaDoor.Steps Go.Proofs.YtilobedihjkpjaaDoor.Ord Go.Proofs.YtilobedihjkpjaaDoor.Route
section
variable {w0 w : World} {L : List Res} {f : Nat} {G : Gr} {gl c : List Int}
set_option maxRecDepth 100000 in
set_option maxHeartbeats 4000000 in
theorem fset_any (X : Star w0 w (fldR f G gl c :: L)) (v : Value) (ts : List Int) (hr : ∀ {w' : World} {R1 R2 R3 R4 : Res}, Star w0 w' (R1 :: R2 :: R3 :: R4 :: L) → Ints w' v ts) (hb : ts.length ≤ 9223372036854775807) (b : Bool) (e : Value) (he : w0.cell? ⟨1, 0, none⟩ = some e) :
    Calls Tryd.prog 35 #[.pointer (some ⟨f, 0, none⟩), .bool b, v] w fun r w' =>
      ((∀ t ∈ ts, G.has t = true) ∧ r = .returned .nilIface ∧ ∀ c', (G.sets b ts = G → c' = c) → Star w0 w' (fldR f (G.sets b ts) gl c' :: L)) ∨
      ((∃ t ∈ ts, G.has t = false) ∧ r = .returned e ∧ Star w0 w' (fldR f G gl c :: L)) := by
  obtain ⟨x, hxb, hY⟩ := fldR.open X
  obtain ⟨av, cv, rfl⟩ := (hr hY).slice
  have X0 := hid X
  have Y := hid hY
  have HXB := hid hxb
  have HE := hid he
  obtain ⟨l, hl⟩ : ∃ l, l = ts.length := ⟨_, rfl⟩
  have HN := hid hl
  rw [← hl] at hb ⊢
  have HC : Hid (∀ {w' : World} {R1 R2 R3 R4 : Res}, Star w0 w' (R1 :: R2 :: R3 :: R4 :: L) → ∀ (j : Nat) (t : Int), ts[j]? = some t → ∃ b off cap, Value.slice av l cv = .slice (some ⟨b, off, none⟩) l cap ∧ w'.cell? ⟨b, off + j, none⟩ = some (.int .i64 t)) := hid (fun XX j t ht => by
    obtain ⟨hj, e2⟩ := (List.getElem?_eq_some_iff.1 ht)
    obtain ⟨b, off, cap, e, _, hc⟩ := (hr XX).cells (by omega)
    rw [← hl] at e
    exact ⟨b, off, cap, e, by rw [← e2]; exact hc j hj⟩)
  have hbk := (hY.blk 0 rfl).1
  have d0 := cell_of hbk 0
  have dl := lt_of hbk
  simp only [List.getElem?_toArray, List.getElem?_cons_zero, List.getElem?_cons_succ] at d0
  obtain ⟨pg, pc, hG, -⟩ := gnd_at hY 1 rfl
  have HG := hid hG
  have S := hid hY.same
  clear X hY hxb he hr hl hbk hG
  go_enter Tryd.func35, Tryd.ntmps35
  go_wp2_with fail
  go_loop [14] (fun iv => ∃ j : Nat, j ≤ l ∧ iv = .int .i64 j ∧ ∀ t ∈ ts.take j, 0 ≤ t ∧ t < (G.fs.length : Int)) (fun iv => l - (intOf iv).toNat)
  case atStart => exact ⟨0, by omega, rfl, by simp⟩
  case round =>
    obtain ⟨j, hj, rfl, hall⟩ := hrel
    have HA := hid hall
    clear hall
    by_cases hjl : j < l
    · obtain ⟨t, ht⟩ : ∃ t, ts[j]? = some t := ⟨_, List.getElem?_eq_getElem (by have := HN.out; omega)⟩
      obtain ⟨b1, off, cap, e1, hc⟩ := HC.out Y.out j t ht
      cases e1
      have hc1 := hc
      have hbl := World.block_lt_of_cell? _ _ hc1
      have HT := hid ht
      have hE := S.out.keep HE.out
      have hEl := World.block_lt_of_cell? _ _ hE
      clear hc ht
      by_cases h0 : t < 0
      · go_wp2_with fail
        go_ret
        exact .inr ⟨⟨t, List.mem_of_getElem? HT.out, decide_eq_false (by omega)⟩, rfl, X0.out⟩
      · by_cases h1 : (G.fs.length : Int) ≤ t
        · go_wp2_with fail
          refine (len_any HG.out).mono ?_
          rintro r w' ⟨rfl, rfl⟩
          go_wp2_with fail
          go_ret
          exact .inr ⟨⟨t, List.mem_of_getElem? HT.out, decide_eq_false (by omega)⟩, rfl, X0.out⟩
        · clear hE hEl
          go_wp2_with fail
          refine (len_any HG.out).mono ?_
          rintro r w' ⟨rfl, rfl⟩
          go_wp2
          go_round
          case rel =>
            refine ⟨j + 1, by omega, by go_num, fun y hy => ?_⟩
            obtain ⟨h2, h3⟩ := List.getElem?_eq_some_iff.1 HT.out
            rw [List.take_succ_eq_append_getElem h2, h3, List.mem_append] at hy
            rcases hy with hy | hy
            · exact HA.out y hy
            · simp only [List.mem_singleton] at hy; subst hy; omega
          case measure => simp [intOf]; omega
    · have HALL := hid (show ∀ t ∈ ts, 0 ≤ t ∧ t < (G.fs.length : Int) from fun t ht => HA.out t (by rw [List.take_of_length_le (by have := HN.out; omega)]; exact ht))
      clear HA d0 dl HG
      go_wp2_with fail
      have Y2 := Y.out
      obtain ⟨xp, xg, xgc, xcv, xb⟩ := x
      dsimp only at Y2
      have HXB2 := hid (show xb = true ∨ xcv = .slice none 0 0 from HXB.out)
      have Y3 := hid Y2
      clear Y Y2 HXB X0
      go_loopw [33] (fun iv wr => ∃ (j : Nat) (cw : Value) (bw : Bool), j ≤ l ∧ iv = .int .i64 j ∧ (bw = true ∨ cw = .slice none 0 0) ∧ (bw = true → G.sets b (ts.take j) = G) ∧ Star w0 wr (Blk f (fldC xp xg gl.length xgc cw) 89 :: gndR 92 xp (G.sets b (ts.take j)) :: numR xg gl.length xgc gl :: cellR cw (if bw then G.cells c G.fs.length else []) :: L)) (fun iv _ => l - (intOf iv).toNat)
      case atStart => exact ⟨0, xcv, xb, by omega, rfl, HXB2.out, fun _ => by simp [Gr.sets], by simpa [Gr.sets] using Y3.out⟩
      case round =>
        obtain ⟨j, cw, bw, hj, rfl, hcw, hbw, hX⟩ := hrel
        have X := hid hX
        have HBW := hid hbw
        have HCW := hid hcw
        clear hX hbw hcw Y3
        by_cases hjl : j < l
        · obtain ⟨t, ht⟩ : ∃ t, ts[j]? = some t := ⟨_, List.getElem?_eq_getElem (by have := HN.out; omega)⟩
          obtain ⟨b1, off, cap, e1, hc⟩ := HC.out X.out j t ht
          cases e1
          have hc1 := hc
          have hbl := World.block_lt_of_cell? _ _ hc1
          have hin := HALL.out t (List.mem_of_getElem? ht)
          obtain ⟨t, rfl⟩ := Int.eq_ofNat_of_zero_le hin.1
          have HTK := hid (show G.sets b (ts.take (j + 1)) = (G.sets b (ts.take j)).set t b by
            obtain ⟨h2, h3⟩ := List.getElem?_eq_some_iff.1 ht
            rw [List.take_succ_eq_append_getElem h2, h3, Gr.sets_snoc]; rfl)
          have htl : t < (G.sets b (ts.take j)).fs.length := by rw [Gr.sets_len]; omega
          generalize hGG : G.sets b (ts.take j) = GG at *
          have HGG := hid hGG
          have hbk := (X.out.blk 0 rfl).1
          have d0 := cell_of hbk 0
          have dl := lt_of hbk
          simp only [List.getElem?_toArray, List.getElem?_cons_zero, List.getElem?_cons_succ] at d0
          obtain ⟨pg, pc, hG, -⟩ := gnd_at X.out 1 rfl
          have HG := hid hG
          have HTL := hid htl
          clear hc ht hin hG htl hGG hbk
          go_wp2_with fail
          refine (free_any HG.out _).mono ?_
          rintro r w' ⟨rfl, rfl⟩
          rw [Gr.freeI_nat]
          by_cases hfb : GG.free t = b
          · have HS := hid (Gr.set_same HTL.out hfb)
            rw [hfb]
            clear hfb
            go_wp2
            go_roundw
            case rel => exact ⟨j + 1, cw, bw, by omega, by go_num, HCW.out, fun h => by rw [HTK.out, HS.out]; exact HBW.out h, by rw [HTK.out, HS.out]; exact X.out⟩
            case measure => simp [intOf]; omega
          · have hfb2 : (GG.free t == b) = false := by simpa using hfb
            have XS := hid (X.out.swap)
            clear hfb X HG
            go_wp2_with fail
            refine (set_in XS.out t b HTL.out).mono ?_
            rintro r w2 ⟨rfl, hX2⟩
            have X2 := hid (hX2.swap)
            have hbk := (X2.out.blk 0 rfl).1
            have d0 := cell_of hbk 0
            have d2 := cell_of hbk 2
            have df := free_of hbk 2
            have dl := lt_of hbk
            simp only [List.getElem?_toArray, List.getElem?_cons_zero, List.getElem?_cons_succ] at d0 d2
            clear hX2 XS hbk
            go_wp2_with fail
            have X3 := hid (((((X2.out.put 0 rfl 2 (.slice none 0 0)).pull 3 rfl).drop.nilRow 41 2).pull 3 rfl).pull 3 rfl |> fun h => h.pull 3 rfl)
            clear X2
            go_roundw
            case rel =>
              refine ⟨j + 1, .slice none 0 0, false, by omega, by go_num, .inr rfl, fun h => (by cases h), ?_⟩
              rw [HTK.out]
              exact X3.out
            case measure => simp [intOf]; omega
        · go_wp2
          go_ret
          refine .inl ⟨fun t ht => decide_eq_true (HALL.out t ht), rfl, fun c' hc' => ?_⟩
          have h := X.out
          have hbw := HBW.out
          rw [List.take_of_length_le (by have := HN.out; omega)] at h hbw
          refine fldR.close ⟨xp, xg, xgc, cw, bw⟩ HCW.out ?_
          cases bw with
          | false => exact h
          | true =>
            obtain rfl := hc' (hbw rfl)
            rw [hbw rfl] at h ⊢
            exact h
end
end Go.Proofs.YtilobedihjkpjaaDoor.Fld
namespace Go.Proofs.YtilobedihjkpjaaDoor.Ord
open Go Go.RowKit
/-- A number where it belongs. -/
theorem putRise {ys : List Int} {k : Nat} {n : Int} (h : ys.Pairwise (· < ·)) (h1 : ∀ y ∈ ys.take k, y < n) (h2 : ∀ y, ys[k]? = some y → n < y) : (ys.take k ++ n :: ys.drop k).Pairwise (· < ·) := by
  have h0 := h
  rw [← List.take_append_drop k ys, List.pairwise_append] at h0
  obtain ⟨a, b, c⟩ := h0
  have hd : ∀ y ∈ ys.drop k, n < y := by
    intro y hy
    by_cases hk : k < ys.length
    · rw [List.drop_eq_getElem_cons hk] at hy b
      have h3 := h2 _ (List.getElem?_eq_getElem hk)
      rcases List.mem_cons.1 hy with rfl | hy
      · exact h3
      · have := (List.pairwise_cons.1 b).1 y hy; omega
    · rw [List.drop_eq_nil_of_le (by omega)] at hy; cases hy
  rw [List.pairwise_append, List.pairwise_cons]
  refine ⟨a, ⟨hd, b⟩, fun x hx y hy => ?_⟩
  rcases List.mem_cons.1 hy with rfl | hy
  · exact h1 x hx
  · exact c x hx y hy
theorem putMem {ys : List Int} {k : Nat} {n x : Int} : x ∈ ys.take k ++ n :: ys.drop k ↔ x ∈ ys ∨ x = n := by
  conv => rhs; rw [← List.take_append_drop k ys]
  simp only [List.mem_append, List.mem_cons]
  constructor
  · rintro (h | h | h)
    · exact .inl (.inl h)
    · exact .inr h
    · exact .inl (.inr h)
  · rintro ((h | h) | h)
    · exact .inl h
    · exact .inr (.inr h)
    · exact .inr (.inl h)
/-- What is put in order so far. -/
structure OrdTo (xs : List Int) (j : Nat) (ys : List Int) : Prop where
  rise : ys.Pairwise (· < ·)
  mem : ∀ x, x ∈ ys ↔ x ∈ xs.take j
  le : ys.length ≤ j
theorem OrdTo.start (xs : List Int) : OrdTo xs 0 [] := ⟨List.Pairwise.nil, by simp, by simp⟩
section
variable {xs ys : List Int} {j k : Nat} {n : Int}
theorem take_mem (ht : xs[j]? = some n) (x : Int) : x ∈ xs.take (j + 1) ↔ x ∈ xs.take j ∨ x = n := by
  obtain ⟨h1, h2⟩ := List.getElem?_eq_some_iff.1 ht
  rw [List.take_succ_eq_append_getElem h1, h2, List.mem_append, List.mem_singleton]
theorem OrdTo.has (h : OrdTo xs j ys) (ht : xs[j]? = some n) (hk : ys[k]? = some n) : OrdTo xs (j + 1) ys :=
  ⟨h.rise, fun x => by
    rw [take_mem ht, h.mem]
    exact ⟨.inl, fun hh => by rcases hh with hh | rfl; exact hh; exact (h.mem x).1 (List.mem_of_getElem? hk)⟩, by have := h.le; omega⟩
theorem OrdTo.put (h : OrdTo xs j ys) (ht : xs[j]? = some n) (h1 : ∀ y ∈ ys.take k, y < n) (h2 : ∀ y, ys[k]? = some y → n < y) : OrdTo xs (j + 1) (ys.take k ++ n :: ys.drop k) :=
  ⟨putRise h.rise h1 h2, fun x => by rw [putMem, take_mem ht, h.mem], by
    have := h.le
    rw [List.length_append, List.length_cons, List.length_take, List.length_drop]
    omega⟩
theorem take_lt {y : Int} (h1 : ∀ y ∈ ys.take k, y < n) (hy : ys[k]? = some y) (hl : y < n) : ∀ y ∈ ys.take (k + 1), y < n := by
  obtain ⟨a, b⟩ := List.getElem?_eq_some_iff.1 hy
  rw [List.take_succ_eq_append_getElem a, b]
  intro z hz
  rcases List.mem_append.1 hz with hz | hz
  · exact h1 z hz
  · simp only [List.mem_singleton] at hz; rw [hz]; exact hl
end
theorem infoII : (Tryd.prog.info? 3).map (fun i => (i.zero, i.size, i.bytes)) = some (some (.int .i64 0), 1, 8) := by kernel_rfl
set_option maxRecDepth 100000 in
set_option maxHeartbeats 8000000 in
theorem rints_any (w : World) (xs : List Int) (v : Value) (hr : Ints w v xs) (hb : xs.length ≤ 100000) :
    Calls Tryd.prog 32 #[v] w fun r w' => ∃ g cp l, OrdTo xs xs.length l ∧ r = .returned (.slice (some ⟨g, 0, none⟩) l.length cp) ∧ Star w w' [Row 3 1 (.slice (some ⟨g, 0, none⟩) l.length cp) l.length (l.map (Value.int .i64))] := by
  obtain ⟨i0, hi0, hz0, hz1, hz2⟩ := info_parts infoII
  obtain ⟨av, cv, rfl⟩ := hr.slice
  obtain ⟨l, hl⟩ : ∃ l, l = xs.length := ⟨_, rfl⟩
  have HN := hid hl
  rw [← hl] at hb ⊢
  have HC : Hid (∀ (j : Nat) (t : Int), xs[j]? = some t → ∃ b off cap, Value.slice av l cv = .slice (some ⟨b, off, none⟩) l cap ∧ w.cell? ⟨b, off + j, none⟩ = some (.int .i64 t)) := hid (fun j t ht => by
    obtain ⟨hj, e2⟩ := (List.getElem?_eq_some_iff.1 ht)
    obtain ⟨b, off, cap, e, _, hc⟩ := hr.cells (by omega)
    rw [← hl] at e
    exact ⟨b, off, cap, e, by rw [← e2]; exact hc j hj⟩)
  have X1 := hid ((Star.new w).add (w' := w.alloc (.cells #[] 3)) ((Chg.refl _).alloc _) (R := Row 3 1 (.slice (some ⟨w.heap.size, 0, none⟩) 0 0) 0 (([] : List Int).map (Value.int .i64))) ⟨World.ownsRow_lit (base := 0) w #[] 0 (Nat.zero_le _) (by unfold maxLen; omega) rfl, rfl⟩ (fun k h => by simp [Value.ownBlock] at h; omega))
  clear hr hl
  go_enter Tryd.func32, Tryd.ntmps32
  go_wp2_with fail
  go_loopw [3, 10] (fun ov iv wr => ∃ (j m g cp : Nat) (ys : List Int), j ≤ l ∧ iv = .int .i64 j ∧ m = ys.length ∧ ov = .slice (some ⟨g, 0, none⟩) m cp ∧ OrdTo xs j ys ∧ Star w wr [Row 3 1 (.slice (some ⟨g, 0, none⟩) m cp) m (ys.map (Value.int .i64))]) (fun _ iv _ => l - (intOf iv).toNat)
  case atStart => exact ⟨0, 0, w.heap.size, 0, [], by omega, rfl, rfl, rfl, OrdTo.start xs, X1.out⟩
  case round =>
    obtain ⟨j, m, g, cp, ys, hj, rfl, hm, rfl, ho, hX⟩ := hrel
    have X := hid hX
    have HO := hid ho
    have HM := hid hm
    have hmj := ho.le
    rw [← hm] at hmj
    have hcap := own_cap (hX.row 0 rfl).1
    clear X1 hX ho hm
    by_cases hjl : j < l
    · obtain ⟨t, ht⟩ : ∃ t, xs[j]? = some t := ⟨_, List.getElem?_eq_getElem (by have := HN.out; omega)⟩
      obtain ⟨b, off, cap, e1, hc⟩ := HC.out j t ht
      cases e1
      have hc1 := X.out.same.keep hc
      have hbl := World.block_lt_of_cell? _ _ hc1
      have HT := hid ht
      clear hc ht
      go_wp2_with fail
      clear hc1 hbl
      go_loop [6] (fun kv => ∃ k : Nat, k ≤ m ∧ kv = .int .i64 k ∧ ∀ y ∈ ys.take k, y < t) (fun kv => m - (intOf kv).toNat)
      case atStart => exact ⟨0, by omega, rfl, by simp⟩
      case round =>
        obtain ⟨k, hk, rfl, hlt⟩ := hrel
        have HLT := hid hlt
        clear hlt
        by_cases hkm : k < m
        · obtain ⟨y, hy⟩ : ∃ y, ys[k]? = some y := ⟨_, List.getElem?_eq_getElem (by have := HM.out; omega)⟩
          have hrow := (X.out.row 0 rfl).1
          have g0 : wr.cell? ⟨g, k, none⟩ = some (.int .i64 y) := (hrow.cellAt k (by omega)).trans (by rw [List.getElem?_map, hy]; rfl)
          have gl := (hrow.lt g rfl).2
          have HY := hid hy
          clear hrow hy
          by_cases hyt : y < t
          · go_wp2
            go_round
            case rel => exact ⟨k + 1, by omega, by go_num, take_lt HLT.out HY.out hyt⟩
            case measure => simp [intOf]; omega
          · by_cases hye : y = t
            · subst hye
              go_wp2
              go_roundw
              case rel => exact ⟨j + 1, m, g, cp, ys, by omega, by go_num, HM.out, rfl, HO.out.has HT.out HY.out, X.out⟩
              case measure => simp [intOf]; omega
            · have hyb : (y == t) = false := by simpa using hye
              have HP := hid (HO.out.put (k := k) HT.out HLT.out (fun z hz => by have := HY.out; rw [this] at hz; cases hz; omega))
              clear hye
              go_wp2_with fail
              have hrow := (X.out.row 0 rfl).1
              have hsrc := (Reads.of_own hrow).rest k (cp - k) (by omega) hcap
              have hhead := own_take hrow k (by omega)
              rw [Nat.mul_one, Nat.zero_add] at hsrc
              rw [Nat.mul_one] at hhead
              have HHEAD := hid hhead
              have HSRC := hid hsrc
              have HUB := hid (show ∀ u ∈ ys.map (Value.int .i64), u.oneCell' = true from fun u hu => by obtain ⟨_, _, rfl⟩ := List.mem_map.1 hu; rfl)
              have hw4 : k ≤ m := by omega
              have hw5 : k ≤ cp := by omega
              have hw7 : (k : Int) ≤ (m : Int) := by omega
              have hw8 : (k : Int) ≤ (cp : Int) := by omega
              clear hrow hsrc hhead g0 gl
              go_region_law (first
                | (refine step_app rfl (.tmp 44) (.tmp 47) 24 rfl 3 i0 (.int .i64 0) 1 8 Tryd.underlying24 hi0 hz0 hz1 hz2 rfl (by decide) (.slice (some ⟨wr.heap.size, 0, none⟩) 1 1) 1 [.int .i64 t] (by simp [Act.eval, Act.put]) (by exact own_chg (S := fun _ => False) (World.ownsRow_lit (base := 0) wr #[.int .i64 t] 1 (Nat.zero_le _) (by decide) rfl) (by repeat (first | exact Chg.refl _ | refine Chg.drew ?_)) (fun _ _ f => f)) (if cp = k then some ⟨g, 0, none⟩ else some ⟨g, k, none⟩) (m - k) (cp - k) ((ys.map (Value.int .i64)).drop k) (by simp [Act.eval, Act.put]) (by exact HSRC.out.same (by repeat (first | exact Chg.refl _ | refine Chg.drew ?_ | refine Chg.alloc _ ?_))) (fun u hu => HUB.out u (List.mem_of_mem_drop hu)) (by omega) (by omega) ?_; intro a3 c3 w3; intro ho3 hg3 hn3; have hs3 : Same wr w3 := (Chg.grown (by repeat (first | exact Chg.refl _ | refine Chg.drew ?_ | refine Chg.alloc _ ?_)) hg3 (fun k e hk => absurd hk (by have : wr.heap.size = k := Option.some.inj e; omega))))
                | (refine step_app rfl (.tmp 42) (.tmp 48) 24 rfl 3 i0 (.int .i64 0) 1 8 Tryd.underlying24 hi0 hz0 hz1 hz2 rfl (by decide) (.slice (some ⟨g, 0, none⟩) k cp) k ((ys.map (Value.int .i64)).take k) (by simp [Act.eval, Act.put]) (by exact own_chg (S := fun _ => False) HHEAD.out (by repeat (first | exact hs3 | refine Chg.drew ?_)) (fun _ _ f => f)) a3 (1 + (m - k)) c3 ([.int .i64 t] ++ (ys.map (Value.int .i64)).drop k) (by simp [Act.eval, Act.put]) (by exact (Reads.of_own ho3).same (by repeat (first | exact Chg.refl _ | refine Chg.drew ?_))) (fun u hu => by rcases List.mem_append.1 hu with hu | hu; (simp only [List.mem_singleton] at hu; rw [hu]; rfl); exact HUB.out u (List.mem_of_mem_drop hu)) (by omega) (by omega) ?_; intro a4 c4 w4; rw [show k + (1 + (m - k)) = m + 1 from by omega]; intro ho4 hg4 hn4))
              have X8 := hid ((X.out.go (show Same wr _ by repeat (first | exact hs3 | refine Chg.drew ?_))).grown 0 rfl ho4 hg4 hn4)
              obtain ⟨g5, cp5, e5⟩ := own_shape (X8.out.row 0 rfl).1 (by omega)
              cases e5
              have HLE := hid (show m + 1 = (ys.take k ++ t :: ys.drop k).length by rw [List.length_append, List.length_cons, List.length_take, List.length_drop]; have := HM.out; omega)
              have HMP := hid (show (ys.map (Value.int .i64)).take k ++ ([Value.int .i64 t] ++ (ys.map (Value.int .i64)).drop k) = (ys.take k ++ t :: ys.drop k).map (Value.int .i64) by simp [List.map_take, List.map_drop])
              clear ho3 hg3 hn3 hs3 ho4 hg4 hn4 HHEAD HSRC HUB X
              go_wp2
              go_roundw
              case rel => exact ⟨j + 1, m + 1, g5, _, _, by omega, by go_num, HLE.out, rfl, HP.out, by rw [← HMP.out]; exact X8.out⟩
              case measure => simp [intOf]; omega
        · have hkeq : k = m := by omega
          have HP := hid (HO.out.put (k := k) HT.out HLT.out (fun z hz => by have := (List.getElem?_eq_some_iff.1 hz).1; have := HM.out; omega))
          clear hkeq
          go_wp2_with fail
          have hrow := (X.out.row 0 rfl).1
          have hsrc := (Reads.of_own hrow).rest k (cp - k) (by omega) hcap
          have hhead := own_take hrow k (by omega)
          rw [Nat.mul_one, Nat.zero_add] at hsrc
          rw [Nat.mul_one] at hhead
          have HHEAD := hid hhead
          have HSRC := hid hsrc
          have HUB := hid (show ∀ u ∈ ys.map (Value.int .i64), u.oneCell' = true from fun u hu => by obtain ⟨_, _, rfl⟩ := List.mem_map.1 hu; rfl)
          have hw4 : k ≤ m := by omega
          have hw5 : k ≤ cp := by omega
          have hw7 : (k : Int) ≤ (m : Int) := by omega
          have hw8 : (k : Int) ≤ (cp : Int) := by omega
          clear hrow hsrc hhead
          go_region_law (first
            | (refine step_app rfl (.tmp 44) (.tmp 47) 24 rfl 3 i0 (.int .i64 0) 1 8 Tryd.underlying24 hi0 hz0 hz1 hz2 rfl (by decide) (.slice (some ⟨wr.heap.size, 0, none⟩) 1 1) 1 [.int .i64 t] (by simp [Act.eval, Act.put]) (by exact own_chg (S := fun _ => False) (World.ownsRow_lit (base := 0) wr #[.int .i64 t] 1 (Nat.zero_le _) (by decide) rfl) (by repeat (first | exact Chg.refl _ | refine Chg.drew ?_)) (fun _ _ f => f)) (if cp = k then some ⟨g, 0, none⟩ else some ⟨g, k, none⟩) (m - k) (cp - k) ((ys.map (Value.int .i64)).drop k) (by simp [Act.eval, Act.put]) (by exact HSRC.out.same (by repeat (first | exact Chg.refl _ | refine Chg.drew ?_ | refine Chg.alloc _ ?_))) (fun u hu => HUB.out u (List.mem_of_mem_drop hu)) (by omega) (by omega) ?_; intro a3 c3 w3; intro ho3 hg3 hn3; have hs3 : Same wr w3 := (Chg.grown (by repeat (first | exact Chg.refl _ | refine Chg.drew ?_ | refine Chg.alloc _ ?_)) hg3 (fun k e hk => absurd hk (by have : wr.heap.size = k := Option.some.inj e; omega))))
            | (refine step_app rfl (.tmp 42) (.tmp 48) 24 rfl 3 i0 (.int .i64 0) 1 8 Tryd.underlying24 hi0 hz0 hz1 hz2 rfl (by decide) (.slice (some ⟨g, 0, none⟩) k cp) k ((ys.map (Value.int .i64)).take k) (by simp [Act.eval, Act.put]) (by exact own_chg (S := fun _ => False) HHEAD.out (by repeat (first | exact hs3 | refine Chg.drew ?_)) (fun _ _ f => f)) a3 (1 + (m - k)) c3 ([.int .i64 t] ++ (ys.map (Value.int .i64)).drop k) (by simp [Act.eval, Act.put]) (by exact (Reads.of_own ho3).same (by repeat (first | exact Chg.refl _ | refine Chg.drew ?_))) (fun u hu => by rcases List.mem_append.1 hu with hu | hu; (simp only [List.mem_singleton] at hu; rw [hu]; rfl); exact HUB.out u (List.mem_of_mem_drop hu)) (by omega) (by omega) ?_; intro a4 c4 w4; rw [show k + (1 + (m - k)) = m + 1 from by omega]; intro ho4 hg4 hn4))
          have X8 := hid ((X.out.go (show Same wr _ by repeat (first | exact hs3 | refine Chg.drew ?_))).grown 0 rfl ho4 hg4 hn4)
          obtain ⟨g5, cp5, e5⟩ := own_shape (X8.out.row 0 rfl).1 (by omega)
          cases e5
          have HLE := hid (show m + 1 = (ys.take k ++ t :: ys.drop k).length by rw [List.length_append, List.length_cons, List.length_take, List.length_drop]; have := HM.out; omega)
          have HMP := hid (show (ys.map (Value.int .i64)).take k ++ ([Value.int .i64 t] ++ (ys.map (Value.int .i64)).drop k) = (ys.take k ++ t :: ys.drop k).map (Value.int .i64) by simp [List.map_take, List.map_drop])
          clear ho3 hg3 hn3 hs3 ho4 hg4 hn4 HHEAD HSRC HUB X
          go_wp2
          go_roundw
          case rel => exact ⟨j + 1, m + 1, g5, _, _, by omega, by go_num, HLE.out, rfl, HP.out, by rw [← HMP.out]; exact X8.out⟩
          case measure => simp [intOf]; omega
    · obtain rfl : j = l := by omega
      go_wp2
      go_ret
      exact ⟨g, cp, ys, HO.out, by rw [← HM.out]; rfl, by rw [← HM.out]; exact X.out⟩
end Go.Proofs.YtilobedihjkpjaaDoor.Ord
namespace Go.Proofs.YtilobedihjkpjaaDoor.FieldPlays
open Go Go.RowKit Go.Proofs.YtilobedihjkpjaaDoor.Err Go.Proofs.YtilobedihjkpjaaDoor.Steps Go.Proofs.YtilobedihjkpjaaDoor.Ord Go.Proofs.YtilobedihjkpjaaDoor.Route Go.Proofs.YtilobedihjkpjaaDoor.Fld

abbrev copyR (g cp : Nat) (xs : List Int) : Res := Row 3 1 (.slice (some ⟨g, 0, none⟩) (xs.length + 4) cp) (xs.length + 4) ((xs ++ Num.marks).map (Value.int .i64))
theorem own_capmax {w : World} {B : Nat} {e : TypeId} {size : Nat} {a : Option Addr} {n c : Nat} {xs : List Value} (h : w.ownsRow B e size (.slice a n c) n xs) : c ≤ 9223372036854775807 := by
  rcases h.2 with ⟨h', h0⟩ | ⟨g', cap', cur, h', _, _, h1, h2, _⟩
  · simp only [Value.slice.injEq] at h'; omega
  · simp only [Value.slice.injEq, true_and] at h'; unfold maxLen at h2; omega
/-- Every second tile free. -/
def alt (G : Gr) (k : Nat) : Gr := (List.range k).foldl (fun G t => G.set t (t % 2 == 0)) G
theorem alt_succ (G : Gr) (k : Nat) : alt G (k + 1) = (alt G k).set k (k % 2 == 0) := by unfold alt; rw [List.range_succ, List.foldl_append]; rfl
theorem alt_len (G : Gr) (k : Nat) : (alt G k).fs.length = G.fs.length := by
  induction k with
  | zero => rfl
  | succ k ih => rw [alt_succ, ← ih]; simp [Gr.set]

set_option maxRecDepth 100000 in
set_option maxHeartbeats 8000000 in
theorem walk (g : Grd) (bv : Value) (bl : List Int) (gv : Value) (xs : List Int) (sv : Value) (t : Int) (ls : List (Value × List Int)) (w : World) (hrs : Reads w sv ls.length 1 (ls.map (·.1))) (hls : ∀ l ∈ ls, Ints w l.1 l.2 ∧ l.2.length ≤ maxLen) (hr : Ints w bv bl) (hb : bl.length ≤ 9223372036854775807) (hrg : Ints w gv xs) (hbg : xs.length ≤ 9223372036854775807) (ad : Nat → Addr) (hE : Errs w ad) :
    Calls Tryd.prog 6 #[ask19V g bv gv sv t] w fun r w' => r = .returned (.bool true) ∧ Same w w' := by
  obtain ⟨i0, hi0, hz0, hz1, hz2⟩ := info_parts infoInt
  obtain ⟨a, cb, rfl⟩ := hr.slice
  obtain ⟨ga, gc, rfl⟩ := hrg.slice
  obtain ⟨sa, sc, hsv⟩ := hrs.slice
  obtain ⟨sn, hsn⟩ : ∃ sn, sn = ls.length := ⟨_, rfl⟩
  have HSN := hid hsn
  rw [← hsn] at hsv hrs
  subst hsv
  have HRS := hid hrs
  have HLS := hid hls
  clear hrs hls hsn
  have HE := hid hE
  have HR := hid hr
  have HRG := hid hrg
  obtain ⟨l, hl⟩ : ∃ l, l = bl.length := ⟨_, rfl⟩
  obtain ⟨gn, hgn⟩ : ∃ gn, gn = xs.length := ⟨_, rfl⟩
  have HGN := hid hgn
  by_cases hc : g.right = true ∧ g.W * g.H ≤ 150 ∧ bl.length ≤ 200
  · have MY := hid (fun (w : World) hr hE => made_yes (w := w) g bl (.slice a bl.length cb) hr hc.2.2 hc.1 hc.2.1 ad hE)
    rw [← hl] at MY HR ⊢
    rw [← hgn] at HRG hbg ⊢
    obtain ⟨W, H, S, X, Y⟩ := g
    unfold ask19V
    unfold Grd.v at MY
    simp only at MY ⊢
    have Z := hid ((Star.new w).alloc #[.int .i64 W, .int .i64 H, .int .i64 S, .int .i64 X, .int .i64 Y, .slice a l cb, .slice ga gn gc, .slice sa sn sc, .int .i64 t] 27)
    have HL := hid hl
    clear hc hr hE hl hb hrg hgn
    go_enter Tryd.func6, Tryd.ntmps6
    go_wp2_with fail
    generalize w.alloc _ = w1 at *
    generalize w.heap.size = q at *
    refine (alive_any ad (HE.out.same Z.out.same).fld.two).mono ?_
    rintro r w2 ⟨rfl, hs⟩
    have Z2 := hid (Z.out.go hs)
    have hbk := (Z2.out.blk 0 rfl).1
    have hql := lt_of hbk
    have c0 := cell_of hbk 0
    have c1 := cell_of hbk 1
    have c2 := cell_of hbk 2
    have c3 := cell_of hbk 3
    have c4 := cell_of hbk 4
    have c5 := cell_of hbk 5
    have c6 := cell_of hbk 6
    have c7 := cell_of hbk 7
    have c8 := cell_of hbk 8
    simp only [List.getElem?_toArray, List.getElem?_cons_zero, List.getElem?_cons_succ] at c0 c1 c2 c3 c4 c5 c6 c7 c8
    clear hbk hs Z
    go_wp2_with fail
    refine (MY.out _ (HR.out.same Z2.out.same) (HE.out.same Z2.out.same).fld.two).mono ?_
    rintro r w3 ⟨p, m, G, hok, hmax, rfl, hX3⟩
    have X3 : Hid (Star w w3 [gndR 76 m G, gndR 92 p G, Blk q #[.int .i64 W, .int .i64 H, .int .i64 S, .int .i64 X, .int .i64 Y, .slice a l cb, .slice ga gn gc, .slice sa sn sc, .int .i64 t] 27]) := hid (Z2.out.lift hX3)
    have OK := hid hok
    clear c0 c1 c2 c3 c4 c5 c6 c7 c8 hql hX3 Z2 MY hok
    have hbk := (X3.out.blk 2 rfl).1
    have hql := lt_of hbk
    have c6 := cell_of hbk 6
    have c7 := cell_of hbk 7
    have c8 := cell_of hbk 8
    simp only [List.getElem?_toArray, List.getElem?_cons_zero, List.getElem?_cons_succ] at c6 c7 c8
    clear hbk
    obtain ⟨pg, pc, hG, -⟩ := gnd_at X3.out 1 rfl
    have HG := hid hG
    clear hG
    by_cases h20 : 20 < gn
    · go_wp2
      go_ret
      exact ⟨rfl, X3.out.same⟩
    by_cases h12 : 12 < sn
    · go_wp2
      go_ret
      exact ⟨rfl, X3.out.same⟩
    have HRG2 : Hid (Ints w (.slice ga gn gc) xs) := hid HRG.out
    have HCX : Hid (∀ (j : Nat) (x : Int), xs[j]? = some x → ∃ b off cap, Value.slice ga gn gc = .slice (some ⟨b, off, none⟩) gn cap ∧ w.cell? ⟨b, off + j, none⟩ = some (.int .i64 x)) := hid (fun j x hx => by
      obtain ⟨hj, e2⟩ := List.getElem?_eq_some_iff.1 hx
      obtain ⟨b, off, cap, e, _, hc⟩ := HRG2.out.cells (by omega)
      rw [← HGN.out] at e
      exact ⟨b, off, cap, e, by rw [← e2]; exact hc j hj⟩)
    go_wp2_with fail
    refine (Num.ints_any _ xs _ (HRG2.out.same X3.out.same) (by rw [← HGN.out]; omega)).mono ?_
    rintro r w4 ⟨ig, icp, rfl, hC, hs4⟩
    rw [← HGN.out]
    have HCP := hid hC
    have hcap := hC.cap
    rw [← HGN.out] at hcap
    have hicp := own_capmax hC.own
    have hrd : Ints w4 (.slice (some ⟨ig, 0, none⟩) gn icp) xs := by rw [HGN.out]; exact hC.reads
    have X4 := hid (X3.out.go hs4)
    have d6 := hs4.keep c6
    have d7 := hs4.keep c7
    have d8 := hs4.keep c8
    have dl := Nat.lt_of_lt_of_le hql hs4.size
    have HG4 := hid (HG.out.same hs4)
    have HRD := hid hrd
    clear hC hs4 c6 c7 c8 hql HG X3 hrd
    go_wp2_with fail
    refine (new_all HG4.out xs _ HRD.out (by rw [← HGN.out]; exact hbg) ad (HE.out.same X4.out.same).fld).mono ?_
    rintro r w5 hcase
    have hs5 : Same w4 w5 := by rcases hcase with ⟨_, _, _, _, _, _, _, h⟩ | ⟨_, _, _, _, h⟩; exact h.same; exact h
    have HS5 := hid hs5
    have e6 := hs5.keep d6
    have e7 := hs5.keep d7
    have e8 := hs5.keep d8
    have el := Nat.lt_of_lt_of_le dl hs5.size
    have HCP5 := hid (HCP.out.go hs5)
    clear d6 d7 d8 dl hs5 HCP
    have HKE := hid (fun (h : Ints w5 (.slice ga gn gc) xs) => Num.kept_any w3 ig icp _ xs w5 HCP5.out h (by rw [← HGN.out]; omega) hicp)
    rw [← HGN.out] at HKE
    rcases hcase with ⟨f, gl, c, ho, hF, hgo, rfl, hX5⟩ | ⟨k, hngo, hk, rfl, hs5⟩
    · have X5 : Hid (Star w w5 [fldR f G gl c, gndR 76 m G, gndR 92 p G, Blk q #[.int .i64 W, .int .i64 H, .int .i64 S, .int .i64 X, .int .i64 Y, .slice a l cb, .slice ga gn gc, .slice sa sn sc, .int .i64 t] 27]) := hid (X4.out.lift hX5)
      have HF := hid hF
      have HO := hid ho
      have HGO := hid hgo.2.2
      have HMM := hid (show ∀ x, x ∈ goalsOf gl ↔ x ∈ xs.map Int.toNat from fun x => by
        rw [mem_goals ho.mem (fun x hx => (hgo.2.2 x hx).1), List.mem_map]
        constructor
        · intro hx; exact ⟨(x : Int), hx, by simp⟩
        · rintro ⟨y, hy, rfl⟩
          have := hgo.2.2 y hy
          rw [Int.toNat_of_nonneg this.1]; exact hy)
      have hg1 := hgo.1
      have hg8 := hgo.2.1
      rw [← HGN.out] at hg1 hg8
      clear hX5 X4 hF ho hgo HG4
      go_wp2_with fail
      refine (HKE.out (HRG2.out.same X5.out.same)).mono ?_
      rintro r w6 ⟨rfl, hs6⟩
      have X6 := hid (X5.out.go hs6)
      have c6 := hs6.keep e6
      have c7 := hs6.keep e7
      have c8 := hs6.keep e8
      have cl := Nat.lt_of_lt_of_le el hs6.size
      have hb1 : ¬ (gn : Int) < 1 := by omega
      have hb8 : ¬ (8 : Int) < (gn : Int) := by omega
      clear hs6 X5 e6 e7 e8 el HKE
      go_wp2_with fail
      go_loopw [79] (fun iv wr => ∃ k : Nat, k ≤ gn ∧ iv = .int .i64 k ∧ Same w6 wr ∧ ∀ x ∈ xs.take k, G.has x = true) (fun iv _ => gn - (intOf iv).toNat)
      case atStart => exact ⟨0, by omega, rfl, Chg.refl _, by simp⟩
      case round =>
        obtain ⟨k, hk, rfl, hS, hall⟩ := hrel
        have HALL := hid hall
        have X7 := hid (X6.out.go hS)
        have HS := hid hS
        clear hall hS
        by_cases hkn : k < gn
        · obtain ⟨x, hxk⟩ : ∃ x, xs[k]? = some x := ⟨_, List.getElem?_eq_getElem (by rw [← HGN.out]; exact hkn)⟩
          obtain ⟨b, off, cap, e1, hgk0⟩ := HCX.out k x hxk
          cases e1
          have hts : xs.take (k + 1) = xs.take k ++ [x] := by rw [List.take_add_one, hxk]; rfl
          have hgk := X7.out.same.keep hgk0
          have hgl := World.block_lt_of_cell? _ _ hgk
          have HTS := hid hts
          have HXK := hid hxk
          clear hts hgk0 hxk
          obtain ⟨mg, mc, hM, -⟩ := gnd_at X7.out 1 rfl
          have HM := hid hM
          clear hM
          go_wp2_with fail
          refine (rhas_any HM.out _).mono ?_
          rintro r w' ⟨rfl, rfl⟩
          have HH := hid (show G.has x = true from decide_eq_true (HGO.out x (List.mem_of_getElem? HXK.out)))
          rw [HH.out]
          go_wp2
          go_roundw
          case rel =>
            have hrel : ∃ k' : Nat, k' ≤ gn ∧ Value.int .i64 ((k : Int) + 1) = .int .i64 k' ∧ Same w6 _ ∧ ∀ x ∈ xs.take k', G.has x = true := ⟨k + 1, by omega, by go_num, HS.out, fun y hy => by
              rw [HTS.out, List.mem_append] at hy
              rcases hy with hy | hy
              · exact HALL.out y hy
              · simp at hy; rw [hy]; exact HH.out⟩
            first | exact hrel | ((repeat apply Exists.intro); exact ⟨hrel, rfl⟩)
          case measure => simp [intOf]; omega
        · have c6 := HS.out.keep c6
          have c7 := HS.out.keep c7
          have c8 := HS.out.keep c8
          have cl := Nat.lt_of_lt_of_le cl HS.out.size
          clear HS X6 HALL
          have HXS := hid (fun (w' : World) (h : Star w w' [fldR f G gl c, gndR 76 m G, gndR 92 p G, Blk q #[.int .i64 W, .int .i64 H, .int .i64 S, .int .i64 X, .int .i64 Y, .slice a l cb, .slice ga gn gc, .slice sa sn sc, .int .i64 t] 27]) => h)
          have XG : Hid (Star w wr [fldR f G gl c, gndR 76 m G, gndR 92 p G, Blk q #[.int .i64 W, .int .i64 H, .int .i64 S, .int .i64 X, .int .i64 Y, .slice a l cb, .slice ga gn gc, .slice sa sn sc, .int .i64 t] 27]) := hid X7.out
          clear X7 HXS
          go_wp2_with fail
          go_region_held3 (fun w' => w'.cell? ⟨q, 6, none⟩ = some (.slice ga gn gc)) (go_keep) (first
            | (go_at_call 31; refine (goals_any (XG.out.go ((Chg.refl _).drew)) HF.out).mono ?_; rintro r wa ⟨va, rfl, hXA⟩; obtain ⟨aa, ca, rfl, -⟩ := own_slice (hXA.row 0 rfl).1; have XA := hid hXA; have ka6 := cell_of (XA.out.blk 4 rfl).1 6; have kal := lt_of (XA.out.blk 4 rfl).1; simp only [List.getElem?_toArray, List.getElem?_cons_zero, List.getElem?_cons_succ] at ka6; clear hXA)
            | (go_at_call 32; refine (rints_any _ xs _ (HRG2.out.same XA.out.same) (by rw [← HGN.out]; omega)).mono ?_; rintro r wb ⟨gg2, gc2, l2, hord, rfl, hXB⟩; obtain rfl : l2 = gl := rise_unique _ _ hord.rise HO.out.rise (fun x => by rw [HO.out.mem, hord.mem, List.take_length]); have XB := hid (XA.out.lift hXB); have kb6 := cell_of (XB.out.blk 5 rfl).1 6; have kbl := lt_of (XB.out.blk 5 rfl).1; simp only [List.getElem?_toArray, List.getElem?_cons_zero, List.getElem?_cons_succ] at kb6; clear hXB hord)
            | (go_at_call 26; refine (Num.sameInts _ _ l2 l2 _ (Reads.of_own (XB.out.row 1 rfl).1) (Reads.of_own (XB.out.row 0 rfl).1) (by have := HF.out.le; omega) (by have := HF.out.le; omega)).mono ?_; rintro r wc ⟨rfl, hs⟩; rw [decide_eq_true rfl]; have XC := hid (XB.out.go hs); have kc6 := hs.keep kb6; have kcl := Nat.lt_of_lt_of_le kbl hs.size; clear hs))
          all_goals
            have X8 : Hid (Star w wc [gndR 92 p G, fldR f G l2 c, gndR 76 m G, Blk q #[.int .i64 W, .int .i64 H, .int .i64 S, .int .i64 X, .int .i64 Y, .slice a l cb, .slice ga gn gc, .slice sa sn sc, .int .i64 t] 27]) := hid ((XC.out.drop.drop).pull 2 rfl)
            obtain ⟨n, hn⟩ : ∃ n, n = G.fs.length := ⟨_, rfl⟩
            have HN := hid hn
            rw [← hn] at hmax
            obtain ⟨pg, pc, hG, -⟩ := gnd_at X8.out 0 rfl
            have HGC := hid hG
            clear XC XB XA XG kc6 kcl kb6 kbl hn hG
            go_wp2_with fail
            refine (len_any HGC.out).mono ?_
            rintro r w' ⟨rfl, rfl⟩
            rw [← HN.out]
            clear HGC
            go_wp2_with fail
            go_loopw [112] (fun iv wr => ∃ k : Nat, k ≤ n ∧ iv = .int .i64 k ∧ Star w wr [gndR 92 p (alt G k), fldR f G l2 c, gndR 76 m G, Blk q #[.int .i64 W, .int .i64 H, .int .i64 S, .int .i64 X, .int .i64 Y, .slice a l cb, .slice ga gn gc, .slice sa sn sc, .int .i64 t] 27]) (fun iv _ => n - (intOf iv).toNat)
            case atStart => exact ⟨0, by omega, rfl, X8.out⟩
            case round =>
              obtain ⟨k, hk, rfl, hX⟩ := hrel
              have X := hid hX
              rename World => wy
              clear hX X8
              by_cases hkn : k < n
              · rcases Nat.mod_two_eq_zero_or_one k with hm | hm
                · have hmi : (k : Int) % 2 = 0 := by omega
                  have hmt : (k : Int).tmod 2 = 0 := by rw [Int.tmod_eq_emod_of_nonneg (by omega)]; exact hmi
                  go_wp2_with fail
                  refine (set_in X.out k true (by rw [alt_len, ← HN.out]; exact hkn)).mono ?_
                  rintro r w9 ⟨rfl, hX9⟩
                  have X9 := hid hX9
                  have HT := hid (show (alt G k).set k true = alt G (k + 1) by rw [alt_succ, hm]; rfl)
                  clear hX9 X
                  go_wp2
                  go_roundw
                  case rel =>
                    have hrel : ∃ k' : Nat, k' ≤ n ∧ Value.int .i64 ((k : Int) + 1) = .int .i64 k' ∧ Star w _ [gndR 92 p (alt G k'), fldR f G l2 c, gndR 76 m G, Blk q #[.int .i64 W, .int .i64 H, .int .i64 S, .int .i64 X, .int .i64 Y, .slice a l cb, .slice ga gn gc, .slice sa sn sc, .int .i64 t] 27] := ⟨k + 1, by omega, by go_num, by rw [← HT.out]; exact X9.out⟩
                    first | exact hrel | ((repeat apply Exists.intro); exact ⟨hrel, rfl⟩)
                  case measure => simp [intOf]; omega
                · have hmi : (k : Int) % 2 = 1 := by omega
                  have hmt : (k : Int).tmod 2 = 1 := by rw [Int.tmod_eq_emod_of_nonneg (by omega)]; exact hmi
                  go_wp2_with fail
                  refine (set_in X.out k false (by rw [alt_len, ← HN.out]; exact hkn)).mono ?_
                  rintro r w9 ⟨rfl, hX9⟩
                  have X9 := hid hX9
                  have HT := hid (show (alt G k).set k false = alt G (k + 1) by rw [alt_succ, hm]; rfl)
                  clear hX9 X
                  go_wp2
                  go_roundw
                  case rel =>
                    have hrel : ∃ k' : Nat, k' ≤ n ∧ Value.int .i64 ((k : Int) + 1) = .int .i64 k' ∧ Star w _ [gndR 92 p (alt G k'), fldR f G l2 c, gndR 76 m G, Blk q #[.int .i64 W, .int .i64 H, .int .i64 S, .int .i64 X, .int .i64 Y, .slice a l cb, .slice ga gn gc, .slice sa sn sc, .int .i64 t] 27] := ⟨k + 1, by omega, by go_num, by rw [← HT.out]; exact X9.out⟩
                    first | exact hrel | ((repeat apply Exists.intro); exact ⟨hrel, rfl⟩)
                  case measure => simp [intOf]; omega
              · have X9 := hid X.out.drop
                clear X
                have hbk := (X9.out.blk 2 rfl).1
                have ql := lt_of hbk
                have c6 := cell_of hbk 6
                have c7 := cell_of hbk 7
                have c8 := cell_of hbk 8
                simp only [List.getElem?_toArray, List.getElem?_cons_zero, List.getElem?_cons_succ] at c6 c7 c8
                clear hbk
                go_wp2_with fail
                refine (same_any X9.out HF.out _ xs HRG2.out (by rw [← HGN.out]; omega) HGO.out HMM.out t ad HE.out).mono ?_
                rintro r w5 ⟨rfl, hX5⟩
                have X5 := hid hX5
                clear hX5 X9 c6 c7 c8 ql
                have hbk := (X5.out.blk 2 rfl).1
                have ql := lt_of hbk
                have c6 := cell_of hbk 6
                have c7 := cell_of hbk 7
                have c8 := cell_of hbk 8
                simp only [List.getElem?_toArray, List.getElem?_cons_zero, List.getElem?_cons_succ] at c6 c7 c8
                clear hbk
                go_wp2_with fail
                clear c6 c7 c8 ql
                go_loopw [133] (fun iv wr => ∃ (k : Nat) (G' : Gr) (c' : List Int), k ≤ sn ∧ iv = .int .i64 k ∧ FOk G' l2 c' ∧ G'.fs.length = n ∧ Star w wr [fldR f G' l2 c', gndR 76 m G', Blk q #[.int .i64 W, .int .i64 H, .int .i64 S, .int .i64 X, .int .i64 Y, .slice a l cb, .slice ga gn gc, .slice sa sn sc, .int .i64 t] 27]) (fun iv _ => sn - (intOf iv).toNat)
                case atStart => exact ⟨0, G, c, by omega, rfl, HF.out, HN.out.symm, X5.out⟩
                case round =>
                  obtain ⟨k, G1, c1, hk, rfl, hF1, hG1, hX⟩ := hrel
                  have X6 := hid hX
                  have HF1 := hid hF1
                  have HG1 := hid hG1
                  rename World => wz
                  clear hX X5 hF1 hG1
                  by_cases hks : k < sn
                  · obtain ⟨sb, so, scap, e1, -, hsc⟩ := HRS.out.open (by omega)
                    cases e1
                    obtain ⟨lp, hlp⟩ : ∃ lp, ls[k]? = some lp := ⟨_, List.getElem?_eq_getElem (by rw [← HSN.out]; exact hks)⟩
                    have hkc0 := X6.out.same.keep (hsc k lp.1 (by rw [List.getElem?_map, hlp]; rfl))
                    have hlpI := HLS.out lp (List.mem_of_getElem? hlp)
                    obtain ⟨lv, ll⟩ := lp
                    have hlI : Ints w lv ll := hlpI.1
                    have hkc : wz.cell? ⟨sb, so + k, none⟩ = some lv := hkc0
                    obtain ⟨la, lc, rfl⟩ := hlI.slice
                    obtain ⟨lk, hlk⟩ : ∃ lk, lk = ll.length := ⟨_, rfl⟩
                    have HLK := hid hlk
                    have HLL : Hid (Ints w (.slice la lk lc) ll) := hid (by rw [hlk]; exact hlI)
                    rw [← hlk] at hkc
                    have hkcl := World.block_lt_of_cell? _ _ hkc
                    have HLX : Hid (∀ (j : Nat) (x : Int), ll[j]? = some x → ∃ b off cap, Value.slice la lk lc = .slice (some ⟨b, off, none⟩) lk cap ∧ w.cell? ⟨b, off + j, none⟩ = some (.int .i64 x)) := hid (fun j x hx => by
                      obtain ⟨hj, e2⟩ := List.getElem?_eq_some_iff.1 hx
                      obtain ⟨b, off, cap, e, _, hc⟩ := HLL.out.cells (by omega)
                      rw [← HLK.out] at e
                      exact ⟨b, off, cap, e, by rw [← e2]; exact hc j hj⟩)
                    clear hsc hlp hkc0 hlpI hlI hlk
                    by_cases h50 : 50 < lk
                    · go_wp2
                      go_ret
                      exact ⟨rfl, X6.out.same⟩
                    · go_wp2_with fail
                      clear hkc hkcl
                      go_loopw [14, 143] (fun av jv wq => ∃ (j : Nat) (al : Bool), j ≤ lk ∧ jv = .int .i64 j ∧ av = .bool al ∧ al = (ll.take j).all G1.has ∧ Star w wq [fldR f G1 l2 c1, gndR 76 m G1, Blk q #[.int .i64 W, .int .i64 H, .int .i64 S, .int .i64 X, .int .i64 Y, .slice a l cb, .slice ga gn gc, .slice (some ⟨sb, so, none⟩) sn sc, .int .i64 t] 27]) (fun _ jv _ => lk - (intOf jv).toNat)
                      case atStart => exact ⟨0, true, by omega, rfl, rfl, rfl, X6.out⟩
                      case round =>
                        obtain ⟨j, al, hj, rfl, rfl, hal, hX⟩ := hrel
                        have HAL := hid hal
                        clear X6
                        have X6 := hid hX
                        rename World => wv
                        clear hal hX
                        by_cases hjl : j < lk
                        · obtain ⟨x, hxj⟩ : ∃ x, ll[j]? = some x := ⟨_, List.getElem?_eq_getElem (by rw [← HLK.out]; exact hjl)⟩
                          obtain ⟨eb, eo, ec, e1, hex0⟩ := HLX.out j x hxj
                          cases e1
                          have hex := X6.out.same.keep hex0
                          have hexl := World.block_lt_of_cell? _ _ hex
                          have HTJ := hid (show (ll.take (j + 1)).all G1.has = ((ll.take j).all G1.has && G1.has x) by rw [List.take_add_one, hxj, Option.toList_some, List.all_append]; simp)
                          clear hex0 hxj
                          cases al with
                          | true =>
                            obtain ⟨mg, mc, hM, -⟩ := gnd_at X6.out 1 rfl
                            have HM := hid hM
                            clear hM
                            go_wp2_with fail
                            refine (rhas_any HM.out _).mono ?_
                            rintro r w' ⟨rfl, rfl⟩
                            obtain ⟨hb, hhb⟩ : ∃ hb, hb = G1.has x := ⟨_, rfl⟩
                            have HHB := hid hhb
                            rw [← hhb]
                            clear hhb HM hex hexl
                            go_wp2
                            go_roundw
                            case rel =>
                              have hrel : ∃ (j' : Nat) (al' : Bool), j' ≤ lk ∧ Value.int .i64 ((j : Int) + 1) = .int .i64 j' ∧ Value.bool hb = .bool al' ∧ al' = (ll.take j').all G1.has ∧ Star w _ [fldR f G1 l2 c1, gndR 76 m G1, Blk q #[.int .i64 W, .int .i64 H, .int .i64 S, .int .i64 X, .int .i64 Y, .slice a l cb, .slice ga gn gc, .slice (some ⟨sb, so, none⟩) sn sc, .int .i64 t] 27] := ⟨j + 1, hb, by omega, by go_num, rfl, by rw [HTJ.out, ← HAL.out, HHB.out]; rfl, X6.out⟩
                              first | exact hrel | ((repeat apply Exists.intro); exact ⟨hrel, rfl⟩)
                            case measure => simp [intOf]; omega
                          | false =>
                            go_wp2
                            go_roundw
                            case rel =>
                              have hrel : ∃ (j' : Nat) (al' : Bool), j' ≤ lk ∧ Value.int .i64 ((j : Int) + 1) = .int .i64 j' ∧ Value.bool false = .bool al' ∧ al' = (ll.take j').all G1.has ∧ Star w _ [fldR f G1 l2 c1, gndR 76 m G1, Blk q #[.int .i64 W, .int .i64 H, .int .i64 S, .int .i64 X, .int .i64 Y, .slice a l cb, .slice ga gn gc, .slice (some ⟨sb, so, none⟩) sn sc, .int .i64 t] 27] := ⟨j + 1, false, by omega, by go_num, rfl, by rw [HTJ.out, ← HAL.out]; rfl, X6.out⟩
                              first | exact hrel | ((repeat apply Exists.intro); exact ⟨hrel, rfl⟩)
                            case measure => simp [intOf]; omega
                        · have hall2 : al = ll.all G1.has := by rw [HAL.out, List.take_of_length_le (by rw [← HLK.out]; omega)]
                          subst hall2
                          clear HAL
                          rcases Nat.mod_two_eq_zero_or_one k with hm | hm
                          · have hmi : (k : Int) % 2 = 0 := by omega
                            have hmt : (k : Int).tmod 2 = 0 := by rw [Int.tmod_eq_emod_of_nonneg (by omega)]; exact hmi
                            go_wp2_with fail
                            refine (Num.ints_any _ ll _ (HLL.out.same X6.out.same) (by rw [← HLK.out]; omega)).mono ?_
                            rintro r w7 ⟨cg, ccp, rfl, hC, hs7⟩
                            rw [← HLK.out]
                            have X7 : Hid (Star w w7 [fldR f G1 l2 c1, copyR cg ccp ll, gndR 76 m G1, Blk q #[.int .i64 W, .int .i64 H, .int .i64 S, .int .i64 X, .int .i64 Y, .slice a l cb, .slice ga gn gc, .slice (some ⟨sb, so, none⟩) sn sc, .int .i64 t] 27]) := hid ((X6.out.add hs7 (R := copyR cg ccp ll) ⟨hC.own, rfl⟩ (fun i h => by have e : cg = i := Option.some.inj h; have := hC.new; omega)).swap)
                            have HCR : Hid (∀ {w' : World} {R1 R2 R3 R4 : Res}, Star w w' (R1 :: R2 :: R3 :: R4 :: [copyR cg ccp ll, gndR 76 m G1, Blk q #[.int .i64 W, .int .i64 H, .int .i64 S, .int .i64 X, .int .i64 Y, .slice a l cb, .slice ga gn gc, .slice (some ⟨sb, so, none⟩) sn sc, .int .i64 t] 27]) → Ints w' (.slice (some ⟨cg, 0, none⟩) lk ccp) ll) := hid (fun XX => by rw [HLK.out]; exact Num.Copy.reads (w0 := w) ⟨(XX.row 4 rfl).1, (XX.row 4 rfl).2 cg rfl⟩)
                            clear hC hs7 X6
                            go_wp2_with fail
                            refine (fset_any X7.out _ ll HCR.out (by rw [← HLK.out]; omega) true _ HE.out.c0).mono ?_
                            rintro r w8 hcase
                            rcases hcase with ⟨hall, rfl, hX8⟩ | ⟨hex, rfl, hX8⟩
                            · have hAB : ll.all G1.has = true := List.all_eq_true.2 hall
                              have HALL := hid hall
                              obtain ⟨c2', hc2F, hc2e⟩ : ∃ c2', FOk (G1.sets true ll) l2 c2' ∧ (G1.sets true ll = G1 → c2' = c1) := by
                                by_cases he : G1.sets true ll = G1
                                · exact ⟨c1, by rw [he]; exact HF1.out, fun _ => rfl⟩
                                · obtain ⟨c3, hc3⟩ := Least.exists (G1.sets true ll) (goalsOf l2)
                                  exact ⟨c3, ⟨Gr.sets_ok HF1.out.ok _ _, hc3, HF1.out.pos, HF1.out.le, by rw [Gr.sets_len]; exact HF1.out.ins⟩, fun h => absurd h he⟩
                              have hX8 := hX8 c2' hc2e
                              have X8 : Hid (Star w w8 [gndR 76 m G1, fldR f (G1.sets true ll) l2 c2', Blk q #[.int .i64 W, .int .i64 H, .int .i64 S, .int .i64 X, .int .i64 Y, .slice a l cb, .slice ga gn gc, .slice (some ⟨sb, so, none⟩) sn sc, .int .i64 t] 27]) := hid ((hX8.swap.drop).swap)
                              have HF2 := hid hc2F
                              rw [hAB]
                              clear hX8 X7 HCR hall hc2F hc2e hAB
                              go_wp2_with fail
                              go_loopw [176] (fun jv wq => ∃ j : Nat, j ≤ lk ∧ jv = .int .i64 j ∧ Star w wq [gndR 76 m (G1.sets true (ll.take j)), fldR f (G1.sets true ll) l2 c2', Blk q #[.int .i64 W, .int .i64 H, .int .i64 S, .int .i64 X, .int .i64 Y, .slice a l cb, .slice ga gn gc, .slice (some ⟨sb, so, none⟩) sn sc, .int .i64 t] 27]) (fun jv _ => lk - (intOf jv).toNat)
                              case atStart => exact ⟨0, by omega, rfl, X8.out⟩
                              case round =>
                                obtain ⟨j, hj, rfl, hX9⟩ := hrel
                                have X9 := hid hX9
                                rename World => wx
                                clear hX9 X8
                                by_cases hjl : j < lk
                                · skip
                                  obtain ⟨x, hxj⟩ : ∃ x, ll[j]? = some x := ⟨_, List.getElem?_eq_getElem (by rw [← HLK.out]; exact hjl)⟩
                                  obtain ⟨eb, eo, ec, e1, hex0⟩ := HLX.out j x hxj
                                  cases e1
                                  have hxin := HALL.out x (List.mem_of_getElem? hxj)
                                  have hx2 : 0 ≤ x ∧ x < G1.fs.length := of_decide_eq_true hxin
                                  obtain ⟨x, rfl⟩ := Int.eq_ofNat_of_zero_le hx2.1
                                  have hxl : x < (G1.sets true (ll.take j)).fs.length := by rw [Gr.sets_len]; omega
                                  have HTK := hid (show G1.sets true (ll.take (j + 1)) = (G1.sets true (ll.take j)).set x true by rw [List.take_add_one, hxj, Option.toList_some, Gr.sets_snoc]; rfl)
                                  have hex := X9.out.same.keep hex0
                                  have hexl := World.block_lt_of_cell? _ _ hex
                                  obtain ⟨mg, mc, hM, -, -, hset⟩ := gnd_at X9.out 0 rfl
                                  have HS := hid (hset x true)
                                  have c2 := hM.c2
                                  have pl := hM.pl
                                  have hf := hM.frozen x
                                  have hg := hM.get x hxl
                                  have hlm : (G1.sets true (ll.take j)).fs.length = n := by rw [Gr.sets_len]; exact HG1.out
                                  have hxn : x < n := by rw [← hlm]; exact hxl
                                  have hxn2 : (x : Int) < (n : Int) := by omega
                                  have mgl := World.block_lt_of_cell? _ _ hg
                                  rw [hlm] at c2
                                  clear hex0 hxj hxin hx2 hxl hM hset hlm
                                  go_wp2
                                  go_roundw
                                  case rel =>
                                    have hrel : ∃ j' : Nat, j' ≤ lk ∧ Value.int .i64 ((j : Int) + 1) = .int .i64 j' ∧ Star w _ [gndR 76 m (G1.sets true (ll.take j')), fldR f (G1.sets true ll) l2 c2', Blk q #[.int .i64 W, .int .i64 H, .int .i64 S, .int .i64 X, .int .i64 Y, .slice a l cb, .slice ga gn gc, .slice (some ⟨sb, so, none⟩) sn sc, .int .i64 t] 27] := ⟨j + 1, by omega, by go_num, by rw [HTK.out]; exact HS.out⟩
                                    first | exact hrel | ((repeat apply Exists.intro); exact ⟨hrel, rfl⟩)
                                  case measure => simp [intOf]; omega
                                · have X10 : Hid (Star w wx [fldR f (G1.sets true ll) l2 c2', gndR 76 m (G1.sets true ll), Blk q #[.int .i64 W, .int .i64 H, .int .i64 S, .int .i64 X, .int .i64 Y, .slice a l cb, .slice ga gn gc, .slice (some ⟨sb, so, none⟩) sn sc, .int .i64 t] 27]) := hid (by have h := X9.out.swap; rw [List.take_of_length_le (by rw [← HLK.out]; omega)] at h; exact h)
                                  clear X9
                                  have hbk := (X10.out.blk 2 rfl).1
                                  have ql := lt_of hbk
                                  have c6 := cell_of hbk 6
                                  have c7 := cell_of hbk 7
                                  have c8 := cell_of hbk 8
                                  simp only [List.getElem?_toArray, List.getElem?_cons_zero, List.getElem?_cons_succ] at c6 c7 c8
                                  clear hbk

                                  go_wp2_with fail
                                  refine (same_any X10.out HF2.out _ xs HRG2.out (by rw [← HGN.out]; omega) (by rw [Gr.sets_len, HG1.out, HN.out]; exact HGO.out) HMM.out t ad HE.out).mono ?_
                                  rintro r w11 ⟨rfl, hX11⟩
                                  have X11 := hid hX11
                                  clear hX11 X10 c6 c7 c8 ql
                                  go_wp2
                                  go_roundw
                                  case rel =>
                                    have hrel : ∃ (k' : Nat) (G' : Gr) (c' : List Int), k' ≤ sn ∧ Value.int .i64 ((k : Int) + 1) = .int .i64 k' ∧ FOk G' l2 c' ∧ G'.fs.length = n ∧ Star w _ [fldR f G' l2 c', gndR 76 m G', Blk q #[.int .i64 W, .int .i64 H, .int .i64 S, .int .i64 X, .int .i64 Y, .slice a l cb, .slice ga gn gc, .slice (some ⟨sb, so, none⟩) sn sc, .int .i64 t] 27] := ⟨k + 1, G1.sets true ll, c2', by omega, by go_num, HF2.out, by rw [Gr.sets_len]; exact HG1.out, X11.out⟩
                                    first | exact hrel | ((repeat apply Exists.intro); exact ⟨hrel, rfl⟩)
                                  case measure => simp [intOf]; omega
                            · have hAB : ll.all G1.has = false := by
                                obtain ⟨y, hy1, hy2⟩ := hex
                                cases he : ll.all G1.has with
                                | false => rfl
                                | true => have := List.all_eq_true.1 he y hy1; rw [hy2] at this; cases this
                              have X8 : Hid (Star w w8 [fldR f G1 l2 c1, gndR 76 m G1, Blk q #[.int .i64 W, .int .i64 H, .int .i64 S, .int .i64 X, .int .i64 Y, .slice a l cb, .slice ga gn gc, .slice (some ⟨sb, so, none⟩) sn sc, .int .i64 t] 27]) := hid ((hX8.swap).drop)
                              rw [hAB]
                              clear hX8 X7 HCR hex hAB
                              go_wp2_with fail
                              refine (num_err ad 0 (by omega) _ (HE.out.same X8.out.same)).mono ?_
                              rintro r w9 ⟨rfl, hs9⟩
                              have X9 := hid (X8.out.go hs9)
                              clear hs9 X8
                              go_wp2_with fail
                              go_loopw [176] (fun jv wq => ∃ j : Nat, j ≤ lk ∧ jv = .int .i64 j ∧ Star w wq [fldR f G1 l2 c1, gndR 76 m G1, Blk q #[.int .i64 W, .int .i64 H, .int .i64 S, .int .i64 X, .int .i64 Y, .slice a l cb, .slice ga gn gc, .slice (some ⟨sb, so, none⟩) sn sc, .int .i64 t] 27]) (fun jv _ => lk - (intOf jv).toNat)
                              case atStart => exact ⟨0, by omega, rfl, X9.out⟩
                              case round =>
                                obtain ⟨j, hj, rfl, hX10⟩ := hrel
                                have X10 := hid hX10
                                rename World => wx
                                clear hX10 X9
                                by_cases hjl : j < lk
                                · obtain ⟨x, hxj⟩ : ∃ x, ll[j]? = some x := ⟨_, List.getElem?_eq_getElem (by rw [← HLK.out]; exact hjl)⟩
                                  obtain ⟨eb, eo, ec, e1, hex0⟩ := HLX.out j x hxj
                                  cases e1
                                  have hex := X10.out.same.keep hex0
                                  have hexl := World.block_lt_of_cell? _ _ hex
                                  clear hex0 hxj
                                  go_wp2
                                  go_roundw
                                  case rel =>
                                    have hrel : ∃ j' : Nat, j' ≤ lk ∧ Value.int .i64 ((j : Int) + 1) = .int .i64 j' ∧ Star w _ [fldR f G1 l2 c1, gndR 76 m G1, Blk q #[.int .i64 W, .int .i64 H, .int .i64 S, .int .i64 X, .int .i64 Y, .slice a l cb, .slice ga gn gc, .slice (some ⟨sb, so, none⟩) sn sc, .int .i64 t] 27] := ⟨j + 1, by omega, by go_num, X10.out⟩
                                    first | exact hrel | ((repeat apply Exists.intro); exact ⟨hrel, rfl⟩)
                                  case measure => simp [intOf]; omega
                                · skip
                                  have hbk := (X10.out.blk 2 rfl).1
                                  have ql := lt_of hbk
                                  have c6 := cell_of hbk 6
                                  have c7 := cell_of hbk 7
                                  have c8 := cell_of hbk 8
                                  simp only [List.getElem?_toArray, List.getElem?_cons_zero, List.getElem?_cons_succ] at c6 c7 c8
                                  clear hbk

                                  go_wp2_with fail
                                  refine (same_any X10.out HF1.out _ xs HRG2.out (by rw [← HGN.out]; omega) (by rw [HG1.out, HN.out]; exact HGO.out) HMM.out t ad HE.out).mono ?_
                                  rintro r w11 ⟨rfl, hX11⟩
                                  have X11 := hid hX11
                                  clear hX11 X10 c6 c7 c8 ql
                                  go_wp2
                                  go_roundw
                                  case rel =>
                                    have hrel : ∃ (k' : Nat) (G' : Gr) (c' : List Int), k' ≤ sn ∧ Value.int .i64 ((k : Int) + 1) = .int .i64 k' ∧ FOk G' l2 c' ∧ G'.fs.length = n ∧ Star w _ [fldR f G' l2 c', gndR 76 m G', Blk q #[.int .i64 W, .int .i64 H, .int .i64 S, .int .i64 X, .int .i64 Y, .slice a l cb, .slice ga gn gc, .slice (some ⟨sb, so, none⟩) sn sc, .int .i64 t] 27] := ⟨k + 1, G1, c1, by omega, by go_num, HF1.out, HG1.out, X11.out⟩
                                    first | exact hrel | ((repeat apply Exists.intro); exact ⟨hrel, rfl⟩)
                                  case measure => simp [intOf]; omega
                          · have hmi : (k : Int) % 2 = 1 := by omega
                            have hmt : (k : Int).tmod 2 = 1 := by rw [Int.tmod_eq_emod_of_nonneg (by omega)]; exact hmi
                            go_wp2_with fail
                            refine (Num.ints_any _ ll _ (HLL.out.same X6.out.same) (by rw [← HLK.out]; omega)).mono ?_
                            rintro r w7 ⟨cg, ccp, rfl, hC, hs7⟩
                            rw [← HLK.out]
                            have X7 : Hid (Star w w7 [fldR f G1 l2 c1, copyR cg ccp ll, gndR 76 m G1, Blk q #[.int .i64 W, .int .i64 H, .int .i64 S, .int .i64 X, .int .i64 Y, .slice a l cb, .slice ga gn gc, .slice (some ⟨sb, so, none⟩) sn sc, .int .i64 t] 27]) := hid ((X6.out.add hs7 (R := copyR cg ccp ll) ⟨hC.own, rfl⟩ (fun i h => by have e : cg = i := Option.some.inj h; have := hC.new; omega)).swap)
                            have HCR : Hid (∀ {w' : World} {R1 R2 R3 R4 : Res}, Star w w' (R1 :: R2 :: R3 :: R4 :: [copyR cg ccp ll, gndR 76 m G1, Blk q #[.int .i64 W, .int .i64 H, .int .i64 S, .int .i64 X, .int .i64 Y, .slice a l cb, .slice ga gn gc, .slice (some ⟨sb, so, none⟩) sn sc, .int .i64 t] 27]) → Ints w' (.slice (some ⟨cg, 0, none⟩) lk ccp) ll) := hid (fun XX => by rw [HLK.out]; exact Num.Copy.reads (w0 := w) ⟨(XX.row 4 rfl).1, (XX.row 4 rfl).2 cg rfl⟩)
                            clear hC hs7 X6
                            go_wp2_with fail
                            refine (fset_any X7.out _ ll HCR.out (by rw [← HLK.out]; omega) false _ HE.out.c0).mono ?_
                            rintro r w8 hcase
                            rcases hcase with ⟨hall, rfl, hX8⟩ | ⟨hex, rfl, hX8⟩
                            · have hAB : ll.all G1.has = true := List.all_eq_true.2 hall
                              have HALL := hid hall
                              obtain ⟨c2', hc2F, hc2e⟩ : ∃ c2', FOk (G1.sets false ll) l2 c2' ∧ (G1.sets false ll = G1 → c2' = c1) := by
                                by_cases he : G1.sets false ll = G1
                                · exact ⟨c1, by rw [he]; exact HF1.out, fun _ => rfl⟩
                                · obtain ⟨c3, hc3⟩ := Least.exists (G1.sets false ll) (goalsOf l2)
                                  exact ⟨c3, ⟨Gr.sets_ok HF1.out.ok _ _, hc3, HF1.out.pos, HF1.out.le, by rw [Gr.sets_len]; exact HF1.out.ins⟩, fun h => absurd h he⟩
                              have hX8 := hX8 c2' hc2e
                              have X8 : Hid (Star w w8 [gndR 76 m G1, fldR f (G1.sets false ll) l2 c2', Blk q #[.int .i64 W, .int .i64 H, .int .i64 S, .int .i64 X, .int .i64 Y, .slice a l cb, .slice ga gn gc, .slice (some ⟨sb, so, none⟩) sn sc, .int .i64 t] 27]) := hid ((hX8.swap.drop).swap)
                              have HF2 := hid hc2F
                              rw [hAB]
                              clear hX8 X7 HCR hall hc2F hc2e hAB
                              go_wp2_with fail
                              go_loopw [176] (fun jv wq => ∃ j : Nat, j ≤ lk ∧ jv = .int .i64 j ∧ Star w wq [gndR 76 m (G1.sets false (ll.take j)), fldR f (G1.sets false ll) l2 c2', Blk q #[.int .i64 W, .int .i64 H, .int .i64 S, .int .i64 X, .int .i64 Y, .slice a l cb, .slice ga gn gc, .slice (some ⟨sb, so, none⟩) sn sc, .int .i64 t] 27]) (fun jv _ => lk - (intOf jv).toNat)
                              case atStart => exact ⟨0, by omega, rfl, X8.out⟩
                              case round =>
                                obtain ⟨j, hj, rfl, hX9⟩ := hrel
                                have X9 := hid hX9
                                rename World => wx
                                clear hX9 X8
                                by_cases hjl : j < lk
                                · skip
                                  obtain ⟨x, hxj⟩ : ∃ x, ll[j]? = some x := ⟨_, List.getElem?_eq_getElem (by rw [← HLK.out]; exact hjl)⟩
                                  obtain ⟨eb, eo, ec, e1, hex0⟩ := HLX.out j x hxj
                                  cases e1
                                  have hxin := HALL.out x (List.mem_of_getElem? hxj)
                                  have hx2 : 0 ≤ x ∧ x < G1.fs.length := of_decide_eq_true hxin
                                  obtain ⟨x, rfl⟩ := Int.eq_ofNat_of_zero_le hx2.1
                                  have hxl : x < (G1.sets false (ll.take j)).fs.length := by rw [Gr.sets_len]; omega
                                  have HTK := hid (show G1.sets false (ll.take (j + 1)) = (G1.sets false (ll.take j)).set x false by rw [List.take_add_one, hxj, Option.toList_some, Gr.sets_snoc]; rfl)
                                  have hex := X9.out.same.keep hex0
                                  have hexl := World.block_lt_of_cell? _ _ hex
                                  obtain ⟨mg, mc, hM, -, -, hset⟩ := gnd_at X9.out 0 rfl
                                  have HS := hid (hset x false)
                                  have c2 := hM.c2
                                  have pl := hM.pl
                                  have hf := hM.frozen x
                                  have hg := hM.get x hxl
                                  have hlm : (G1.sets false (ll.take j)).fs.length = n := by rw [Gr.sets_len]; exact HG1.out
                                  have hxn : x < n := by rw [← hlm]; exact hxl
                                  have hxn2 : (x : Int) < (n : Int) := by omega
                                  have mgl := World.block_lt_of_cell? _ _ hg
                                  rw [hlm] at c2
                                  clear hex0 hxj hxin hx2 hxl hM hset hlm
                                  go_wp2
                                  go_roundw
                                  case rel =>
                                    have hrel : ∃ j' : Nat, j' ≤ lk ∧ Value.int .i64 ((j : Int) + 1) = .int .i64 j' ∧ Star w _ [gndR 76 m (G1.sets false (ll.take j')), fldR f (G1.sets false ll) l2 c2', Blk q #[.int .i64 W, .int .i64 H, .int .i64 S, .int .i64 X, .int .i64 Y, .slice a l cb, .slice ga gn gc, .slice (some ⟨sb, so, none⟩) sn sc, .int .i64 t] 27] := ⟨j + 1, by omega, by go_num, by rw [HTK.out]; exact HS.out⟩
                                    first | exact hrel | ((repeat apply Exists.intro); exact ⟨hrel, rfl⟩)
                                  case measure => simp [intOf]; omega
                                · have X10 : Hid (Star w wx [fldR f (G1.sets false ll) l2 c2', gndR 76 m (G1.sets false ll), Blk q #[.int .i64 W, .int .i64 H, .int .i64 S, .int .i64 X, .int .i64 Y, .slice a l cb, .slice ga gn gc, .slice (some ⟨sb, so, none⟩) sn sc, .int .i64 t] 27]) := hid (by have h := X9.out.swap; rw [List.take_of_length_le (by rw [← HLK.out]; omega)] at h; exact h)
                                  clear X9
                                  have hbk := (X10.out.blk 2 rfl).1
                                  have ql := lt_of hbk
                                  have c6 := cell_of hbk 6
                                  have c7 := cell_of hbk 7
                                  have c8 := cell_of hbk 8
                                  simp only [List.getElem?_toArray, List.getElem?_cons_zero, List.getElem?_cons_succ] at c6 c7 c8
                                  clear hbk

                                  go_wp2_with fail
                                  refine (same_any X10.out HF2.out _ xs HRG2.out (by rw [← HGN.out]; omega) (by rw [Gr.sets_len, HG1.out, HN.out]; exact HGO.out) HMM.out t ad HE.out).mono ?_
                                  rintro r w11 ⟨rfl, hX11⟩
                                  have X11 := hid hX11
                                  clear hX11 X10 c6 c7 c8 ql
                                  go_wp2
                                  go_roundw
                                  case rel =>
                                    have hrel : ∃ (k' : Nat) (G' : Gr) (c' : List Int), k' ≤ sn ∧ Value.int .i64 ((k : Int) + 1) = .int .i64 k' ∧ FOk G' l2 c' ∧ G'.fs.length = n ∧ Star w _ [fldR f G' l2 c', gndR 76 m G', Blk q #[.int .i64 W, .int .i64 H, .int .i64 S, .int .i64 X, .int .i64 Y, .slice a l cb, .slice ga gn gc, .slice (some ⟨sb, so, none⟩) sn sc, .int .i64 t] 27] := ⟨k + 1, G1.sets false ll, c2', by omega, by go_num, HF2.out, by rw [Gr.sets_len]; exact HG1.out, X11.out⟩
                                    first | exact hrel | ((repeat apply Exists.intro); exact ⟨hrel, rfl⟩)
                                  case measure => simp [intOf]; omega
                            · have hAB : ll.all G1.has = false := by
                                obtain ⟨y, hy1, hy2⟩ := hex
                                cases he : ll.all G1.has with
                                | false => rfl
                                | true => have := List.all_eq_true.1 he y hy1; rw [hy2] at this; cases this
                              have X8 : Hid (Star w w8 [fldR f G1 l2 c1, gndR 76 m G1, Blk q #[.int .i64 W, .int .i64 H, .int .i64 S, .int .i64 X, .int .i64 Y, .slice a l cb, .slice ga gn gc, .slice (some ⟨sb, so, none⟩) sn sc, .int .i64 t] 27]) := hid ((hX8.swap).drop)
                              rw [hAB]
                              clear hX8 X7 HCR hex hAB
                              go_wp2_with fail
                              refine (num_err ad 0 (by omega) _ (HE.out.same X8.out.same)).mono ?_
                              rintro r w9 ⟨rfl, hs9⟩
                              have X9 := hid (X8.out.go hs9)
                              clear hs9 X8
                              go_wp2_with fail
                              go_loopw [176] (fun jv wq => ∃ j : Nat, j ≤ lk ∧ jv = .int .i64 j ∧ Star w wq [fldR f G1 l2 c1, gndR 76 m G1, Blk q #[.int .i64 W, .int .i64 H, .int .i64 S, .int .i64 X, .int .i64 Y, .slice a l cb, .slice ga gn gc, .slice (some ⟨sb, so, none⟩) sn sc, .int .i64 t] 27]) (fun jv _ => lk - (intOf jv).toNat)
                              case atStart => exact ⟨0, by omega, rfl, X9.out⟩
                              case round =>
                                obtain ⟨j, hj, rfl, hX10⟩ := hrel
                                have X10 := hid hX10
                                rename World => wx
                                clear hX10 X9
                                by_cases hjl : j < lk
                                · obtain ⟨x, hxj⟩ : ∃ x, ll[j]? = some x := ⟨_, List.getElem?_eq_getElem (by rw [← HLK.out]; exact hjl)⟩
                                  obtain ⟨eb, eo, ec, e1, hex0⟩ := HLX.out j x hxj
                                  cases e1
                                  have hex := X10.out.same.keep hex0
                                  have hexl := World.block_lt_of_cell? _ _ hex
                                  clear hex0 hxj
                                  go_wp2
                                  go_roundw
                                  case rel =>
                                    have hrel : ∃ j' : Nat, j' ≤ lk ∧ Value.int .i64 ((j : Int) + 1) = .int .i64 j' ∧ Star w _ [fldR f G1 l2 c1, gndR 76 m G1, Blk q #[.int .i64 W, .int .i64 H, .int .i64 S, .int .i64 X, .int .i64 Y, .slice a l cb, .slice ga gn gc, .slice (some ⟨sb, so, none⟩) sn sc, .int .i64 t] 27] := ⟨j + 1, by omega, by go_num, X10.out⟩
                                    first | exact hrel | ((repeat apply Exists.intro); exact ⟨hrel, rfl⟩)
                                  case measure => simp [intOf]; omega
                                · skip
                                  have hbk := (X10.out.blk 2 rfl).1
                                  have ql := lt_of hbk
                                  have c6 := cell_of hbk 6
                                  have c7 := cell_of hbk 7
                                  have c8 := cell_of hbk 8
                                  simp only [List.getElem?_toArray, List.getElem?_cons_zero, List.getElem?_cons_succ] at c6 c7 c8
                                  clear hbk

                                  go_wp2_with fail
                                  refine (same_any X10.out HF1.out _ xs HRG2.out (by rw [← HGN.out]; omega) (by rw [HG1.out, HN.out]; exact HGO.out) HMM.out t ad HE.out).mono ?_
                                  rintro r w11 ⟨rfl, hX11⟩
                                  have X11 := hid hX11
                                  clear hX11 X10 c6 c7 c8 ql
                                  go_wp2
                                  go_roundw
                                  case rel =>
                                    have hrel : ∃ (k' : Nat) (G' : Gr) (c' : List Int), k' ≤ sn ∧ Value.int .i64 ((k : Int) + 1) = .int .i64 k' ∧ FOk G' l2 c' ∧ G'.fs.length = n ∧ Star w _ [fldR f G' l2 c', gndR 76 m G', Blk q #[.int .i64 W, .int .i64 H, .int .i64 S, .int .i64 X, .int .i64 Y, .slice a l cb, .slice ga gn gc, .slice (some ⟨sb, so, none⟩) sn sc, .int .i64 t] 27] := ⟨k + 1, G1, c1, by omega, by go_num, HF1.out, HG1.out, X11.out⟩
                                    first | exact hrel | ((repeat apply Exists.intro); exact ⟨hrel, rfl⟩)
                                  case measure => simp [intOf]; omega
                  · go_wp2
                    go_ret
                    exact ⟨rfl, X6.out.same⟩
    · have X5 := hid (X4.out.go hs5)
      have HNGO := hid hngo
      clear hs5 X4 hngo HG4
      go_wp2_with fail
      refine (HKE.out (HRG2.out.same X5.out.same)).mono ?_
      rintro r w6 ⟨rfl, hs6⟩
      have X6 := hid (X5.out.go hs6)
      have c6 := hs6.keep e6
      have cl := Nat.lt_of_lt_of_le el hs6.size
      clear hs6 X5 e6 e7 e8 el HKE
      rcases hk with ⟨rfl, hg1, hg8⟩ | ⟨rfl, hg⟩
      · rw [← HGN.out] at hg1 hg8
        have hb1 : ¬ (gn : Int) < 1 := by omega
        have hb8 : ¬ (8 : Int) < (gn : Int) := by omega
        go_wp2_with fail
        go_loopw [79] (fun iv wr => ∃ k : Nat, k ≤ gn ∧ iv = .int .i64 k ∧ Same w6 wr ∧ ∀ x ∈ xs.take k, G.has x = true) (fun iv _ => gn - (intOf iv).toNat)
        case atStart => exact ⟨0, by omega, rfl, Chg.refl _, by simp⟩
        case round =>
          obtain ⟨k, hk, rfl, hS, hall⟩ := hrel
          have HALL := hid hall
          have X7 := hid (X6.out.go hS)
          have HS := hid hS
          clear hall hS
          by_cases hkn : k < gn
          · obtain ⟨x, hxk⟩ : ∃ x, xs[k]? = some x := ⟨_, List.getElem?_eq_getElem (by rw [← HGN.out]; exact hkn)⟩
            obtain ⟨b, off, cap, e1, hgk0⟩ := HCX.out k x hxk
            cases e1
            have hts : xs.take (k + 1) = xs.take k ++ [x] := by rw [List.take_add_one, hxk]; rfl
            have hgk := X7.out.same.keep hgk0
            have hgl := World.block_lt_of_cell? _ _ hgk
            have HTS := hid hts
            have HXK := hid hxk
            clear hts hgk0 hxk
            obtain ⟨mg, mc, hM, -⟩ := gnd_at X7.out 0 rfl
            have HM := hid hM
            clear hM
            go_wp2_with fail
            refine (rhas_any HM.out _).mono ?_
            rintro r w' ⟨rfl, rfl⟩
            cases hh : G.has x with
            | true =>
              have HH := hid hh
              clear hh
              go_wp2
              go_roundw
              case rel =>
                have hrel : ∃ k' : Nat, k' ≤ gn ∧ Value.int .i64 ((k : Int) + 1) = .int .i64 k' ∧ Same w6 _ ∧ ∀ x ∈ xs.take k', G.has x = true := ⟨k + 1, by omega, by go_num, HS.out, fun y hy => by
                  rw [HTS.out, List.mem_append] at hy
                  rcases hy with hy | hy
                  · exact HALL.out y hy
                  · simp at hy; rw [hy]; exact HH.out⟩
                first | exact hrel | ((repeat apply Exists.intro); exact ⟨hrel, rfl⟩)
              case measure => simp [intOf]; omega
            | false =>
              clear hh
              go_wp2_with fail
              refine (num_err ad 0 (by omega) _ (HE.out.same X7.out.same)).mono ?_
              rintro r w7 ⟨rfl, hs7⟩
              have X8 := hid (X7.out.go hs7)
              clear hs7 X7
              go_wp2
              go_ret
              exact ⟨rfl, X8.out.same⟩
          · exact absurd (show GoalsOk G xs from ⟨by rw [← HGN.out]; exact hg1, by rw [← HGN.out]; exact hg8, fun x hx => of_decide_eq_true (HALL.out x (by rw [List.take_of_length_le (by rw [← HGN.out]; omega)]; exact hx))⟩) HNGO.out
      · rw [← HGN.out] at hg
        by_cases hg1 : gn < 1
        · have hb1 : (gn : Int) < 1 := by omega
          go_wp2_with fail
          refine (num_err ad 9 (by omega) _ (HE.out.same X6.out.same)).mono ?_
          rintro r w7 ⟨rfl, hs7⟩
          have X7 := hid (X6.out.go hs7)
          clear hs7 X6
          go_wp2
          go_ret
          exact ⟨rfl, X7.out.same⟩
        · have hb1 : ¬ (gn : Int) < 1 := by omega
          have hb8 : (8 : Int) < (gn : Int) := by omega
          go_wp2_with fail
          refine (num_err ad 9 (by omega) _ (HE.out.same X6.out.same)).mono ?_
          rintro r w7 ⟨rfl, hs7⟩
          have X7 := hid (X6.out.go hs7)
          clear hs7 X6
          go_wp2
          go_ret
          exact ⟨rfl, X7.out.same⟩
  · have MN := hid (fun (w : World) hr => made_no (w := w) g bl (.slice a bl.length cb) hr hb hc)
    rw [← hl] at MN HR ⊢
    rw [← hgn] at HRG hbg ⊢
    obtain ⟨W, H, S, X, Y⟩ := g
    unfold ask19V
    unfold Grd.v at MN
    simp only at MN ⊢
    have Z := hid ((Star.new w).alloc #[.int .i64 W, .int .i64 H, .int .i64 S, .int .i64 X, .int .i64 Y, .slice a l cb, .slice ga gn gc, .slice sa sn sc, .int .i64 t] 27)
    clear hc hr hE hl hb hrg hgn
    go_enter Tryd.func6, Tryd.ntmps6
    go_wp2_with fail
    generalize w.alloc _ = w1 at *
    generalize w.heap.size = q at *
    refine (alive_any ad (HE.out.same Z.out.same).fld.two).mono ?_
    rintro r w2 ⟨rfl, hs⟩
    have Z2 := hid (Z.out.go hs)
    have hbk := (Z2.out.blk 0 rfl).1
    have hql := lt_of hbk
    have c0 := cell_of hbk 0
    have c1 := cell_of hbk 1
    have c2 := cell_of hbk 2
    have c3 := cell_of hbk 3
    have c4 := cell_of hbk 4
    have c5 := cell_of hbk 5
    have c6 := cell_of hbk 6
    have c7 := cell_of hbk 7
    have c8 := cell_of hbk 8
    simp only [List.getElem?_toArray, List.getElem?_cons_zero, List.getElem?_cons_succ] at c0 c1 c2 c3 c4 c5 c6 c7 c8
    clear hbk hs Z
    go_wp2_with fail
    refine (MN.out _ (HR.out.same Z2.out.same)).mono ?_
    rintro r w3 ⟨rfl, hs⟩
    have Z3 := hid (Z2.out.go hs)
    clear hs Z2 MN
    go_wp2
    go_ret
    exact ⟨rfl, Z3.out.same⟩
end Go.Proofs.YtilobedihjkpjaaDoor.FieldPlays
