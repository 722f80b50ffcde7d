/-
  Package jump: Search and Cost, by their contracts.
-/
import Derived.Test.YtdihnjhbopogoaaDoorProg
import Derived.Test.YtdihnjhbopogoaaDoorStar
import Derived.Test.YtdihnjhbopogoaaDoorSearchRun
import Derived.Test.YtdihnjhbopogoaaDoorRouteCosts
import Derived.Deep.DeepCutAuto
namespace Go.Proofs.YtdihnjhbopogoaaDoor
/-- A row of which i things at either end are turned round. -/
def revI (xs : List Value) (i : Nat) : List Value := (List.range xs.length).map fun k => if k < i ∨ xs.length ≤ k + i then xs.getD (xs.length - 1 - k) undef else xs.getD k undef
theorem revI_len (xs : List Value) (i : Nat) : (revI xs i).length = xs.length := by simp [revI]
theorem revI_zero (xs : List Value) : revI xs 0 = xs := by
  apply List.ext_getElem
  · simp [revI]
  · intro k h1 h2
    have h3 : k < xs.length := by simpa [revI] using h1
    have h4 : ¬ (k < 0 ∨ xs.length ≤ k + 0) := by omega
    simp only [revI, List.getElem_map, List.getElem_range, if_neg h4]
    simp [List.getD_eq_getElem?_getD, h3]
theorem revI_get (xs : List Value) (i k : Nat) (hk : k < xs.length) : (revI xs i)[k]? = some (if k < i ∨ xs.length ≤ k + i then xs.getD (xs.length - 1 - k) undef else xs.getD k undef) := by simp [revI, hk]
theorem revI_swap (xs : List Value) (i : Nat) (h : i + i + 1 < xs.length) : ((revI xs i).set i (xs.getD (xs.length - 1 - i) undef)).set (xs.length - 1 - i) (xs.getD i undef) = revI xs (i + 1) := by
  apply List.ext_getElem?
  intro k
  by_cases hk : k < xs.length
  · rw [revI_get xs _ k hk, List.getElem?_set, List.getElem?_set, revI_get xs _ k hk]
    simp only [List.length_set, revI_len]
    by_cases h1 : xs.length - 1 - i = k
    · have e : xs.length - 1 - k = i := by omega
      rw [if_pos h1, if_pos (by omega), if_pos (by omega), e]
    · rw [if_neg h1]
      by_cases h2 : i = k
      · subst h2
        rw [if_pos rfl, if_pos hk, if_pos (by omega)]
      · rw [if_neg h2]
        by_cases h3 : k < i ∨ xs.length ≤ k + i
        · rw [if_pos h3, if_pos (by omega)]
        · rw [if_neg h3, if_neg (by omega)]
  · rw [List.getElem?_eq_none (by simp [revI]; omega), List.getElem?_eq_none (by simp [revI]; omega)]
theorem revI_all (xs : List Value) (i : Nat) (h : xs.length ≤ i + i + 1) : revI xs i = xs.reverse := by
  apply List.ext_getElem?
  intro k
  by_cases hk : k < xs.length
  · rw [revI_get xs _ k hk, List.getElem?_reverse hk]
    have e : (if k < i ∨ xs.length ≤ k + i then xs.getD (xs.length - 1 - k) undef else xs.getD k undef) = xs.getD (xs.length - 1 - k) undef := by
      split
      · rfl
      · rw [show xs.length - 1 - k = k by omega]
    rw [e, List.getD_eq_getElem?_getD, List.getElem?_eq_getElem (by omega)]
    rfl
  · rw [List.getElem?_eq_none (by simp [revI]; omega), List.getElem?_eq_none (by simp; omega)]
end Go.Proofs.YtdihnjhbopogoaaDoor
namespace Go.Proofs.YtdihnjhbopogoaaDoor.Rev
open Go Go.RowKit
set_option maxRecDepth 100000 in
set_option maxHeartbeats 4000000 in
theorem reverse_any {w0 w : World} {L : List Res} {v : Value} {n : Nat} {xs : List Value} (X : Star w0 w (Row 3 1 v n xs :: L)) (h1 : ∀ u ∈ xs, ∃ k : Int, u = .int .i64 k) (hn : n ≤ 1000000) :
    Calls Tryd.prog 45 #[v] w fun r w' => r = .returned (.tuple #[]) ∧ Star w0 w' (Row 3 1 v n xs.reverse :: L) := by
  obtain ⟨av, cv, rfl, -⟩ := own_slice (X.row 0 rfl).1
  have hlen : xs.length = n := by have := (X.row 0 rfl).1.1; omega
  have HL := hid hlen
  have H1 := hid h1
  have X0 := hid (show Star w0 w (Row 3 1 (.slice av n cv) n (revI xs 0) :: L) by rw [revI_zero]; exact X)
  clear X hlen h1
  have hat : Hid (∀ k, k < n → ∃ y : Int, xs.getD k undef = .int .i64 y) := hid (fun k hk => by
    have hk' : k < xs.length := by rw [HL.out]; exact hk
    rw [List.getD_eq_getElem?_getD, List.getElem?_eq_getElem hk']
    exact H1.out _ (List.getElem_mem hk'))
  go_enter Tryd.func45, Tryd.ntmps45
  go_wp2_with fail
  go_loopw [2, 3] (fun iv jv wr => ∃ i : Nat, i ≤ n ∧ iv = .int .i64 i ∧ jv = .int .i64 ((n : Int) - 1 - i) ∧ Star w0 wr (Row 3 1 (.slice av n cv) n (revI xs i) :: L)) (fun iv _ _ => n - (intOf iv).toNat)
  case atStart => exact ⟨0, by omega, rfl, by congr 1; omega, X0.out⟩
  case round =>
    obtain ⟨i, hi, rfl, rfl, hX⟩ := hrel
    have X := hid hX
    clear hX X0
    by_cases hlt : i + i + 1 < n
    · obtain ⟨y1, e1⟩ := hat.out i (by omega)
      obtain ⟨y2, e2⟩ := hat.out (n - 1 - i) (by omega)
      have hrow := (X.out.row 0 rfl).1
      obtain ⟨g, c, e3⟩ := own_shape hrow (by omega)
      cases e3
      have c1 : wr.cell? ⟨g, i, none⟩ = some (.int .i64 y1) := (hrow.cellAt i (by omega)).trans (by rw [revI_get xs i i (by rw [HL.out]; omega), if_neg (by rw [HL.out]; omega), e1])
      have c2 : wr.cell? ⟨g, n - 1 - i, none⟩ = some (.int .i64 y2) := (hrow.cellAt (n - 1 - i) (by omega)).trans (by rw [revI_get xs i (n - 1 - i) (by rw [HL.out]; omega), if_neg (by rw [HL.out]; omega), e2])
      have f1 := hrow.frozenAt i
      have f2 := hrow.frozenAt (n - 1 - i)
      have gl := (hrow.lt g rfl).2
      obtain ⟨j, hj⟩ : ∃ j, j = n - 1 - i := ⟨_, rfl⟩
      have hji : ((n : Int) - 1 - i) = (j : Int) := by omega
      have hij : ¬ i = j := by omega
      have hlt2 : i < j := by omega
      have hjn : j < n := by omega
      have HJ := hid hj
      have hsw := revI_swap xs i (by rw [HL.out]; exact hlt)
      rw [HL.out, ← hj] at hsw
      rw [← hj] at c2 f2 e2
      rw [e1, e2] at hsw
      have hY := (X.out.store 0 rfl i (.int .i64 y2)).store 0 rfl j (.int .i64 y1)
      simp only [List.set_cons_zero] at hY
      rw [hsw] at hY
      have Y := hid hY
      rw [hji]
      clear hrow hY hsw e1 e2 hj hji
      go_wp2_with fail
      go_region
      all_goals
        have Y2 := hid (Y.out.go ((Chg.refl _).drew))
        clear c1 c2 f1 f2 gl Y X
        go_wp2
        go_roundw
        case rel =>
          refine ⟨i + 1, by omega, by go_num, ?_, Y2.out⟩
          have := HJ.out
          congr 1
          omega
        case measure => simp [intOf]; omega
    · have hge : ¬ ((i : Int) < (n : Int) - 1 - i) := by omega
      go_wp2
      go_end0
      have h := X.out
      rw [revI_all xs i (by rw [HL.out]; omega)] at h
      exact ⟨rfl, h⟩
end Go.Proofs.YtdihnjhbopogoaaDoor.Rev
namespace Go.Proofs.YtdihnjhbopogoaaDoor.Jmp
open Go Go.RowKit Go.Proofs.YtdihnjhbopogoaaDoor.Hp Go.Proofs.YtdihnjhbopogoaaDoor.Steps Go.Proofs.YtdihnjhbopogoaaDoor.Route
def sliceLen : Value → Nat
  | .slice _ n _ => n
  | _ => 0
theorem _root_.Go.Proofs.YtdihnjhbopogoaaDoor.Star.allocRow {w0 w : World} {L : List Res} (X : Star w0 w L) (cs : Array Value) (E n : Nat) (hl : cs.size = n * 1) (hn : n ≤ 1000000) : Star w0 (w.alloc (.cells cs E)) (Row E 1 (.slice (some ⟨w.heap.size, 0, none⟩) n n) n cs.toList :: L) :=
  X.add ((Chg.refl _).alloc _) ⟨World.ownsRow_lit w cs n (Nat.zero_le _) (by unfold maxLen; omega) hl, rfl⟩ (fun k h => by have : w.heap.size = k := Option.some.inj h; omega)
/-- What Search answers. -/
def SearchA (G : Gr) (w w' : World) (r : Ending) (s t : Int) (e0 e8 : Value) : Prop :=
  (¬ (G.has s = true ∧ G.has t = true) ∧ r = .returned (.tuple #[.slice none 0 0, .int .i64 0, e0]) ∧ Same w w') ∨
  (∃ s' t' : Nat, s = s' ∧ t = t' ∧ (G.has s = true ∧ G.has t = true) ∧ (∀ k, ¬ Gr.To G [t'] s' k) ∧ r = .returned (.tuple #[.slice none 0 0, .int .i64 0, e8]) ∧ Same w w') ∨
  (∃ (s' t' : Nat) (pts : List Nat) (k : Int) (v : Value), s = s' ∧ t = t' ∧ Gr.JPath G t' s' pts t' k ∧ Gr.To G [t'] s' k ∧ (∀ k', Gr.To G [t'] s' k' → k ≤ k') ∧ pts.length ≤ 1000000 ∧ k ≤ 1000000 ∧ r = .returned (.tuple #[v, .int .i64 k, .nilIface]) ∧ Star w w' [Row 3 1 v pts.length (gC pts)])
section
variable {w : World} {p pg pc : Nat} {G : Gr}
set_option maxRecDepth 100000 in
theorem search_range (hG : Gnd 93 w p pg pc G) (s t : Int) (h : ¬ (G.has s = true ∧ G.has t = true)) (e : Value) (he : w.cell? ⟨1, 0, none⟩ = some e) :
    Calls Tryd.prog 19 #[.pointer (some ⟨p, 0, none⟩), .int .i64 s, .int .i64 t] w fun r w' => r = .returned (.tuple #[.slice none 0 0, .int .i64 0, e]) ∧ Same w w' := by
  have hEl := World.block_lt_of_cell? _ _ he
  have HG := hid hG
  have hcase : s < 0 ∨ (0 ≤ s ∧ t < 0) ∨ (0 ≤ s ∧ 0 ≤ t ∧ (G.fs.length : Int) ≤ s) ∨ (0 ≤ s ∧ 0 ≤ t ∧ s < (G.fs.length : Int) ∧ (G.fs.length : Int) ≤ t) := by
    by_cases h1 : s < 0
    · exact .inl h1
    · by_cases h2 : t < 0
      · exact .inr (.inl ⟨by omega, h2⟩)
      · by_cases h3 : (G.fs.length : Int) ≤ s
        · exact .inr (.inr (.inl ⟨by omega, by omega, h3⟩))
        · refine .inr (.inr (.inr ⟨by omega, by omega, by omega, ?_⟩))
          rcases Int.lt_or_le t G.fs.length with h4 | h4
          · exact absurd ⟨decide_eq_true ⟨by omega, by omega⟩, decide_eq_true ⟨by omega, h4⟩⟩ h
          · exact h4
  clear h hG
  rcases hcase with h1 | ⟨h1, h2⟩ | ⟨h1, h2, h3⟩ | ⟨h1, h2, h3, h4⟩
  · go_enter Tryd.func19, Tryd.ntmps19
    go_wp2_with fail
    go_quiet (fail)
    go_wp2
    go_ret3
    exact ⟨rfl, (Chg.refl _).drewN _⟩
  · have h1' : ¬ s < 0 := by omega
    go_enter Tryd.func19, Tryd.ntmps19
    go_wp2_with fail
    go_quiet (fail)
    go_wp2
    go_ret3
    exact ⟨rfl, (Chg.refl _).drewN _⟩
  · have h1' : ¬ s < 0 := by omega
    have h2' : ¬ t < 0 := by omega
    go_enter Tryd.func19, Tryd.ntmps19
    go_wp2_with fail
    refine (len_any HG.out).mono ?_
    rintro r w' ⟨rfl, rfl⟩
    go_wp2_with fail
    go_quiet (fail)
    go_wp2
    go_ret3
    exact ⟨rfl, (Chg.refl _).drewN _⟩
  · have h1' : ¬ s < 0 := by omega
    have h2' : ¬ t < 0 := by omega
    have h3' : ¬ (G.fs.length : Int) ≤ s := by omega
    go_enter Tryd.func19, Tryd.ntmps19
    go_wp2_with fail
    refine (len_any HG.out).mono ?_
    rintro r w' ⟨rfl, rfl⟩
    go_wp2_with fail
    refine (len_any HG.out).mono ?_
    rintro r w' ⟨rfl, rfl⟩
    go_wp2_with fail
    go_quiet (fail)
    go_wp2
    go_ret3
    exact ⟨rfl, (Chg.refl _).drewN _⟩
set_option maxRecDepth 100000 in
theorem search_block (hG : Gnd 93 w p pg pc G) (s t : Nat) (hs : s < G.fs.length) (ht : t < G.fs.length) (hf : G.free s = false ∨ G.free t = false) (e : Value) (he : w.cell? ⟨2, 0, none⟩ = some e) :
    Calls Tryd.prog 19 #[.pointer (some ⟨p, 0, none⟩), .int .i64 s, .int .i64 t] w fun r w' => r = .returned (.tuple #[.slice none 0 0, .int .i64 0, e]) ∧ Same w w' := by
  have hEl := World.block_lt_of_cell? _ _ he
  have HG := hid hG
  have h1 : ¬ (G.fs.length : Int) ≤ (s : Int) := by omega
  have h2 : ¬ (G.fs.length : Int) ≤ (t : Int) := by omega
  have HF := hid hf
  clear hG hf
  go_enter Tryd.func19, Tryd.ntmps19
  go_wp2_with fail
  refine (len_any HG.out).mono ?_
  rintro r w' ⟨rfl, rfl⟩
  go_wp2_with fail
  refine (len_any HG.out).mono ?_
  rintro r w' ⟨rfl, rfl⟩
  go_wp2_with fail
  refine (free_any HG.out s).mono ?_
  rintro r w' ⟨rfl, rfl⟩
  rw [Gr.freeI_nat]
  cases hfs : G.free s with
  | false =>
    clear hfs
    go_wp2_with fail
    go_quiet (fail)
    go_wp2
    go_ret3
    exact ⟨rfl, (Chg.refl _).drewN _⟩
  | true =>
    have hft : G.free t = false := by rcases HF.out with h | h; rw [hfs] at h; cases h; exact h
    have HFT := hid hft
    clear hfs hft
    go_wp2_with fail
    refine (free_any HG.out t).mono ?_
    rintro r w' ⟨rfl, rfl⟩
    rw [Gr.freeI_nat, HFT.out]
    go_wp2_with fail
    go_quiet (fail)
    go_wp2
    go_ret3
    exact ⟨rfl, (Chg.refl _).drewN _⟩
set_option maxRecDepth 100000 in
set_option maxHeartbeats 16000000 in
theorem search_free (hG : Gnd 93 w p pg pc G) (s t : Nat) (hfs : G.free s = true) (hft : G.free t = true) (e0 e : Value) (he : w.cell? ⟨2, 0, none⟩ = some e) :
    Calls Tryd.prog 19 #[.pointer (some ⟨p, 0, none⟩), .int .i64 s, .int .i64 t] w fun r w' => SearchA G w w' r s t e0 e := by
  obtain ⟨i0, hi0, hz0, hz1, hz2⟩ := info_parts infoInt
  have HG := hid hG
  have HE := hid he
  have hN := hG.ok.max
  have hsl := Gr.free_in hfs
  have htl := Gr.free_in hft
  have HFS := hid hfs
  have HFT := hid hft
  obtain ⟨n, hn⟩ : ∃ n, n = G.fs.length := ⟨_, rfl⟩
  have HN := hid hn
  rw [← hn] at hN hsl htl
  have h1 : ¬ (n : Int) ≤ (s : Int) := by omega
  have h2 : ¬ (n : Int) ≤ (t : Int) := by omega
  obtain ⟨Z, hZ⟩ : ∃ Z, Z = madeCells (Value.int .i64 0).cells (n * 1) := ⟨_, rfl⟩
  have hZs : Z.size = n * 1 := by rw [hZ]; exact size_madeCells _ _
  have hZl : Z.toList = (noC n 0).map (Value.int .i64) := by rw [hZ, made_zeros, noC_zero]
  have hmk : ∀ wx : World, (Instr.makeSlice 24 (.int .i64 (n : Int)) (.int .i64 (n : Int))).run Tryd.prog wx = .ok (.slice (some ⟨wx.heap.size, 0, none⟩) n n) (wx.alloc (.cells Z 3)) := fun wx => by
    have h := run_make (P := Tryd.prog) (w := wx) 24 3 i0 (.int .i64 0) Tryd.underlying24 hi0 hz0 .i64 .i64 (n : Int) (n : Int) (by omega) (Int.le_refl _) (by rw [hz2]; omega) (by omega)
    rw [hz1] at h
    rw [hZ]
    simpa using h
  have X0 := hid (Star.new w)
  have HZS := hid hZs
  have HZL := hid hZl
  clear hG hn he hfs hft hZs hZl hZ
  go_enter Tryd.func19, Tryd.ntmps19
  go_wp2_with fail
  refine (len_any HG.out).mono ?_
  rintro r w' ⟨rfl, rfl⟩
  rw [← HN.out]
  go_wp2_with fail
  refine (len_any HG.out).mono ?_
  rintro r w' ⟨rfl, rfl⟩
  rw [← HN.out]
  go_wp2_with fail
  refine (free_any HG.out s).mono ?_
  rintro r w' ⟨rfl, rfl⟩
  rw [Gr.freeI_nat, HFS.out]
  go_wp2_with fail
  refine (free_any HG.out t).mono ?_
  rintro r w' ⟨rfl, rfl⟩
  rw [Gr.freeI_nat, HFT.out]
  go_wp2_with fail
  go_cut [9] (fun sv wx => ∃ f h g g2 : Nat, sv = .pointer (some ⟨f, 0, none⟩) ∧ Star w wx (schL f p h t g n n g2 n (noC n 0) (noC n 0) [] []))
  case first =>
    go_region_with (first
      | (go_at_call 42; refine (heap_new (X0.out.go ((Chg.refl _).drew))).mono ?_; rintro r w1 ⟨h, rfl, hX1, hh⟩; have X1 := hid hX1; clear hX1 hh)
      | (go_at_call 37; refine (len_any (HG.out.same (show Same w _ by repeat (first | exact X1.out.same | refine Chg.drew ?_ | refine Chg.alloc _ ?_)))).mono ?_; rintro r w' ⟨rfl, rfl⟩; rw [← HN.out]))
    all_goals
      have X2 := hid ((X1.out.allocRow Z 3 n HZS.out (by omega)).allocRow Z 3 n HZS.out (by omega))
      rw [World.size_alloc, HZL.out] at X2
      first
        | (have X3 := hid (((((X2.out.alloc (schC p h t w1.heap.size n n (w1.heap.size + 1) n) 83).pull 1 rfl).pull 2 rfl).pull 3 rfl).pull 3 rfl)
           rw [World.size_alloc, World.size_alloc] at X3
           go_wp2_with fail
           go_meet
           exact ⟨_, h, w1.heap.size, w1.heap.size + 1, rfl, X3.out⟩)
        | (have X3 := hid (((X2.out.alloc (schC p h t (w1.heap.size + 1) n n w1.heap.size n) 83).pull 3 rfl).pull 1 rfl)
           rw [World.size_alloc, World.size_alloc] at X3
           go_wp2_with fail
           go_meet
           exact ⟨_, h, w1.heap.size + 1, w1.heap.size, rfl, X3.out⟩)
  case rest =>
    obtain ⟨f, h, g, g2, rfl, hX⟩ := hcut
    have X := hid hX
    obtain ⟨d0, d1, d2, d3, d4, dl⟩ := sch_cells hX
    clear hX hmk HZS HZL X0
    go_wp2_with fail
    go_loopw [10, 61] (fun _ iv wr => ∃ k : Nat, k ≤ n ∧ iv = .int .i64 k ∧ Star w wr (schL f p h t g n n g2 n (noC n k) (noC n k) [] [])) (fun _ iv _ => n - (intOf iv).toNat)
    case atStart => exact ⟨0, by omega, rfl, X.out⟩
    case round =>
      obtain ⟨k, hk, rfl, hX⟩ := hrel
      clear d0 d1 d2 d3 d4 dl X
      by_cases hkn : k < n
      · obtain ⟨d0, d1, d2, d3, d4, dl⟩ := sch_cells hX
        obtain ⟨e0, ef, gl, n1, n2⟩ := sch_cost hX k hkn
        obtain ⟨e1, ef2, gl2, ⟨n3, n4⟩, n5, n6⟩ := sch_from hX k hkn
        have hY := sch_set hX k (-1) (-1)
        rw [noC_set] at hY
        have Y := hid hY
        clear hX hY
        go_wp2_with fail
        go_region
        all_goals
          have Y2 := hid (Y.out.go ((Chg.refl _).drew))
          clear Y d0 d1 d2 d3 d4 dl e0 ef gl n1 n2 e1 ef2 gl2 n3 n4 n5 n6
          go_wp2
          go_roundw
          case rel => exact ⟨k + 1, by omega, by go_num, Y2.out⟩
          case measure => simp [intOf]; omega
      · obtain rfl : k = n := by omega
        have X := hid hX
        have htop : cAt (noC k k) s = -1 := noC_at k s
        have HT := hid htop
        clear hX htop
        go_wp2_with fail
        refine (sreach_yes X.out HG.out HN.out rfl htl s (-1) 0 hsl (.inl HT.out) (by omega) (by simp)).mono ?_
        rintro r w2 ⟨rfl, es2, hp2, hX2⟩
        have HR := hid (show RunS w [] G s t f p h g k k g2 k w2 (8 + 8 * k) from ⟨_, _, es2, [], 0, hX2, (Ast.begin HFS.out (by rw [noC_len]; exact HN.out) (by rw [noC_len]; exact HN.out) (noC_at k) (noC_at k)).perm hp2, by have := hp2.length_eq; simp at this; simp; omega, Nat.le_refl _, fun u => by
          rw [cAt_set _ _ _ _ (by rw [noC_len]; exact hsl), noC_at]
          split <;> simp⟩)
        clear hX2 hp2 X HT
        go_wp2_with fail
        refine (srun_any HG.out HN.out htl HR.out).mono ?_
        rintro r w3 ⟨rfl, c, fr, es, hF, hX3⟩
        obtain ⟨⟨esF, DF, mF, hA⟩, htop, hres⟩ := hF
        have X3 := hid hX3
        have HA := hid hA
        have HRES := hid hres
        have htopT := htop t
        rw [← HN.out] at htopT
        obtain ⟨d0, d1, d2, d3, d4, dl⟩ := sch_cells hX3
        obtain ⟨e0, -, gl, -, -⟩ := sch_cost hX3 t htl
        obtain ⟨ct, hct⟩ : ∃ ct, ct = cAt c t := ⟨_, rfl⟩
        have HCT := hid hct
        rw [← hct] at e0 htopT
        clear hX3 hA hres htop HR hct
        by_cases hno : ct = -1
        · have hnw := hid (show ∀ k, ¬ Gr.To G [t] s k by
            rcases HRES.out with h | h
            · have := HCT.out; have := h.1; omega
            · exact h.2)
          have hE := X3.out.same.keep HE.out
          have hEl := World.block_lt_of_cell? _ _ hE
          subst hno
          go_wp2
          go_quiet (fail)
          go_wp2
          go_ret3
          exact .inr (.inl ⟨s, t, rfl, rfl, ⟨by unfold Gr.has; exact decide_eq_true (by have := HN.out; omega), by unfold Gr.has; exact decide_eq_true (by have := HN.out; omega)⟩, hnw.out, rfl, (X3.out.go ((Chg.refl _).drewN _)).same⟩)
        · have hnb : (ct == -1) = false := by rw [beq_eq_false_iff_ne]; exact hno
          have hc0 : 0 ≤ ct := by
            rcases HA.out.low t with h | h
            · have := HCT.out; omega
            · have := HCT.out; omega
          have hway := hid (show Gr.To G [t] s ct ∧ ∀ k, Gr.To G [t] s k → ct ≤ k by
            rw [HCT.out]
            refine ⟨HA.out.real t (by rw [← HCT.out]; exact hc0), ?_⟩
            rcases HRES.out with h | h
            · exact h.2
            · have := HCT.out; have := h.1; omega)
          obtain ⟨l, hbk, hll⟩ := HA.out.back HG.out.ok ct.toNat (t := t) (by rw [← HCT.out]; omega) (by rw [← HCT.out]; exact hc0)
          rw [← HCT.out] at hll
          have HBK := hid hbk
          have hl0 : l[0]? = some t := by obtain ⟨r, hr⟩ := hbk.head; rw [hr]; rfl
          obtain ⟨m, hm⟩ : ∃ m, m = l.length := ⟨_, rfl⟩
          have HM := hid hm
          have hml : m ≤ 458753 := by omega
          have hat0 := hid (show (t : Int) = atI l 0 by unfold atI; rw [hl0])
          have X4 := hid (X3.out.nilRow 3 1)
          clear hbk hl0 hll hno hm
          go_wp2_with fail
          clear d0 d1 d2 d3 d4 dl e0 gl
          go_loopw [13, 14] (fun pv av wr => ∃ j : Nat, j ≤ m ∧ av = .int .i64 (atI l j) ∧ sliceLen pv = j ∧ Star w wr (Row 3 1 pv j (gC (l.take j)) :: schL f p h t g k k g2 k c fr es [])) (fun pv _ _ => m - sliceLen pv)
          case atStart => exact ⟨0, by omega, by rw [← hat0.out], rfl, X4.out⟩
          case round =>
            obtain ⟨j, hj, rfl, hsl2, hX⟩ := hrel
            obtain ⟨av, cv, rfl, -⟩ := own_slice (hX.row 0 rfl).1
            have X := hid hX
            clear hX X4 X3
            by_cases hjm : j < m
            · obtain ⟨u, hu⟩ : ∃ u, l[j]? = some u := ⟨_, List.getElem?_eq_getElem (by have := HM.out; omega)⟩
              obtain ⟨hfu, hfr⟩ := HBK.out.at HG.out.ok HFS.out j u hu
              have hul : u < k := by have := Gr.free_in hfu; rwa [← HN.out] at this
              have hat : atI l j = u := by unfold atI; rw [hu]
              have hub : ((u : Int) != -1) = true := by rw [bne_iff_ne]; omega
              have htk : gC (l.take (j + 1)) = gC (l.take j) ++ [.int .i64 u] := by
                obtain ⟨a1, a2⟩ := List.getElem?_eq_some_iff.1 hu
                rw [List.take_succ_eq_append_getElem a1, a2]; simp [gC]
              have HTK := hid htk
              have HFR := hid hfr
              rw [hat]
              have XD := hid (X.out.alloc #[.int .i64 u] 3)
              clear hu hfr hat htk hfu X
              go_wp2_with (at_builtin; refine wpList_app rfl (.tmp 107) (.tmp 109) 24 rfl 3 i0 (.int .i64 0) 1 8 Tryd.underlying24 hi0 hz0 hz1 hz2 rfl (by decide) _ j (gC (l.take j)) rfl (XD.out.row 1 rfl).1 (some ⟨wr.heap.size, 0, none⟩) 1 1 [.int .i64 u] rfl (reads_blk (XD.out.blk 0 rfl).1 1 1 1 rfl) (by simp [Value.oneCell']) (by omega) (by omega) ?_; intro a5 c5 w5 ho5 hg5 hn5; have X5 := hid (XD.out.grown 1 rfl ho5 hg5 hn5).drop; clear ho5 hg5 hn5; obtain ⟨d0, d1, d2, d3, d4, dl⟩ := sch_cells (X5.out.drop); obtain ⟨q1, -, gl2, -, -⟩ := sch_from (X5.out.drop) u hul; rw [HFR.out] at q1)
              go_roundw
              case rel => exact ⟨j + 1, by omega, rfl, rfl, by rw [HTK.out]; exact X5.out⟩
              case measure => simp [sliceLen]; omega
            · obtain rfl : j = m := by omega
              have hat : atI l j = -1 := by unfold atI; rw [List.getElem?_eq_none (by have := HM.out; omega)]
              rw [hat]
              clear hat
              have X5 := hid (show Star w wr (Row 3 1 (.slice av j cv) j (gC l) :: schL f p h t g k k g2 k c fr es []) by
                have h := X.out
                rwa [List.take_of_length_le (by have := HM.out; omega)] at h)
              clear X
              go_wp2_with fail
              refine (Rev.reverse_any X5.out (fun u hu => by obtain ⟨y, _, rfl⟩ := List.mem_map.1 hu; exact ⟨y, rfl⟩) (by omega)).mono ?_
              rintro r w6 ⟨rfl, hX6⟩
              have X6 := hid hX6
              obtain ⟨d0, d1, d2, d3, d4, dl⟩ := sch_cells (hX6.drop)
              obtain ⟨e0, -, gl, -, -⟩ := sch_cost (hX6.drop) t htl
              rw [← HCT.out] at e0
              clear hX6 X5
              go_wp2
              go_quiet (fail)
              go_wp2
              go_ret3
              refine .inr (.inr ⟨s, t, l.reverse, ct, _, rfl, rfl, by rw [HCT.out]; exact HBK.out.path, hway.out.1, hway.out.2, by rw [List.length_reverse]; have := HM.out; omega, by omega, rfl, ?_⟩)
              have h := (((((X6.out.go ((Chg.refl _).drewN nq)).pull 1 rfl).drop.pull 1 rfl).drop.pull 1 rfl).drop.pull 1 rfl).drop
              rw [show gC l.reverse = (gC l).reverse by simp [gC, List.map_reverse], List.length_reverse, ← HM.out]
              exact h
end
end Go.Proofs.YtdihnjhbopogoaaDoor.Jmp
