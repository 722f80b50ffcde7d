/-
  FieldMore: the texts MadeOf, Num, Alive19, NumIn, MadeNew, joined.
-/
import Derived.Test.YtilobedihjkpjaaDoorFieldMoreQ10
import Derived.Test.YtilobedihjkpjaaDoorProg
import Derived.Test.YtilobedihjkpjaaDoorFieldMoreQ1
import Derived.Test.YtilobedihjkpjaaDoorFieldMoreQ9
import Derived.Test.YtilobedihjkpjaaDoorFieldMoreQ2

/-
  steps.Of: which grounds it makes.
-/
namespace Go.Proofs.YtilobedihjkpjaaDoor
open Go Go.RowKit Go.Proofs.YtilobedihjkpjaaDoor.Err

/-- A ground by what is told of each tile. -/
def Gr.ofF (W H : Nat) (f : Nat → Bool) : Gr := ⟨W, H, (List.range (W * H)).map f⟩
theorem Gr.ofF_len (W H : Nat) (f : Nat → Bool) : (Gr.ofF W H f).fs.length = W * H := by simp [Gr.ofF]
theorem Gr.ofF_set (W H : Nat) (f : Nat → Bool) (k : Nat) (b : Bool) : (Gr.ofF W H f).set k b = Gr.ofF W H (fun t => if t = k then b else f t) := by
  unfold Gr.ofF Gr.set
  congr 1
  apply List.ext_getElem
  · simp
  · intro i h1 h2
    simp only [List.getElem_set, List.getElem_map, List.getElem_range]
    by_cases e : k = i
    · rw [if_pos e, if_pos e.symm]
    · rw [if_neg e, if_neg (fun h => e h.symm)]
theorem Gr.ofF_congr {W H : Nat} {f f' : Nat → Bool} (h : ∀ t, t < W * H → f t = f' t) : Gr.ofF W H f = Gr.ofF W H f' := by
  unfold Gr.ofF
  congr 1
  apply List.map_congr_left
  intro t ht
  exact h t (List.mem_range.1 ht)
theorem Gr.ofF_free {W H : Nat} {f : Nat → Bool} {t : Nat} (h : t < W * H) : (Gr.ofF W H f).free t = f t := by
  unfold Gr.ofF Gr.free
  simp [List.getD_eq_getElem?_getD, h]
theorem made_bv (W H : Nat) : (madeCells (Value.bool false).cells (W * H * 1)).toList = bv (Gr.ofF W H (fun _ => false)).fs := by
  apply List.ext_getElem
  · simp [madeCells, bv, Gr.ofF]
  · intro j h1 h2; simp [madeCells, Value.cells, Nat.mod_one, bv, Gr.ofF]
/-- The ground of a grid on which tiles are blocked. -/
def Gr.block (W H : Nat) (bl : List Int) : Gr := Gr.ofF W H (fun t => decide ((t : Int) ∉ bl))

namespace Steps
section
variable {w : World}

set_option maxRecDepth 100000 in
theorem of_form (g : Grd) (hg : g.right = false) (a : Option Addr) (n c : Nat) (ad : Nat → Addr) (hE : Errs2 w ad) : Calls Tryd.prog 42 #[g.v, .slice a n c] w fun r w' => r = .returned (.tuple #[.pointer none, errV ad 7]) ∧ Same w w' := by
  have HE := hid hE
  have HR := hid (Grd.right_any g)
  rw [hg] at HR
  obtain ⟨W, H, S, X, Y⟩ := g
  unfold Grd.v at *
  simp only at HR ⊢
  have Z := hid ((Star.new w).alloc #[.int .i64 W, .int .i64 H, .int .i64 S, .int .i64 X, .int .i64 Y] 23)
  clear hE hg
  go_enter Tryd.func42, Tryd.ntmps42
  go_wp2_with fail
  refine (HR.out _ _ _ (HE.out.same Z.out.same).c0).mono ?_
  rintro r w2 ⟨rfl, hs⟩
  have Z2 := hid (Z.out.go hs)
  have e6 := (HE.out.same Z2.out.same).c6
  clear hs Z
  go_wp2
  go_quiet (fail)
  go_wp2
  go_ret2
  exact ⟨rfl, Z2.out.same.drewN _⟩

theorem right_nat {g : Grd} (h : g.right = true) : ∃ W H : Nat, g.W = W ∧ g.H = H ∧ 1 ≤ W ∧ W ≤ 32 ∧ 1 ≤ H ∧ H ≤ 32 := by
  have := of_decide_eq_true h
  exact ⟨g.W.toNat, g.H.toNat, by omega, by omega, by omega, by omega, by omega, by omega⟩

set_option maxRecDepth 100000 in
set_option maxHeartbeats 8000000 in
/-- .. at right grids: all tiles are taken as free, then blocked one by one. -/
theorem of_any (g : Grd) (hg : g.right = true) (bl : List Int) (v : Value) (hr : Ints w v bl) (hb : bl.length ≤ 1000000) (ad : Nat → Addr) (hE : Errs2 w ad) : Calls Tryd.prog 42 #[g.v, v] w fun r w' =>
    ((∀ x ∈ bl, 0 ≤ x ∧ x < g.W * g.H) ∧ ∃ p, r = .returned (.tuple #[.pointer (some ⟨p, 0, none⟩), .nilIface]) ∧ Star w w' [gndR 92 p (Gr.block g.W.toNat g.H.toNat bl)]) ∨
    ((∃ x ∈ bl, ¬ (0 ≤ x ∧ x < g.W * g.H)) ∧ r = .returned (.tuple #[.pointer none, errV ad 1]) ∧ Same w w') := by
  obtain ⟨b0, hb0, hz0, hz1, hz2⟩ := info_parts infoB
  obtain ⟨a, cb, rfl⟩ := hr.slice
  have HE := hid hE
  have HR := hid (Grd.right_any g)
  have HBL := hid hr
  obtain ⟨W, H, eW, eH, w1, w2, h1, h2⟩ := right_nat hg
  rw [hg] at HR
  obtain ⟨gW, gH, S, X, Y⟩ := g
  dsimp only at eW eH
  subst eW eH
  unfold Grd.v at *
  simp only [Int.toNat_natCast] at HR ⊢
  have hn1 : W * H ≤ 32 * 32 := Nat.mul_le_mul w2 h2
  have hn2 : 1 * 1 ≤ W * H := Nat.mul_le_mul w1 h1
  have hmul : (W : Int) * (H : Int) = ((W * H : Nat) : Int) := by simp
  rw [hmul]
  have ok : ∀ f, (Gr.ofF W H f).Ok := fun f => ⟨w1, w2, h1, h2, Gr.ofF_len W H f⟩
  have OK := hid ok
  have MB := hid (made_bv W H)
  have OL := hid (Gr.ofF_len W H)
  have OS := hid (Gr.ofF_set W H)
  obtain ⟨n, hn⟩ : ∃ n, n = W * H := ⟨_, rfl⟩
  have HN := hid hn
  rw [← hn] at hmul hn1 hn2 MB OL ⊢
  have Z := hid ((Star.new w).alloc #[.int .i64 W, .int .i64 H, .int .i64 S, .int .i64 X, .int .i64 Y] 23)
  clear hE hg hr ok hn
  go_enter Tryd.func42, Tryd.ntmps42
  go_wp2_with fail
  generalize w.alloc _ = w3 at *
  generalize w.heap.size = q at *
  refine (HR.out _ _ _ (HE.out.same Z.out.same).c0).mono ?_
  rintro r w4 ⟨rfl, hs⟩
  have Z2 := hid (Z.out.go hs)
  have hbk := (Z2.out.blk 0 rfl).1
  have hl := lt_of hbk
  have c0 := cell_of hbk 0
  have c1 := cell_of hbk 1
  simp only [List.getElem?_toArray, List.getElem?_cons_zero, List.getElem?_cons_succ] at c0 c1
  clear hs hbk Z
  have hby : b0.bytes * n ≤ 281474976710656 := by rw [hz2]; omega
  have hwm : IntKind.i64.wrap (n : Int) = (n : Int) := IntWalk.i64_in _ (by omega)
  obtain ⟨wm, hrun, hom, hgm⟩ := run_make_full (P := Tryd.prog) w4.drew 0 74 4 b0 (.bool false) 1 Tryd.underlying74 hb0 hz0 hz1 .i64 .i64 n hby (by unfold maxLen; omega) (Nat.zero_le _)
  have SM := hid (show Same w4 wm from Chg.grown ((Chg.refl _).drew) hgm (fun k e _ => by cases e))
  have OM := hid hom
  have k0 := SM.out.keep c0
  have k1 := SM.out.keep c1
  have kl := Nat.lt_of_lt_of_le hl SM.out.size
  have es : w4.drew.heap.size = w4.heap.size := rfl
  rw [es] at hrun hom
  clear hgm
  go_wp2
  go_region
  all_goals
    have hgnd : Gnd 92 (wm.alloc (.cells #[.int .i64 W, .int .i64 H, .slice (some ⟨w4.heap.size, 0, none⟩) n n] 92)) wm.heap.size w4.heap.size n (Gr.ofF W H (fun _ => false)) := ⟨by rw [OL.out]; exact alloc_new _ _, by rw [OL.out, ← MB.out]; exact own_chg (S := fun _ => False) hom ((Chg.refl _).alloc _) (fun _ _ f => f), by have h : w4.heap.size < wm.heap.size := (hom.lt _ rfl).2; omega, OK.out _⟩
    have X0 := hid (gnd_new Z2.out.drop (SM.out.alloc _) hgnd SM.out.size (Nat.le_refl _))
    clear hgnd hom OM k0 k1 kl es hrun SM Z2 hby hl c0 c1 HR MB
    generalize wm.alloc _ = w5 at *
    generalize wm.heap.size = p at *
    generalize w4.heap.size = g4 at *
    have hc2 : ∃ g c, w5.cell? ⟨p, 2, none⟩ = some (.slice (some ⟨g, 0, none⟩) n c) := by
      obtain ⟨g, c, h, -⟩ := gnd_at X0.out 0 rfl
      have := h.c2
      rw [OL.out] at this
      exact ⟨g, c, this⟩
    obtain ⟨g5, c5, hc2⟩ := hc2
    go_wp2_with fail
    go_loopw [7, 32] (fun _ iv wr => ∃ k : Nat, k ≤ n ∧ iv = .int .i64 k ∧ Star w wr [gndR 92 p (Gr.ofF W H (fun t => decide (t < k)))]) (fun _ iv _ => n - (intOf iv).toNat)
    case atStart => exact ⟨0, by omega, rfl, by rw [Gr.ofF_congr (f' := fun _ => false) (fun t _ => by simp)]; exact X0.out⟩
    case round =>
      obtain ⟨k, hk, rfl, hX⟩ := hrel
      clear hc2 X0
      by_cases hkn : k < n
      · obtain ⟨g, c, h, -, -, hset⟩ := gnd_at hX 0 rfl
        have c2 := h.c2
        have hf := h.frozen k
        have hge := h.get k (by rw [OL.out]; exact hkn)
        rw [OL.out] at c2
        have XS := hid (hset k true)
        rw [OS.out] at XS
        clear h hset hX
        go_wp2
        go_roundw
        case rel =>
          have e : Gr.ofF W H (fun t => if t = k then true else decide (t < k)) = Gr.ofF W H (fun t => decide (t < k + 1)) := Gr.ofF_congr (fun t _ => by
            by_cases e : t = k
            · rw [if_pos e, decide_eq_true (by omega)]
            · rw [if_neg e]; exact decide_eq_decide.2 (by omega))
          exact ⟨k + 1, by omega, by go_num, by rw [← e]; exact XS.out⟩
        case measure => simp [intOf]; omega
      · have hX1 : Star w wr [gndR 92 p (Gr.ofF W H (fun t => decide ((t : Int) ∉ bl.take 0)))] := by
          rw [Gr.ofF_congr (f' := fun t => decide (t < k)) (fun t ht => by rw [decide_eq_true (by simp), decide_eq_true (by have := HN.out; omega)])]
          exact hX
        have X1 := hid hX1
        obtain ⟨m, hm⟩ : ∃ m, m = bl.length := ⟨_, rfl⟩
        have HM := hid hm
        have HB2 : Hid (∀ j (hj : j < bl.length), ∃ b off cap, Value.slice a m cb = .slice (some ⟨b, off, none⟩) m cap ∧ w.cell? ⟨b, off + j, none⟩ = some (.int .i64 bl[j])) := hid (fun j hj => by
          obtain ⟨b, off, cap, e, _, hc⟩ := HBL.out.cells (by omega)
          rw [← hm] at e
          exact ⟨b, off, cap, e, hc j hj⟩)
        rw [← hm] at hb ⊢
        clear hX hX1 hm HBL
        go_wp2_with fail
        go_loopw [9, 10, 44] (fun _ _ iv wr2 => ∃ j : Nat, j ≤ m ∧ iv = .int .i64 j ∧ (∀ x ∈ bl.take j, 0 ≤ x ∧ x < (n : Int)) ∧ Star w wr2 [gndR 92 p (Gr.ofF W H (fun t => decide ((t : Int) ∉ bl.take j)))]) (fun _ _ iv _ => m - (intOf iv).toNat)
        case atStart => exact ⟨0, by omega, rfl, by simp, X1.out⟩
        case round =>
          obtain ⟨j, hj, rfl, hin, hX⟩ := hrel
          have X2 := hid hX
          have HIN := hid hin
          clear hX hin X1
          by_cases hjm : j < m
          · have hjx : j < bl.length := by have := HM.out; omega
            obtain ⟨b, off, cap, e1, hc⟩ := HB2.out j hjx
            cases e1
            have hcj := X2.out.same.keep hc
            obtain ⟨x, hxe⟩ : ∃ x, x = bl[j] := ⟨_, rfl⟩
            have hts : bl.take (j + 1) = bl.take j ++ [x] := by rw [List.take_succ_eq_append_getElem hjx, hxe]
            have hmem : x ∈ bl := by rw [hxe]; exact List.getElem_mem hjx
            rw [← hxe] at hcj
            have HTS := hid hts
            have HME := hid hmem
            clear hts hmem hxe hc
            by_cases hx : 0 ≤ x ∧ x < (n : Int)
            · obtain ⟨t, rfl⟩ := Int.eq_ofNat_of_zero_le hx.1
              go_wp2_with fail
              refine (set_in X2.out t false (by rw [OL.out]; omega)).mono ?_
              rintro r w6 ⟨rfl, hX6⟩
              rw [OS.out] at hX6
              have X6 := hid hX6
              clear hX6 X2
              go_wp2
              go_roundw
              case rel =>
                have e : Gr.ofF W H (fun u => if u = t then false else decide ((u : Int) ∉ bl.take j)) = Gr.ofF W H (fun u => decide ((u : Int) ∉ bl.take (j + 1))) := Gr.ofF_congr (fun u _ => by
                  rw [HTS.out]
                  by_cases e : u = t
                  · rw [if_pos e, decide_eq_false (by rw [e]; simp)]
                  · rw [if_neg e]; exact decide_eq_decide.2 (by simp; omega))
                have hin2 : ∀ x ∈ bl.take (j + 1), 0 ≤ x ∧ x < (n : Int) := by
                  intro x hx'
                  rw [HTS.out, List.mem_append] at hx'
                  rcases hx' with h | h
                  · exact HIN.out x h
                  · simp at h; rw [h]; exact hx
                have hrel : ∃ j' : Nat, j' ≤ m ∧ Value.int .i64 ((j : Int) + 1) = .int .i64 j' ∧ (∀ x ∈ bl.take j', 0 ≤ x ∧ x < (n : Int)) ∧ Star w _ [gndR 92 p (Gr.ofF W H (fun t => decide ((t : Int) ∉ bl.take j')))] := ⟨j + 1, by omega, by go_num, hin2, by rw [← e]; exact X6.out⟩
                first | exact hrel | ((repeat apply Exists.intro); exact ⟨hrel, rfl⟩)
              case measure => simp [intOf]; omega
            · obtain ⟨g, c, h, -⟩ := gnd_at X2.out 0 rfl
              go_wp2_with fail
              refine (set_out h x false (by unfold Gr.has; rw [OL.out]; exact decide_eq_false hx) _ (HE.out.same X2.out.same).c0).mono ?_
              rintro r w6 ⟨rfl, rfl⟩
              clear h
              go_wp2
              go_ret2
              exact .inr ⟨⟨x, HME.out, hx⟩, rfl, X2.out.same⟩
          · go_wp2
            go_ret2
            have e : bl.take j = bl := List.take_of_length_le (by have := HM.out; omega)
            have h1 := HIN.out
            have h2 := X2.out
            rw [e] at h1 h2
            exact .inl ⟨h1, p, rfl, h2⟩
end
end Steps
end Go.Proofs.YtilobedihjkpjaaDoor

/-
  The small functions of package paddocknum on lists of whole numbers, each by its contract.
-/
namespace Go.Proofs.YtilobedihjkpjaaDoor.Num
open Go Go.RowKit

set_option maxRecDepth 100000 in
theorem sameInts (va vb : Value) (xs ys : List Int) (w : World) (ha : Ints w va xs) (hb : Ints w vb ys) (hx : xs.length ≤ 9223372036854775807) (hy : ys.length ≤ 9223372036854775807) :
    Calls Tryd.prog 26 #[va, vb] w fun r w' => r = .returned (.bool (decide (xs = ys))) ∧ Same w w' := by
  by_cases hl : xs.length = ys.length
  · by_cases h0 : xs.length = 0
    · have e1 : xs = [] := List.eq_nil_of_length_eq_zero h0
      have e2 : ys = [] := List.eq_nil_of_length_eq_zero (by omega)
      subst e1 e2
      obtain ⟨a, c, rfl⟩ := ha.slice
      obtain ⟨b, d, rfl⟩ := hb.slice
      clear ha hb hl h0
      go_enter Tryd.func26, Tryd.ntmps26
      go_wp2
      refine wp_loop_rounds 1 ?_
      rw [rounds_succ]
      go_wp2
      go_ret
      exact ⟨rfl, Chg.refl _⟩
    · obtain ⟨b1, o1, c1, rfl, hb1, hc1⟩ := ha.cells (by omega)
      obtain ⟨b2, o2, c2, rfl, hb2, hc2⟩ := hb.cells (by omega)
      clear ha hb
      obtain ⟨n, hn⟩ : ∃ n, n = xs.length := ⟨_, rfl⟩
      rw [← hn, ← hl, ← hn]
      have HN := hid hn
      have HL := hid hl
      have HC1 := hid hc1
      have HC2 := hid hc2
      rw [← hn] at hx h0
      clear hn hl hc1 hc2 hy
      go_enter Tryd.func26, Tryd.ntmps26
      go_wp2
      go_loopw [13] (fun i wr => ∃ k : Nat, k ≤ n ∧ i = .int .i64 k ∧ Same w wr ∧ xs.take k = ys.take k) (fun i _ => n - (intOf i).toNat)
      case atStart => exact ⟨0, Nat.zero_le _, rfl, Chg.refl _, rfl⟩
      case round =>
        obtain ⟨k, hk, rfl, hs, ht⟩ := hrel
        have HS := hid hs
        have HT := hid ht
        clear hs ht
        by_cases hlt : k < n
        · have hk1 : k < xs.length := by have := HN.out; omega
          have hk2 : k < ys.length := by have := HN.out; have := HL.out; omega
          have g1 := (HS.out.cell (p := ⟨b1, o1 + k, none⟩) hb1 (fun f => f)).trans (HC1.out k hk1)
          have g2 := (HS.out.cell (p := ⟨b2, o2 + k, none⟩) hb2 (fun f => f)).trans (HC2.out k hk2)
          have hts : xs[k] = ys[k] → xs.take (k + 1) = ys.take (k + 1) := by
            intro e; rw [List.take_succ_eq_append_getElem hk1, List.take_succ_eq_append_getElem hk2, HT.out, e]
          have hne : xs[k] ≠ ys[k] → xs ≠ ys := by rintro e rfl; exact e rfl
          have HTS := hid hts
          have HNE := hid hne
          clear hts hne
          generalize xs[k] = x at *
          generalize ys[k] = y at *
          by_cases hxy : x = y
          · subst hxy
            go_wp2
            go_quiet (fail)
            go_wp2
            go_roundw
            case rel => exact ⟨k + 1, by omega, by go_num, HS.out.drewN _, HTS.out (by first | rfl | trivial)⟩
            case measure => simp [intOf]; omega
          · have hxy' : (x != y) = true := bne_iff_ne.2 hxy
            go_wp2
            go_quiet (fail)
            go_wp2
            go_ret
            exact ⟨ret_bool (decide_eq_false (HNE.out hxy)).symm, HS.out.drewN _⟩
        · go_wp2
          go_ret
          have e : xs = ys := by
            have := HT.out
            rw [List.take_of_length_le (by have := HN.out; omega), List.take_of_length_le (by have := HN.out; have := HL.out; omega)] at this
            exact this
          exact ⟨ret_bool (decide_eq_true e).symm, HS.out⟩
  · obtain ⟨a, c, rfl⟩ := ha.slice
    obtain ⟨b, d, rfl⟩ := hb.slice
    have hne : xs ≠ ys := fun e => hl (by rw [e])
    have hl' : ((xs.length : Int) != (ys.length : Int)) = true := by rw [bne_iff_ne]; omega
    have H := hid hne
    clear ha hb hne hl
    go_enter Tryd.func26, Tryd.ntmps26
    go_wp2
    go_ret
    exact ⟨ret_bool (decide_eq_false H.out).symm, Chg.refl _⟩
end Go.Proofs.YtilobedihjkpjaaDoor.Num

/-
  alive: the chapter's example.
-/
namespace Go.Proofs.YtilobedihjkpjaaDoor
def g13 : Gr := ⟨3, 1, [true, true, true]⟩
theorem g13_of : Gr.block 3 1 [] = g13 := by unfold g13 Gr.block Gr.ofF; rfl
theorem g13_ok : g13.Ok := ⟨by decide, by decide, by decide, by decide, by decide⟩
set_option maxRecDepth 100000 in
theorem g13_least : Least g13 [0] [0, 10, 20] := by
  have h1 : ([0, 10, 20] : List Int).length = g13.fs.length := by decide +kernel
  have h2 : ∀ t, t < ([0, 10, 20] : List Int).length → cAt [0, 10, 20] t = -1 ∨ 0 ≤ cAt [0, 10, 20] t := by decide +kernel
  have h3 : ∀ t ∈ [0], g13.free t = true → cAt [0, 10, 20] t = 0 := by decide +kernel
  have h4 : ∀ t, t < ([0, 10, 20] : List Int).length → ∀ s ∈ g13.around t, 0 ≤ cAt [0, 10, 20] s.to → 0 ≤ cAt [0, 10, 20] t ∧ cAt [0, 10, 20] t ≤ cAt [0, 10, 20] s.to + s.c := by decide +kernel
  have h5 : ∀ t, t < ([0, 10, 20] : List Int).length → 0 ≤ cAt [0, 10, 20] t → (t ∈ [0] ∧ g13.free t = true ∧ cAt [0, 10, 20] t = 0) ∨ ∃ s ∈ g13.around t, 0 ≤ cAt [0, 10, 20] s.to ∧ cAt [0, 10, 20] t = cAt [0, 10, 20] s.to + s.c := by decide +kernel
  exact Least.check h1 h2 h3 h4 h5
end Go.Proofs.YtilobedihjkpjaaDoor
namespace Go.Proofs.YtilobedihjkpjaaDoor.Fld
open Go Go.RowKit Go.Proofs.YtilobedihjkpjaaDoor.Err Go.Proofs.YtilobedihjkpjaaDoor.Steps Go.Proofs.YtilobedihjkpjaaDoor.Ord Go.Proofs.YtilobedihjkpjaaDoor.Route
theorem OrdOf.one {t : Int} {l : List Int} (h : OrdOf [t] l) : l = [t] := by
  obtain ⟨hm, hr, hp, hl⟩ := h
  match l, hp, hl with
  | [a], _, _ =>
    have := (hm a).1 List.mem_cons_self
    simp only [List.mem_singleton] at this
    rw [this]
theorem readsNil (w : World) : Ints w (.slice none 0 0) [] := ⟨none, 0, rfl, rfl, fun _ => ⟨rfl, rfl⟩, fun a h => by cases h⟩
theorem fokOf {G : Gr} {xs gl : List Int} (ho : OrdOf xs gl) (hG : G.Ok) (h8 : xs.length ≤ 8) (hin : ∀ x ∈ xs, 0 ≤ x ∧ x < G.fs.length) {c : List Int} (hc : Least G (goalsOf gl) c) : FOk G gl c :=
  ⟨hG, hc, ho.pos, by have := ho.le; omega, fun x hx => hin x ((ho.mem x).1 hx)⟩
section
variable {w : World}
set_option maxRecDepth 100000 in
set_option maxHeartbeats 8000000 in
theorem alive_any (ad : Nat → Addr) (hE : Errs2 w ad) : Calls Tryd.prog 9 #[] w fun r w' => r = .returned (.bool true) ∧ Same w w' := by
  have HE := hid hE
  clear hE
  go_enter Tryd.func9, Tryd.ntmps9
  go_wp2_with fail
  refine (of_any ⟨3, 1, 1, 0, 0⟩ (by decide) [] _ (readsNil w) (by simp) ad HE.out).mono ?_
  rintro r w2 hcase
  rcases hcase with ⟨-, p, rfl, hX⟩ | ⟨⟨x, hx, hbad⟩, -⟩
  · have X2 := hid ((show Star w w2 [gndR 92 p g13] from g13_of ▸ hX).alloc #[.int .i64 0] 3)
    clear hX
    obtain ⟨g, c, h, -⟩ := gnd_at X2.out 1 rfl
    have H := hid h
    clear h
    go_wp2_with fail
    refine (new_ok H.out [0] _ (reads_blk (X2.out.blk 0 rfl).1 1 1 1 rfl) (by decide) (by decide) (by decide)).mono ?_
    rintro r w3 ⟨f, gl, ho, rfl, hX3⟩
    obtain rfl := OrdOf.one ho
    have hF : FOk g13 [0] [0, 10, 20] := fokOf ho g13_ok (by decide) (by decide) g13_least
    have X3 := hid (hX3 [0, 10, 20])
    have HS := hid X2.out.same
    clear hX3 X2 H ho
    go_wp2_with fail
    refine (flat_any X3.out hF).mono ?_
    rintro r w4 ⟨v, rfl, hX4⟩
    have e : flatI (g13.cells [0, 10, 20] g13.fs.length) = [0, -1, 10, 4, 20, 4] := by decide +kernel
    rw [e] at hX4
    have X5 := hid (hX4.alloc #[.int .i64 0, .int .i64 (-1), .int .i64 10, .int .i64 4, .int .i64 20, .int .i64 4] 3)
    clear hX4 X3 e
    go_wp2_with fail
    refine (Num.sameInts _ _ [0, -1, 10, 4, 20, 4] [0, -1, 10, 4, 20, 4] _ (Reads.of_own (X5.out.row 1 rfl).1) (reads_blk (X5.out.blk 0 rfl).1 6 6 1 rfl) (by simp) (by simp)).mono ?_
    rintro r w7 ⟨rfl, hs7⟩
    have HS2 := hid (Chg.trans (S := fun _ => False) HS.out (X5.out.go hs7).same (fun _ _ f => f))
    clear hs7 X5
    go_wp2
    go_ret
    exact ⟨rfl, HS2.out⟩
  · simp at hx
set_option maxRecDepth 100000 in
theorem in_any (v : Value) (xs : List Int) (n : Int) (hr : Ints w v xs) (hb : xs.length ≤ 9223372036854775807) : Calls Tryd.prog 13 #[v, .int .i64 n] w fun r w' => r = .returned (.bool (decide (n ∈ xs))) ∧ w = w' := by
  obtain ⟨av, cv, rfl⟩ := hr.slice
  obtain ⟨l, hl⟩ : ∃ l, l = xs.length := ⟨_, rfl⟩
  have HN := hid hl
  rw [← hl] at hb ⊢
  have HB : Hid (∀ (j : Nat) (t : Int), xs[j]? = some t → ∃ b off cap, Value.slice av l cv = .slice (some ⟨b, off, none⟩) l cap ∧ w.cell? ⟨b, off + j, none⟩ = some (.int .i64 t)) := hid (fun j t ht => by
    obtain ⟨hj, e2⟩ := (List.getElem?_eq_some_iff.1 ht)
    obtain ⟨b, off, cap, e, _, hc⟩ := hr.cells (by omega)
    rw [← hl] at e
    exact ⟨b, off, cap, e, by rw [← e2]; exact hc j hj⟩)
  clear hr hl
  go_enter Tryd.func13, Tryd.ntmps13
  go_wp2_with fail
  go_loop [9] (fun iv => ∃ j : Nat, j ≤ l ∧ iv = .int .i64 j ∧ ∀ x ∈ xs.take j, x ≠ n) (fun iv => l - (intOf iv).toNat)
  case atStart => exact ⟨0, by omega, rfl, by simp⟩
  case round =>
    obtain ⟨j, hj, rfl, hall⟩ := hrel
    have HA := hid hall
    clear hall
    by_cases hjl : j < l
    · obtain ⟨t, ht⟩ : ∃ t, xs[j]? = some t := ⟨_, List.getElem?_eq_getElem (by have := HN.out; omega)⟩
      obtain ⟨b, off, cap, e1, hc⟩ := HB.out j t ht
      cases e1
      have hbl := World.block_lt_of_cell? _ _ hc
      have HT := hid ht
      clear ht
      by_cases e : t = n
      · subst e
        go_wp2
        go_ret
        refine ⟨?_, rfl⟩
        rw [decide_eq_true (List.mem_of_getElem? HT.out)]
        rfl
      · have e2 : (t == n) = false := by simpa using e
        have HE := hid e
        clear e
        go_wp2
        go_round
        case rel =>
          refine ⟨j + 1, by omega, by go_num, fun x hx => ?_⟩
          obtain ⟨h1, h2⟩ := List.getElem?_eq_some_iff.1 HT.out
          rw [List.take_succ_eq_append_getElem h1, h2, List.mem_append] at hx
          rcases hx with hx | hx
          · exact HA.out x hx
          · simp only [List.mem_singleton] at hx; rw [hx]; exact HE.out
        case measure => simp [intOf]; omega
    · go_wp2
      go_ret
      refine ⟨?_, rfl⟩
      have h : n ∉ xs := fun h => by
        have := HA.out n (by rw [List.take_of_length_le (by have := HN.out; omega)]; exact h)
        exact this rfl
      rw [decide_eq_false h]
      rfl
end
end Go.Proofs.YtilobedihjkpjaaDoor.Fld

/-
  paddocknum.In, by its contract.
-/
namespace Go.Proofs.YtilobedihjkpjaaDoor.Num
open Go Go.RowKit

set_option maxRecDepth 100000 in
theorem in_any (v : Value) (xs : List Int) (x : Int) (w : World) (hr : Ints w v xs) (hx : xs.length ≤ 9223372036854775807) :
    Calls Tryd.prog 13 #[v, .int .i64 x] w fun r w' => r = .returned (.bool (decide (x ∈ xs))) ∧ w = w' := by
  obtain ⟨a, cp, rfl⟩ := hr.slice
  have HR := hid hr
  obtain ⟨n, hn⟩ : ∃ n, n = xs.length := ⟨_, rfl⟩
  have HB2 : Hid (∀ j (hj : j < xs.length), ∃ b off cap, Value.slice a n cp = .slice (some ⟨b, off, none⟩) n cap ∧ w.cell? ⟨b, off + j, none⟩ = some (.int .i64 xs[j])) := hid (fun j hj => by
    obtain ⟨b, off, cap, e, _, hc⟩ := HR.out.cells (by omega)
    rw [← hn] at e
    exact ⟨b, off, cap, e, hc j hj⟩)
  have HN := hid hn
  rw [← hn] at hx ⊢
  clear hr HR hn
  go_enter Tryd.func13, Tryd.ntmps13
  go_wp2
  go_loopw [6, 9] (fun _ iv wr => ∃ k : Nat, k ≤ n ∧ iv = .int .i64 k ∧ Hid (w = wr) ∧ x ∉ xs.take k) (fun _ iv _ => n - (intOf iv).toNat)
  case atStart => exact ⟨0, by omega, rfl, hid rfl, by simp⟩
  case round =>
    obtain ⟨k, hk, rfl, hw, hA⟩ := hrel
    have HA := hid hA
    clear hA
    have hw' := hw.out
    by_cases hkn : k < n
    · have hkx : k < xs.length := by have := HN.out; omega
      obtain ⟨b, off, cap, e1, hc⟩ := HB2.out k hkx
      cases e1
      obtain ⟨y, hye⟩ : ∃ y, y = xs[k] := ⟨_, rfl⟩
      have hts : xs.take (k + 1) = xs.take k ++ [y] := by rw [List.take_succ_eq_append_getElem hkx, hye]
      have hmem : y ∈ xs := by rw [hye]; exact List.getElem_mem hkx
      rw [← hye, hw'] at hc
      have HTS := hid hts
      have HM := hid hmem
      clear hts hmem hye hw'
      by_cases hyx : y = x
      · subst hyx
        go_wp2
        go_ret
        exact ⟨ret_bool (decide_eq_true HM.out).symm, hw.out⟩
      · have hne : (y == x) = false := by simpa using hyx
        go_wp2
        go_roundw
        case rel =>
          have hrel : ∃ k' : Nat, k' ≤ n ∧ Value.int .i64 ((k : Int) + 1) = .int .i64 k' ∧ Hid (w = _) ∧ x ∉ xs.take k' := ⟨k + 1, by omega, by go_num, hw, by rw [HTS.out, List.mem_append]; rintro (h | h); exact HA.out h; simp at h; exact hyx h.symm⟩
          first | exact hrel | ((repeat apply Exists.intro); exact ⟨hrel, rfl⟩)
        case measure => simp [intOf]; omega
    · clear hw'
      go_wp2
      go_ret
      exact ⟨ret_bool (decide_eq_false (by have := HA.out; rwa [List.take_of_length_le (by have := HN.out; omega)] at this)).symm, hw.out⟩
end Go.Proofs.YtilobedihjkpjaaDoor.Num

/-
  paddockref16.New: the model's ground.
-/
namespace Go.Proofs.YtilobedihjkpjaaDoor.Steps
open Go Go.RowKit Go.Proofs.YtilobedihjkpjaaDoor.Err
section
variable {w : World}

set_option maxRecDepth 100000 in
set_option maxHeartbeats 8000000 in
theorem new_any (g : Grd) (hg : g.right = true) (bl : List Int) (v : Value) (hr : Ints w v bl) (hb : bl.length ≤ 1000000) : Calls Tryd.prog 45 #[g.v, v] w fun r w' =>
    ∃ p, r = .returned (.pointer (some ⟨p, 0, none⟩)) ∧ Star w w' [gndR 76 p (Gr.block g.W.toNat g.H.toNat bl)] := by
  obtain ⟨b0, hb0, hz0, hz1, hz2⟩ := info_parts infoB
  obtain ⟨a, cb, rfl⟩ := hr.slice
  have HBL := hid hr
  obtain ⟨W, H, eW, eH, w1, w2, h1, h2⟩ := right_nat hg
  obtain ⟨gW, gH, S, X, Y⟩ := g
  dsimp only at eW eH
  subst eW eH
  unfold Grd.v
  simp only [Int.toNat_natCast]
  have hn1 : W * H ≤ 32 * 32 := Nat.mul_le_mul w2 h2
  have hn2 : 1 * 1 ≤ W * H := Nat.mul_le_mul w1 h1
  have hmul : (W : Int) * (H : Int) = ((W * H : Nat) : Int) := by simp
  have ok : ∀ f, (Gr.ofF W H f).Ok := fun f => ⟨w1, w2, h1, h2, Gr.ofF_len W H f⟩
  have OK := hid ok
  have MB := hid (made_bv W H)
  have OL := hid (Gr.ofF_len W H)
  have OS := hid (Gr.ofF_set W H)
  obtain ⟨n, hn⟩ : ∃ n, n = W * H := ⟨_, rfl⟩
  have HN := hid hn
  rw [← hn] at hmul hn1 hn2 MB OL
  have Z := hid ((Star.new w).alloc #[.int .i64 W, .int .i64 H, .int .i64 S, .int .i64 X, .int .i64 Y] 23)
  clear hg hr ok hn
  go_enter Tryd.func45, Tryd.ntmps45
  have hby : b0.bytes * n ≤ 281474976710656 := by rw [hz2]; omega
  have hwm : IntKind.i64.wrap (n : Int) = (n : Int) := IntWalk.i64_in _ (by omega)
  go_wp2
  generalize w.alloc _ = w4 at *
  generalize w.heap.size = q at *
  have hbk := (Z.out.blk 0 rfl).1
  have hl := lt_of hbk
  have c0 := cell_of hbk 0
  have c1 := cell_of hbk 1
  simp only [List.getElem?_toArray, List.getElem?_cons_zero, List.getElem?_cons_succ] at c0 c1
  clear hbk
  obtain ⟨wm, hrun, hom, hgm⟩ := run_make_full (P := Tryd.prog) w4.drew 0 74 4 b0 (.bool false) 1 Tryd.underlying74 hb0 hz0 hz1 .i64 .i64 n hby (by unfold maxLen; omega) (Nat.zero_le _)
  have SM := hid (show Same w4 wm from Chg.grown ((Chg.refl _).drew) hgm (fun k e _ => by cases e))
  have k0 := SM.out.keep c0
  have k1 := SM.out.keep c1
  have kl := Nat.lt_of_lt_of_le hl SM.out.size
  have es : w4.drew.heap.size = w4.heap.size := rfl
  rw [es] at hrun hom
  clear hgm
  go_region
  all_goals
    have hgnd : Gnd 76 (wm.alloc (.cells #[.int .i64 W, .int .i64 H, .slice (some ⟨w4.heap.size, 0, none⟩) n n] 76)) wm.heap.size w4.heap.size n (Gr.ofF W H (fun _ => false)) := ⟨by rw [OL.out]; exact alloc_new _ _, by rw [OL.out, ← MB.out]; exact own_chg (S := fun _ => False) hom ((Chg.refl _).alloc _) (fun _ _ f => f), by have h : w4.heap.size < wm.heap.size := (hom.lt _ rfl).2; omega, OK.out _⟩
    have X0 := hid (gnd_new Z.out.drop (SM.out.alloc _) hgnd SM.out.size (Nat.le_refl _))
    clear hgnd hom k0 k1 kl es hrun SM Z hby hl c0 c1 MB
    generalize wm.alloc _ = w5 at *
    generalize wm.heap.size = p at *
    generalize w4.heap.size = g4 at *
    have hc2 : ∃ g c, w5.cell? ⟨p, 2, none⟩ = some (.slice (some ⟨g, 0, none⟩) n c) := by
      obtain ⟨g, c, h, -⟩ := gnd_at X0.out 0 rfl
      have := h.c2
      rw [OL.out] at this
      exact ⟨g, c, this⟩
    obtain ⟨g5, c5, hc2⟩ := hc2
    go_wp2_with fail
    go_loopw [6, 24] (fun _ iv wr => ∃ k : Nat, k ≤ n ∧ iv = .int .i64 k ∧ Star w wr [gndR 76 p (Gr.ofF W H (fun t => decide (t < k) && decide ((t : Int) ∉ bl)))]) (fun _ iv _ => n - (intOf iv).toNat)
    case atStart => exact ⟨0, by omega, rfl, by rw [Gr.ofF_congr (f' := fun _ => false) (fun t _ => by simp)]; exact X0.out⟩
    case round =>
      obtain ⟨k, hk, rfl, hX⟩ := hrel
      have X1 := hid hX
      clear hc2 X0 hX
      by_cases hkn : k < n
      · obtain ⟨g, c, h, -, -, hset⟩ := gnd_at (X1.out.go ((Chg.refl _).drew)) 0 rfl
        have XS := hid (hset k (!decide ((k : Int) ∈ bl)))
        rw [OS.out] at XS
        have c2 : wr.cell? ⟨p, 2, none⟩ = some (.slice (some ⟨g, 0, none⟩) (Gr.ofF W H (fun t => decide (t < k) && decide ((t : Int) ∉ bl))).fs.length c) := h.c2
        have pl : p < wr.heap.size := h.pl
        have hf : wr.frozen? ⟨g, k, none⟩ = false := h.frozen k
        have hge : wr.cell? ⟨g, k, none⟩ = _ := h.get k (by rw [OL.out]; exact hkn)
        rw [OL.out] at c2
        clear h hset
        go_wp2_with fail
        go_region_with (go_at_call 13; refine (Num.in_any _ bl k _ (HBL.out.same (X1.out.same.drew)) (by omega)).mono ?_; rintro r w6 ⟨rfl, rfl⟩)
        all_goals
          go_wp2
          go_roundw
          case rel =>
            have e : Gr.ofF W H (fun t => if t = k then (!decide ((k : Int) ∈ bl)) else decide (t < k) && decide ((t : Int) ∉ bl)) = Gr.ofF W H (fun t => decide (t < k + 1) && decide ((t : Int) ∉ bl)) := Gr.ofF_congr (fun t _ => by
              by_cases e : t = k
              · subst e; rw [if_pos rfl]; simp
              · rw [if_neg e]; congr 1; exact decide_eq_decide.2 (by omega))
            have hrel : ∃ k' : Nat, k' ≤ n ∧ Value.int .i64 ((k : Int) + 1) = .int .i64 k' ∧ Star w _ [gndR 76 p (Gr.ofF W H (fun t => decide (t < k') && decide ((t : Int) ∉ bl)))] := ⟨k + 1, by omega, by go_num, by rw [← e]; exact XS.out⟩
            first | exact hrel | ((repeat apply Exists.intro); exact ⟨hrel, rfl⟩)
          case measure => simp [intOf]; omega
      · go_wp2
        go_ret
        have h := X1.out
        rw [Gr.ofF_congr (f' := fun t => decide ((t : Int) ∉ bl)) (fun t ht => by rw [decide_eq_true (by have := HN.out; omega), Bool.true_and])] at h
        exact ⟨p, rfl, h⟩
end
end Go.Proofs.YtilobedihjkpjaaDoor.Steps
