/-
  steps.Of: which grounds it makes.
-/
import Derived.Test.YtilobedihjkpjaaDoorStepSet
import Derived.Test.YtilobedihjkpjaaDoorStepCostP
import Derived.Test.YtilobedihjkpjaaDoorGridRight2
namespace Go.Proofs.YtilobedihjkpjaaDoor
open Go Go.RowKit Go.Proofs.YtilobedihjkpjaaDoor.Err

/-- A ground by what is told of each tile. -/
def Gr.ofF (W H : Nat) (f : Nat → Bool) : Gr := ⟨W, H, (List.range (W * H)).map f⟩
theorem Gr.ofF_len (W H : Nat) (f : Nat → Bool) : (Gr.ofF W H f).fs.length = W * H := by simp [Gr.ofF]
theorem Gr.ofF_set (W H : Nat) (f : Nat → Bool) (k : Nat) (b : Bool) : (Gr.ofF W H f).set k b = Gr.ofF W H (fun t => if t = k then b else f t) := by
  unfold Gr.ofF Gr.set
  congr 1
  apply List.ext_getElem
  · simp
  · intro i h1 h2
    simp only [List.getElem_set, List.getElem_map, List.getElem_range]
    by_cases e : k = i
    · rw [if_pos e, if_pos e.symm]
    · rw [if_neg e, if_neg (fun h => e h.symm)]
theorem Gr.ofF_congr {W H : Nat} {f f' : Nat → Bool} (h : ∀ t, t < W * H → f t = f' t) : Gr.ofF W H f = Gr.ofF W H f' := by
  unfold Gr.ofF
  congr 1
  apply List.map_congr_left
  intro t ht
  exact h t (List.mem_range.1 ht)
theorem Gr.ofF_free {W H : Nat} {f : Nat → Bool} {t : Nat} (h : t < W * H) : (Gr.ofF W H f).free t = f t := by
  unfold Gr.ofF Gr.free
  simp [List.getD_eq_getElem?_getD, h]
theorem made_bv (W H : Nat) : (madeCells (Value.bool false).cells (W * H * 1)).toList = bv (Gr.ofF W H (fun _ => false)).fs := by
  apply List.ext_getElem
  · simp [madeCells, bv, Gr.ofF]
  · intro j h1 h2; simp [madeCells, Value.cells, Nat.mod_one, bv, Gr.ofF]
/-- The ground of a grid on which tiles are blocked. -/
def Gr.block (W H : Nat) (bl : List Int) : Gr := Gr.ofF W H (fun t => decide ((t : Int) ∉ bl))

namespace Steps
section
variable {w : World}

set_option maxRecDepth 100000 in
theorem of_form (g : Grd) (hg : g.right = false) (a : Option Addr) (n c : Nat) (ad : Nat → Addr) (hE : Errs2 w ad) : Calls Tryd.prog 42 #[g.v, .slice a n c] w fun r w' => r = .returned (.tuple #[.pointer none, errV ad 7]) ∧ Same w w' := by
  have HE := hid hE
  have HR := hid (Grd.right_any g)
  rw [hg] at HR
  obtain ⟨W, H, S, X, Y⟩ := g
  unfold Grd.v at *
  simp only at HR ⊢
  have Z := hid ((Star.new w).alloc #[.int .i64 W, .int .i64 H, .int .i64 S, .int .i64 X, .int .i64 Y] 23)
  clear hE hg
  go_enter Tryd.func42, Tryd.ntmps42
  go_wp2_with fail
  refine (HR.out _ _ _ (HE.out.same Z.out.same).c0).mono ?_
  rintro r w2 ⟨rfl, hs⟩
  have Z2 := hid (Z.out.go hs)
  have e6 := (HE.out.same Z2.out.same).c6
  clear hs Z
  go_wp2
  go_quiet (fail)
  go_wp2
  go_ret2
  exact ⟨rfl, Z2.out.same.drewN _⟩

theorem right_nat {g : Grd} (h : g.right = true) : ∃ W H : Nat, g.W = W ∧ g.H = H ∧ 1 ≤ W ∧ W ≤ 32 ∧ 1 ≤ H ∧ H ≤ 32 := by
  have := of_decide_eq_true h
  exact ⟨g.W.toNat, g.H.toNat, by omega, by omega, by omega, by omega, by omega, by omega⟩

set_option maxRecDepth 100000 in
set_option maxHeartbeats 8000000 in
/-- .. at right grids: all tiles are taken as free, then blocked one by one. -/
theorem of_any (g : Grd) (hg : g.right = true) (bl : List Int) (v : Value) (hr : Ints w v bl) (hb : bl.length ≤ 1000000) (ad : Nat → Addr) (hE : Errs2 w ad) : Calls Tryd.prog 42 #[g.v, v] w fun r w' =>
    ((∀ x ∈ bl, 0 ≤ x ∧ x < g.W * g.H) ∧ ∃ p, r = .returned (.tuple #[.pointer (some ⟨p, 0, none⟩), .nilIface]) ∧ Star w w' [gndR 92 p (Gr.block g.W.toNat g.H.toNat bl)]) ∨
    ((∃ x ∈ bl, ¬ (0 ≤ x ∧ x < g.W * g.H)) ∧ r = .returned (.tuple #[.pointer none, errV ad 1]) ∧ Same w w') := by
  obtain ⟨b0, hb0, hz0, hz1, hz2⟩ := info_parts infoB
  obtain ⟨a, cb, rfl⟩ := hr.slice
  have HE := hid hE
  have HR := hid (Grd.right_any g)
  have HBL := hid hr
  obtain ⟨W, H, eW, eH, w1, w2, h1, h2⟩ := right_nat hg
  rw [hg] at HR
  obtain ⟨gW, gH, S, X, Y⟩ := g
  dsimp only at eW eH
  subst eW eH
  unfold Grd.v at *
  simp only [Int.toNat_natCast] at HR ⊢
  have hn1 : W * H ≤ 32 * 32 := Nat.mul_le_mul w2 h2
  have hn2 : 1 * 1 ≤ W * H := Nat.mul_le_mul w1 h1
  have hmul : (W : Int) * (H : Int) = ((W * H : Nat) : Int) := by simp
  rw [hmul]
  have ok : ∀ f, (Gr.ofF W H f).Ok := fun f => ⟨w1, w2, h1, h2, Gr.ofF_len W H f⟩
  have OK := hid ok
  have MB := hid (made_bv W H)
  have OL := hid (Gr.ofF_len W H)
  have OS := hid (Gr.ofF_set W H)
  obtain ⟨n, hn⟩ : ∃ n, n = W * H := ⟨_, rfl⟩
  have HN := hid hn
  rw [← hn] at hmul hn1 hn2 MB OL ⊢
  have Z := hid ((Star.new w).alloc #[.int .i64 W, .int .i64 H, .int .i64 S, .int .i64 X, .int .i64 Y] 23)
  clear hE hg hr ok hn
  go_enter Tryd.func42, Tryd.ntmps42
  go_wp2_with fail
  generalize w.alloc _ = w3 at *
  generalize w.heap.size = q at *
  refine (HR.out _ _ _ (HE.out.same Z.out.same).c0).mono ?_
  rintro r w4 ⟨rfl, hs⟩
  have Z2 := hid (Z.out.go hs)
  have hbk := (Z2.out.blk 0 rfl).1
  have hl := lt_of hbk
  have c0 := cell_of hbk 0
  have c1 := cell_of hbk 1
  simp only [List.getElem?_toArray, List.getElem?_cons_zero, List.getElem?_cons_succ] at c0 c1
  clear hs hbk Z
  have hby : b0.bytes * n ≤ 281474976710656 := by rw [hz2]; omega
  have hwm : IntKind.i64.wrap (n : Int) = (n : Int) := IntWalk.i64_in _ (by omega)
  obtain ⟨wm, hrun, hom, hgm⟩ := run_make_full (P := Tryd.prog) w4.drew 0 74 4 b0 (.bool false) 1 Tryd.underlying74 hb0 hz0 hz1 .i64 .i64 n hby (by unfold maxLen; omega) (Nat.zero_le _)
  have SM := hid (show Same w4 wm from Chg.grown ((Chg.refl _).drew) hgm (fun k e _ => by cases e))
  have OM := hid hom
  have k0 := SM.out.keep c0
  have k1 := SM.out.keep c1
  have kl := Nat.lt_of_lt_of_le hl SM.out.size
  have es : w4.drew.heap.size = w4.heap.size := rfl
  rw [es] at hrun hom
  clear hgm
  go_wp2
  go_region
  all_goals
    have hgnd : Gnd 92 (wm.alloc (.cells #[.int .i64 W, .int .i64 H, .slice (some ⟨w4.heap.size, 0, none⟩) n n] 92)) wm.heap.size w4.heap.size n (Gr.ofF W H (fun _ => false)) := ⟨by rw [OL.out]; exact alloc_new _ _, by rw [OL.out, ← MB.out]; exact own_chg (S := fun _ => False) hom ((Chg.refl _).alloc _) (fun _ _ f => f), by have h : w4.heap.size < wm.heap.size := (hom.lt _ rfl).2; omega, OK.out _⟩
    have X0 := hid (gnd_new Z2.out.drop (SM.out.alloc _) hgnd SM.out.size (Nat.le_refl _))
    clear hgnd hom OM k0 k1 kl es hrun SM Z2 hby hl c0 c1 HR MB
    generalize wm.alloc _ = w5 at *
    generalize wm.heap.size = p at *
    generalize w4.heap.size = g4 at *
    have hc2 : ∃ g c, w5.cell? ⟨p, 2, none⟩ = some (.slice (some ⟨g, 0, none⟩) n c) := by
      obtain ⟨g, c, h, -⟩ := gnd_at X0.out 0 rfl
      have := h.c2
      rw [OL.out] at this
      exact ⟨g, c, this⟩
    obtain ⟨g5, c5, hc2⟩ := hc2
    go_wp2_with fail
    go_loopw [7, 32] (fun _ iv wr => ∃ k : Nat, k ≤ n ∧ iv = .int .i64 k ∧ Star w wr [gndR 92 p (Gr.ofF W H (fun t => decide (t < k)))]) (fun _ iv _ => n - (intOf iv).toNat)
    case atStart => exact ⟨0, by omega, rfl, by rw [Gr.ofF_congr (f' := fun _ => false) (fun t _ => by simp)]; exact X0.out⟩
    case round =>
      obtain ⟨k, hk, rfl, hX⟩ := hrel
      clear hc2 X0
      by_cases hkn : k < n
      · obtain ⟨g, c, h, -, -, hset⟩ := gnd_at hX 0 rfl
        have c2 := h.c2
        have hf := h.frozen k
        have hge := h.get k (by rw [OL.out]; exact hkn)
        rw [OL.out] at c2
        have XS := hid (hset k true)
        rw [OS.out] at XS
        clear h hset hX
        go_wp2
        go_roundw
        case rel =>
          have e : Gr.ofF W H (fun t => if t = k then true else decide (t < k)) = Gr.ofF W H (fun t => decide (t < k + 1)) := Gr.ofF_congr (fun t _ => by
            by_cases e : t = k
            · rw [if_pos e, decide_eq_true (by omega)]
            · rw [if_neg e]; exact decide_eq_decide.2 (by omega))
          exact ⟨k + 1, by omega, by go_num, by rw [← e]; exact XS.out⟩
        case measure => simp [intOf]; omega
      · have hX1 : Star w wr [gndR 92 p (Gr.ofF W H (fun t => decide ((t : Int) ∉ bl.take 0)))] := by
          rw [Gr.ofF_congr (f' := fun t => decide (t < k)) (fun t ht => by rw [decide_eq_true (by simp), decide_eq_true (by have := HN.out; omega)])]
          exact hX
        have X1 := hid hX1
        obtain ⟨m, hm⟩ : ∃ m, m = bl.length := ⟨_, rfl⟩
        have HM := hid hm
        have HB2 : Hid (∀ j (hj : j < bl.length), ∃ b off cap, Value.slice a m cb = .slice (some ⟨b, off, none⟩) m cap ∧ w.cell? ⟨b, off + j, none⟩ = some (.int .i64 bl[j])) := hid (fun j hj => by
          obtain ⟨b, off, cap, e, _, hc⟩ := HBL.out.cells (by omega)
          rw [← hm] at e
          exact ⟨b, off, cap, e, hc j hj⟩)
        rw [← hm] at hb ⊢
        clear hX hX1 hm HBL
        go_wp2_with fail
        go_loopw [9, 10, 44] (fun _ _ iv wr2 => ∃ j : Nat, j ≤ m ∧ iv = .int .i64 j ∧ (∀ x ∈ bl.take j, 0 ≤ x ∧ x < (n : Int)) ∧ Star w wr2 [gndR 92 p (Gr.ofF W H (fun t => decide ((t : Int) ∉ bl.take j)))]) (fun _ _ iv _ => m - (intOf iv).toNat)
        case atStart => exact ⟨0, by omega, rfl, by simp, X1.out⟩
        case round =>
          obtain ⟨j, hj, rfl, hin, hX⟩ := hrel
          have X2 := hid hX
          have HIN := hid hin
          clear hX hin X1
          by_cases hjm : j < m
          · have hjx : j < bl.length := by have := HM.out; omega
            obtain ⟨b, off, cap, e1, hc⟩ := HB2.out j hjx
            cases e1
            have hcj := X2.out.same.keep hc
            obtain ⟨x, hxe⟩ : ∃ x, x = bl[j] := ⟨_, rfl⟩
            have hts : bl.take (j + 1) = bl.take j ++ [x] := by rw [List.take_succ_eq_append_getElem hjx, hxe]
            have hmem : x ∈ bl := by rw [hxe]; exact List.getElem_mem hjx
            rw [← hxe] at hcj
            have HTS := hid hts
            have HME := hid hmem
            clear hts hmem hxe hc
            by_cases hx : 0 ≤ x ∧ x < (n : Int)
            · obtain ⟨t, rfl⟩ := Int.eq_ofNat_of_zero_le hx.1
              go_wp2_with fail
              refine (set_in X2.out t false (by rw [OL.out]; omega)).mono ?_
              rintro r w6 ⟨rfl, hX6⟩
              rw [OS.out] at hX6
              have X6 := hid hX6
              clear hX6 X2
              go_wp2
              go_roundw
              case rel =>
                have e : Gr.ofF W H (fun u => if u = t then false else decide ((u : Int) ∉ bl.take j)) = Gr.ofF W H (fun u => decide ((u : Int) ∉ bl.take (j + 1))) := Gr.ofF_congr (fun u _ => by
                  rw [HTS.out]
                  by_cases e : u = t
                  · rw [if_pos e, decide_eq_false (by rw [e]; simp)]
                  · rw [if_neg e]; exact decide_eq_decide.2 (by simp; omega))
                have hin2 : ∀ x ∈ bl.take (j + 1), 0 ≤ x ∧ x < (n : Int) := by
                  intro x hx'
                  rw [HTS.out, List.mem_append] at hx'
                  rcases hx' with h | h
                  · exact HIN.out x h
                  · simp at h; rw [h]; exact hx
                have hrel : ∃ j' : Nat, j' ≤ m ∧ Value.int .i64 ((j : Int) + 1) = .int .i64 j' ∧ (∀ x ∈ bl.take j', 0 ≤ x ∧ x < (n : Int)) ∧ Star w _ [gndR 92 p (Gr.ofF W H (fun t => decide ((t : Int) ∉ bl.take j')))] := ⟨j + 1, by omega, by go_num, hin2, by rw [← e]; exact X6.out⟩
                first | exact hrel | ((repeat apply Exists.intro); exact ⟨hrel, rfl⟩)
              case measure => simp [intOf]; omega
            · obtain ⟨g, c, h, -⟩ := gnd_at X2.out 0 rfl
              go_wp2_with fail
              refine (set_out h x false (by unfold Gr.has; rw [OL.out]; exact decide_eq_false hx) _ (HE.out.same X2.out.same).c0).mono ?_
              rintro r w6 ⟨rfl, rfl⟩
              clear h
              go_wp2
              go_ret2
              exact .inr ⟨⟨x, HME.out, hx⟩, rfl, X2.out.same⟩
          · go_wp2
            go_ret2
            have e : bl.take j = bl := List.take_of_length_le (by have := HM.out; omega)
            have h1 := HIN.out
            have h2 := X2.out
            rw [e] at h1 h2
            exact .inl ⟨h1, p, rfl, h2⟩
end
end Steps
end Go.Proofs.YtilobedihjkpjaaDoor
