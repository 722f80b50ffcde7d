/-
  paddockref16.New: the model's ground.
-/
import Derived.Test.YtilobedihjkpjaaDoorMadeOf
import Derived.Test.YtilobedihjkpjaaDoorNumIn
namespace Go.Proofs.YtilobedihjkpjaaDoor.Steps
open Go Go.RowKit Go.Proofs.YtilobedihjkpjaaDoor.Err
section
variable {w : World}

set_option maxRecDepth 100000 in
set_option maxHeartbeats 8000000 in
theorem new_any (g : Grd) (hg : g.right = true) (bl : List Int) (v : Value) (hr : Ints w v bl) (hb : bl.length ≤ 1000000) : Calls Tryd.prog 45 #[g.v, v] w fun r w' =>
    ∃ p, r = .returned (.pointer (some ⟨p, 0, none⟩)) ∧ Star w w' [gndR 76 p (Gr.block g.W.toNat g.H.toNat bl)] := by
  obtain ⟨b0, hb0, hz0, hz1, hz2⟩ := info_parts infoB
  obtain ⟨a, cb, rfl⟩ := hr.slice
  have HBL := hid hr
  obtain ⟨W, H, eW, eH, w1, w2, h1, h2⟩ := right_nat hg
  obtain ⟨gW, gH, S, X, Y⟩ := g
  dsimp only at eW eH
  subst eW eH
  unfold Grd.v
  simp only [Int.toNat_natCast]
  have hn1 : W * H ≤ 32 * 32 := Nat.mul_le_mul w2 h2
  have hn2 : 1 * 1 ≤ W * H := Nat.mul_le_mul w1 h1
  have hmul : (W : Int) * (H : Int) = ((W * H : Nat) : Int) := by simp
  have ok : ∀ f, (Gr.ofF W H f).Ok := fun f => ⟨w1, w2, h1, h2, Gr.ofF_len W H f⟩
  have OK := hid ok
  have MB := hid (made_bv W H)
  have OL := hid (Gr.ofF_len W H)
  have OS := hid (Gr.ofF_set W H)
  obtain ⟨n, hn⟩ : ∃ n, n = W * H := ⟨_, rfl⟩
  have HN := hid hn
  rw [← hn] at hmul hn1 hn2 MB OL
  have Z := hid ((Star.new w).alloc #[.int .i64 W, .int .i64 H, .int .i64 S, .int .i64 X, .int .i64 Y] 23)
  clear hg hr ok hn
  go_enter Tryd.func45, Tryd.ntmps45
  have hby : b0.bytes * n ≤ 281474976710656 := by rw [hz2]; omega
  have hwm : IntKind.i64.wrap (n : Int) = (n : Int) := IntWalk.i64_in _ (by omega)
  go_wp2
  generalize w.alloc _ = w4 at *
  generalize w.heap.size = q at *
  have hbk := (Z.out.blk 0 rfl).1
  have hl := lt_of hbk
  have c0 := cell_of hbk 0
  have c1 := cell_of hbk 1
  simp only [List.getElem?_toArray, List.getElem?_cons_zero, List.getElem?_cons_succ] at c0 c1
  clear hbk
  obtain ⟨wm, hrun, hom, hgm⟩ := run_make_full (P := Tryd.prog) w4.drew 0 74 4 b0 (.bool false) 1 Tryd.underlying74 hb0 hz0 hz1 .i64 .i64 n hby (by unfold maxLen; omega) (Nat.zero_le _)
  have SM := hid (show Same w4 wm from Chg.grown ((Chg.refl _).drew) hgm (fun k e _ => by cases e))
  have k0 := SM.out.keep c0
  have k1 := SM.out.keep c1
  have kl := Nat.lt_of_lt_of_le hl SM.out.size
  have es : w4.drew.heap.size = w4.heap.size := rfl
  rw [es] at hrun hom
  clear hgm
  go_region
  all_goals
    have hgnd : Gnd 76 (wm.alloc (.cells #[.int .i64 W, .int .i64 H, .slice (some ⟨w4.heap.size, 0, none⟩) n n] 76)) wm.heap.size w4.heap.size n (Gr.ofF W H (fun _ => false)) := ⟨by rw [OL.out]; exact alloc_new _ _, by rw [OL.out, ← MB.out]; exact own_chg (S := fun _ => False) hom ((Chg.refl _).alloc _) (fun _ _ f => f), by have h : w4.heap.size < wm.heap.size := (hom.lt _ rfl).2; omega, OK.out _⟩
    have X0 := hid (gnd_new Z.out.drop (SM.out.alloc _) hgnd SM.out.size (Nat.le_refl _))
    clear hgnd hom k0 k1 kl es hrun SM Z hby hl c0 c1 MB
    generalize wm.alloc _ = w5 at *
    generalize wm.heap.size = p at *
    generalize w4.heap.size = g4 at *
    have hc2 : ∃ g c, w5.cell? ⟨p, 2, none⟩ = some (.slice (some ⟨g, 0, none⟩) n c) := by
      obtain ⟨g, c, h, -⟩ := gnd_at X0.out 0 rfl
      have := h.c2
      rw [OL.out] at this
      exact ⟨g, c, this⟩
    obtain ⟨g5, c5, hc2⟩ := hc2
    go_wp2_with fail
    go_loopw [6, 24] (fun _ iv wr => ∃ k : Nat, k ≤ n ∧ iv = .int .i64 k ∧ Star w wr [gndR 76 p (Gr.ofF W H (fun t => decide (t < k) && decide ((t : Int) ∉ bl)))]) (fun _ iv _ => n - (intOf iv).toNat)
    case atStart => exact ⟨0, by omega, rfl, by rw [Gr.ofF_congr (f' := fun _ => false) (fun t _ => by simp)]; exact X0.out⟩
    case round =>
      obtain ⟨k, hk, rfl, hX⟩ := hrel
      have X1 := hid hX
      clear hc2 X0 hX
      by_cases hkn : k < n
      · obtain ⟨g, c, h, -, -, hset⟩ := gnd_at (X1.out.go ((Chg.refl _).drew)) 0 rfl
        have XS := hid (hset k (!decide ((k : Int) ∈ bl)))
        rw [OS.out] at XS
        have c2 : wr.cell? ⟨p, 2, none⟩ = some (.slice (some ⟨g, 0, none⟩) (Gr.ofF W H (fun t => decide (t < k) && decide ((t : Int) ∉ bl))).fs.length c) := h.c2
        have pl : p < wr.heap.size := h.pl
        have hf : wr.frozen? ⟨g, k, none⟩ = false := h.frozen k
        have hge : wr.cell? ⟨g, k, none⟩ = _ := h.get k (by rw [OL.out]; exact hkn)
        rw [OL.out] at c2
        clear h hset
        go_wp2_with fail
        go_region_with (go_at_call 13; refine (Num.in_any _ bl k _ (HBL.out.same (X1.out.same.drew)) (by omega)).mono ?_; rintro r w6 ⟨rfl, rfl⟩)
        all_goals
          go_wp2
          go_roundw
          case rel =>
            have e : Gr.ofF W H (fun t => if t = k then (!decide ((k : Int) ∈ bl)) else decide (t < k) && decide ((t : Int) ∉ bl)) = Gr.ofF W H (fun t => decide (t < k + 1) && decide ((t : Int) ∉ bl)) := Gr.ofF_congr (fun t _ => by
              by_cases e : t = k
              · subst e; rw [if_pos rfl]; simp
              · rw [if_neg e]; congr 1; exact decide_eq_decide.2 (by omega))
            have hrel : ∃ k' : Nat, k' ≤ n ∧ Value.int .i64 ((k : Int) + 1) = .int .i64 k' ∧ Star w _ [gndR 76 p (Gr.ofF W H (fun t => decide (t < k') && decide ((t : Int) ∉ bl)))] := ⟨k + 1, by omega, by go_num, by rw [← e]; exact XS.out⟩
            first | exact hrel | ((repeat apply Exists.intro); exact ⟨hrel, rfl⟩)
          case measure => simp [intOf]; omega
      · go_wp2
        go_ret
        have h := X1.out
        rw [Gr.ofF_congr (f' := fun t => decide ((t : Int) ∉ bl)) (fun t ht => by rw [decide_eq_true (by have := HN.out; omega), Bool.true_and])] at h
        exact ⟨p, rfl, h⟩
end
end Go.Proofs.YtilobedihjkpjaaDoor.Steps
