/-
  paddockref18's Ray and Jump.
-/
import Derived.Test.YtdihnjhbopogoaaDoorExpP
import Derived.Test.YtdihnjhbopogoaaDoorRefGo
import Derived.Test.YtdihnjhbopogoaaDoorRouteCosts
import Derived.Test.YtdihnjhbopogoaaDoorJumpW
namespace Go.Proofs.YtdihnjhbopogoaaDoor
/-- Where a jump ends; -1: it doesn't. -/
def jI : Option Nat → Int
  | some u => u
  | none => -1
theorem jI_neg (x : Option Nat) : (0 ≤ jI x ↔ x.isSome = true) := by
  cases x with
  | none => simp [jI]
  | some u => simp [jI]
section
variable {G : Gr}
theorem Gr.ray_cons (h : G.Ok) {f d a : Nat} {r : List Nat} (hr : G.ray f d = a :: r) : ∃ c, G.go f d = some (a, c) ∧ r = G.ray a d := by
  cases hg : G.go f d with
  | none => rw [Gr.ray_none hg] at hr; cases hr
  | some p =>
    obtain ⟨u, c⟩ := p
    rw [Gr.ray_go h hg] at hr
    cases hr
    exact ⟨c, rfl, rfl⟩
theorem Gr.ray_nil (h : G.Ok) {f d : Nat} (hr : G.ray f d = []) : G.go f d = none := by
  cases hg : G.go f d with
  | none => rfl
  | some p => rw [Gr.ray_go h (u := p.1) (c := p.2) hg] at hr; cases hr
theorem Gr.go_straight {t s : Nat} (hf : G.free t = true) (hs : s < 8) (h2 : s % 2 = 0) : (G.go t s).isSome = G.isF (G.X t + dxOf s) (G.Y t + dyOf s) := by
  unfold Gr.go
  cases h : G.isF (G.X t + dxOf s) (G.Y t + dyOf s) with
  | true => simp [hf, hs, h2]
  | false => simp
/-- One to turn at, by columns and rows. -/
theorem Gr.forced_is (h : G.Ok) {f a d : Nat} {c : Int} (hg : G.go f d = some (a, c)) (h2 : d % 2 = 0) :
    G.forced f a d = ((G.isF (G.X a + dyOf d) (G.Y a + dxOf d) && !G.isF (G.X f + dyOf d) (G.Y f + dxOf d)) || (G.isF (G.X a - dyOf d) (G.Y a - dxOf d) && !G.isF (G.X f - dyOf d) (G.Y f - dxOf d))) := by
  obtain ⟨hf, hd, _⟩ := Gr.go_some hg
  have ha := (Gr.go_end h hg).1
  have e : ∀ x : Option (Nat × Int), x.isNone = !x.isSome := fun x => by cases x <;> rfl
  rw [Gr.forced_bes]
  unfold Gr.bes
  rw [e, e, Gr.go_straight ha (by omega) (by omega), Gr.go_straight ha (by omega) (by omega), Gr.go_straight hf (by omega) (by omega), Gr.go_straight hf (by omega) (by omega)]
  have hd' : d = 0 ∨ d = 2 ∨ d = 4 ∨ d = 6 := by omega
  rcases hd' with rfl | rfl | rfl | rfl
  · simp only [dxOf, dyOf, Nat.reduceAdd, Nat.reduceMod, Int.sub_eq_add_neg, Int.neg_zero, Int.add_zero]
    rw [Bool.or_comm]
  · simp only [dxOf, dyOf, Nat.reduceAdd, Nat.reduceMod, Int.sub_eq_add_neg, Int.neg_zero, Int.add_zero]
  · simp only [dxOf, dyOf, Nat.reduceAdd, Nat.reduceMod, Int.sub_eq_add_neg, Int.neg_zero, Int.add_zero, Int.neg_neg]
    rw [Bool.or_comm]
  · simp only [dxOf, dyOf, Nat.reduceAdd, Nat.reduceMod, Int.sub_eq_add_neg, Int.neg_zero, Int.add_zero, Int.neg_neg]
end
end Go.Proofs.YtdihnjhbopogoaaDoor
namespace Go.Proofs.YtdihnjhbopogoaaDoor.Jmp
open Go Go.RowKit Go.Proofs.YtdihnjhbopogoaaDoor.Steps Go.Proofs.YtdihnjhbopogoaaDoor.Route
section
variable {w : World} {p pg pc : Nat} {G : Gr}
set_option maxRecDepth 100000 in
set_option maxHeartbeats 8000000 in
theorem ray_any (hG : Gnd 71 w p pg pc G) (t d : Nat) (ht : t < G.fs.length) : Calls Tryd.prog 34 #[.pointer (some ⟨p, 0, none⟩), .int .i64 t, .int .i64 d] w fun r w' => ∃ v, r = .returned v ∧ Star w w' [Row 3 1 v (G.ray t d).length (gC (G.ray t d))] := by
  obtain ⟨i0, hi0, hz0, hz1, hz2⟩ := info_parts infoInt
  have H := hid hG
  have hroom := Gr.room_in hG.ok ht d
  obtain ⟨l, hl⟩ : ∃ l, l = G.ray t d := ⟨_, rfl⟩
  rw [← hl]
  have HL := hid hl
  have X0 := hid ((Star.new w).add (w' := w.alloc (.cells #[] 3)) ((Chg.refl _).alloc _) (R := Row 3 1 (.slice (some ⟨w.heap.size, 0, none⟩) 0 0) 0 (gC [])) ⟨World.ownsRow_lit (base := 0) w #[] 0 (Nat.zero_le _) (by unfold maxLen; omega) rfl, rfl⟩ (fun k h => by simp [Value.ownBlock] at h; omega))
  clear hG ht hl
  go_enter Tryd.func34, Tryd.ntmps34
  go_wp2_with fail
  go_loopw [1, 7, 8] (fun tv ov iv wr => ∃ (u m : Nat) (acc : List Nat), tv = .int .i64 u ∧ iv = .int .i64 m ∧ m = acc.length ∧ m + G.room u d ≤ 31 ∧ l = acc ++ G.ray u d ∧ Star w wr [Row 3 1 ov m (gC acc)]) (fun _ _ iv _ => 40 - (intOf iv).toNat)
  case atStart => exact ⟨t, 0, [], rfl, rfl, rfl, by omega, HL.out, X0.out⟩
  case round =>
    obtain ⟨u, m, acc, rfl, rfl, hm, hmr, he, hX⟩ := hrel
    have HE := hid he
    have HM := hid hm
    have X := hid hX
    obtain ⟨oa, oc, rfl, -⟩ := own_slice (hX.row 0 rfl).1
    have H1 := hid (H.out.same hX.same)
    clear he hX X0 hm
    go_wp2_with fail
    refine (rgo_any H1.out u d).mono ?_
    rintro r w1 ⟨rfl, hs1⟩
    rw [Gr.goI_nat]
    have X1 := hid (X.out.go hs1)
    clear hs1 X H1
    cases hgo : G.go u d with
    | none =>
      have HN := hid (show l = acc by rw [HE.out, Gr.ray_none hgo, List.append_nil])
      unfold refV
      clear hgo
      go_wp2
      go_ret
      rw [HN.out]
      exact ⟨_, rfl, by rw [← HM.out]; exact X1.out⟩
    | some q =>
      obtain ⟨v, k⟩ := q
      have hroom2 := Gr.go_room H.out.ok hgo
      have HN := hid (show l = (acc ++ [v]) ++ G.ray v d by rw [HE.out, Gr.ray_go H.out.ok hgo]; simp)
      have XD := hid (X1.out.alloc #[.int .i64 v] 3)
      unfold refV
      clear hgo X1
      go_wp2_with (at_builtin; refine wpList_app rfl (.tmp 26) (.tmp 28) 24 rfl 3 i0 (.int .i64 0) 1 8 Tryd.underlying24 hi0 hz0 hz1 hz2 rfl (by decide) _ m (gC acc) rfl (XD.out.row 1 rfl).1 (some ⟨w1.heap.size, 0, none⟩) 1 1 [.int .i64 v] rfl (reads_blk (XD.out.blk 0 rfl).1 1 1 1 rfl) (by simp [Value.oneCell']) (by omega) (by omega) ?_; intro a5 c5 w5 ho5 hg5 hn5; have X5 := hid ((XD.out.grown 1 rfl ho5 hg5 hn5).drop); clear ho5 hg5 hn5)
      go_roundw
      case rel => exact ⟨v, m + 1, acc ++ [v], rfl, by go_num, by rw [List.length_append, ← HM.out]; rfl, by omega, HN.out, by rw [show gC (acc ++ [v]) = gC acc ++ [.int .i64 v] by simp [gC]]; exact X5.out⟩
      case measure => simp [intOf]; omega
set_option maxRecDepth 100000 in
set_option maxHeartbeats 8000000 in
theorem straight_any (hG : Gnd 71 w p pg pc G) (t d : Nat) (goal : Int) (hf : G.free t = true) (hd : d < 8) (h2 : d % 2 = 0) : Calls Tryd.prog 33 #[.pointer (some ⟨p, 0, none⟩), .int .i64 t, .int .i64 d, .int .i64 goal] w fun r w' => r = .returned (.int .i64 (jI (G.jump goal t d))) ∧ Same w w' := by
  have H := hid hG
  have HF := hid hf
  have HD2 := hid h2
  obtain ⟨x, hx⟩ : ∃ x, x = G.jump goal t d := ⟨_, rfl⟩
  rw [← hx]
  have HX := hid hx
  obtain ⟨l, hl⟩ : ∃ l, l = G.ray t d := ⟨_, rfl⟩
  have HL := hid hl
  have hlen : l.length ≤ 31 := by
    have h1 := Gr.ray_len hG.ok _ (Nat.le_refl (G.room t d))
    have h3 := Gr.room_le hG.ok hf d
    rw [hl]; omega
  clear hG hf h2 hx hl
  go_enter Tryd.func33, Tryd.ntmps33
  go_wp2_with fail
  refine (way_any w d hd).mono ?_
  rintro r w' ⟨rfl, rfl⟩
  go_wp2_with fail
  refine (ray_any H.out t d (Gr.free_in HF.out)).mono ?_
  rintro r w1 ⟨v, rfl, hX⟩
  rw [← HL.out] at hX
  have X1 := hid hX
  obtain ⟨va, vc, rfl, -⟩ := own_slice (hX.row 0 rfl).1
  obtain ⟨n, hn⟩ : ∃ n, n = l.length := ⟨_, rfl⟩
  have HN := hid hn
  rw [← hn] at hlen X1 ⊢
  clear hX hn
  obtain ⟨d1, d2, -, -⟩ := dir_abs hd
  obtain ⟨dx, hdx⟩ : ∃ dx, dx = dxOf d := ⟨_, rfl⟩
  obtain ⟨dy, hdy⟩ : ∃ dy, dy = dyOf d := ⟨_, rfl⟩
  have HDX := hid hdx
  have HDY := hid hdy
  rw [← hdx] at d1 ⊢
  rw [← hdy] at d2 ⊢
  clear hdx hdy
  go_wp2_with fail
  go_loopw [9, 29] (fun fv iv wr => ∃ f i : Nat, i ≤ n ∧ fv = .int .i64 f ∧ iv = .int .i64 i ∧ G.free f = true ∧ l.drop i = G.ray f d ∧ x = G.jump goal f d ∧ Star w wr [Row 3 1 (.slice va n vc) n (gC l)]) (fun _ iv _ => n - (intOf iv).toNat)
  case atStart => exact ⟨t, 0, by omega, rfl, rfl, HF.out, by rw [List.drop_zero]; exact HL.out, HX.out, X1.out⟩
  case round =>
    obtain ⟨f, i, hi, rfl, rfl, hff, hdr, hxe, hX⟩ := hrel
    have X := hid hX
    have HXE := hid hxe
    have HFF := hid hff
    have HDR := hid hdr
    clear hX hxe hff hdr X1
    by_cases hin : i < n
    · obtain ⟨a, ha⟩ : ∃ a, l[i]? = some a := ⟨_, List.getElem?_eq_getElem (by have := HN.out; omega)⟩
      have hcons : G.ray f d = a :: l.drop (i + 1) := by
        obtain ⟨h1, h2⟩ := List.getElem?_eq_some_iff.1 ha
        rw [← HDR.out, List.drop_eq_getElem_cons h1, h2]
      obtain ⟨c, hgo, hrest⟩ := Gr.ray_cons H.out.ok hcons
      obtain ⟨hfa, -, -⟩ := Gr.go_end H.out.ok hgo
      have hrow := (X.out.row 0 rfl).1
      obtain ⟨gg, cg, e3⟩ := own_shape hrow (by omega)
      cases e3
      have g0 : wr.cell? ⟨gg, i, none⟩ = some (.int .i64 a) := (hrow.cellAt i (by omega)).trans (by unfold gC; rw [List.getElem?_map, ha]; rfl)
      have gl := (hrow.lt gg rfl).2
      have HGO := hid hgo
      have HFA := hid hfa
      have HRS := hid hrest
      have H1 := hid (H.out.same X.out.same)
      clear ha hcons hgo hrest hfa hrow
      by_cases hag : (a : Int) = goal
      · have HNX := hid (show x = some a by rw [HXE.out]; exact Gr.jump_stop H.out.ok HGO.out (.inl hag))
        have hab : ((a : Int) == goal) = true := by simpa using hag
        clear hag
        go_wp2
        go_ret
        exact ⟨by rw [HNX.out]; rfl, X.out.same⟩
      · have hab : ((a : Int) == goal) = false := by simpa using hag
        have HAG := hid hag
        have c0 := H1.out.c0
        have pl := H1.out.pl
        have hw1 := H1.out.ok.w1
        have hw2 := H1.out.ok.w2
        have hXa : (a : Int).tmod (G.W : Int) = G.X a := (Int.ofNat_tmod a G.W).symm
        have hYa : (a : Int).tdiv (G.W : Int) = G.Y a := (Int.ofNat_tdiv a G.W).symm
        have hXf : (f : Int).tmod (G.W : Int) = G.X f := (Int.ofNat_tmod f G.W).symm
        have hYf : (f : Int).tdiv (G.W : Int) = G.Y f := (Int.ofNat_tdiv f G.W).symm
        obtain ⟨ax1, ax2, ax3, -⟩ := Gr.XY H.out.ok a
        have ax4 := Gr.Yin H.out.ok (Gr.free_in HFA.out)
        obtain ⟨fx1, fx2, fx3, -⟩ := Gr.XY H.out.ok f
        have fx4 := Gr.Yin H.out.ok (Gr.free_in HFF.out)
        have hh2 := H.out.ok.h2
        have HFO := hid (Gr.forced_is H.out.ok HGO.out HD2.out)
        rw [← HDX.out, ← HDY.out] at HFO
        clear hag
        go_wp2_with fail
        go_quiet (fail)
        clear g0 gl
        have S1 := hid (show Same wr (wr.drewN nq) from (Chg.refl _).drewN _)
        have c0 := S1.out.keep c0
        generalize wr.drewN nq = w2 at *
        go_wp2_with fail
        go_quiet (fail)
        have S2 := hid (show Same wr (w2.drewN nq) from S1.out.drewN _)
        clear c0 pl hXa hYa hXf hYf S1
        generalize w2.drewN nq = w3 at *
        generalize G.X a = xa at *
        generalize G.Y a = ya at *
        generalize G.X f = xf at *
        generalize G.Y f = yf at *
        have S := S2
        go_wp2_with (go_at_call 61; refine (is_any (H1.out.same S.out) _ _).mono ?_; rintro r w7 ⟨rfl, hs7⟩; have S := hid (S.out.trans hs7 (fun _ _ f => f)); clear hs7)
        all_goals
          first
            | (have HNX := hid (show x = some a by
                 rw [HXE.out]
                 exact Gr.jump_stop H.out.ok HGO.out (.inr (.inl ⟨HD2.out, by rw [HFO.out]; simp_all⟩)))
               go_ret
               exact ⟨by rw [HNX.out]; rfl, X.out.same.trans S.out (fun _ _ f => f)⟩)
            | (have HNX := hid (show x = G.jump goal a d by
                 rw [HXE.out, Gr.jump_on H.out.ok HGO.out]
                 rintro (h | ⟨_, h⟩ | ⟨h, _⟩)
                 · exact HAG.out h
                 · rw [HFO.out] at h; simp_all
                 · have := HD2.out; omega)
               have X9 := hid (X.out.go S.out)
               go_roundw
               case rel => exact ⟨a, i + 1, by omega, rfl, by go_num, HFA.out, HRS.out, HNX.out, X9.out⟩
               case measure => simp [intOf]; omega)
    · have HNX := hid (show x = none by
        have h1 : G.ray f d = [] := by rw [← HDR.out]; exact List.drop_eq_nil_of_le (by have := HN.out; omega)
        rw [HXE.out]; exact Gr.jump_none (Gr.ray_nil H.out.ok h1))
      go_wp2
      go_ret
      exact ⟨by rw [HNX.out]; rfl, X.out.same⟩
set_option maxRecDepth 100000 in
set_option maxHeartbeats 8000000 in
theorem rjump_no (hG : Gnd 71 w p pg pc G) (t d goal : Int) (hno : G.freeI t = false ∨ d < 0 ∨ 7 < d) : Calls Tryd.prog 12 #[.pointer (some ⟨p, 0, none⟩), .int .i64 t, .int .i64 d, .int .i64 goal] w fun r w' => r = .returned (.int .i64 (-1)) ∧ Same w w' := by
  have H := hid hG
  have HNO := hid hno
  have c2 := hG.c2
  clear hG hno
  go_enter Tryd.func12, Tryd.ntmps12
  go_wp2_with fail
  refine (rhas_any H.out t).mono ?_
  rintro r w' ⟨rfl, rfl⟩
  cases hh : G.has t with
  | false =>
    clear hh
    go_wp2
    go_ret
    exact ⟨rfl, Chg.refl _⟩
  | true =>
    have ht2 : 0 ≤ t ∧ t < G.fs.length := of_decide_eq_true hh
    obtain ⟨t, rfl⟩ := Int.eq_ofNat_of_zero_le ht2.1
    have ht : t < G.fs.length := by omega
    have hg := H.out.get t ht
    have hgl := World.block_lt_of_cell? _ _ hg
    clear hh ht2
    cases hf : G.free t with
    | false =>
      rw [hf] at hg
      clear hf
      go_wp2
      go_ret
      exact ⟨rfl, Chg.refl _⟩
    | true =>
      rw [hf] at hg
      have hd : d < 0 ∨ (¬ d < 0 ∧ 7 < d) := by
        rcases HNO.out with h | h | h
        · rw [Gr.freeI_nat, hf] at h; cases h
        · exact .inl h
        · exact .inr ⟨by omega, h⟩
      clear hf
      rcases hd with hd | ⟨hd, hd7⟩
      · go_wp2
        go_ret
        exact ⟨rfl, Chg.refl _⟩
      · go_wp2
        go_ret
        exact ⟨rfl, Chg.refl _⟩
set_option maxRecDepth 100000 in
set_option maxHeartbeats 8000000 in
theorem rjump_yes (hG : Gnd 71 w p pg pc G) (t d : Nat) (goal : Int) (hf : G.free t = true) (hd : d < 8) : Calls Tryd.prog 12 #[.pointer (some ⟨p, 0, none⟩), .int .i64 t, .int .i64 d, .int .i64 goal] w fun r w' => r = .returned (.int .i64 (jI (G.jump goal t d))) ∧ Same w w' := by
  have H := hid hG
  have HF := hid hf
  obtain ⟨x, hx⟩ : ∃ x, x = G.jump goal t d := ⟨_, rfl⟩
  rw [← hx]
  have HX := hid hx
  have c2 := hG.c2
  have htl := Gr.free_in hf
  have hg := hG.get t htl
  have hgl := World.block_lt_of_cell? _ _ hg
  rw [hf] at hg
  have HAS := hid (show G.has t = true by unfold Gr.has; exact decide_eq_true (by omega))
  have hd7 : ¬ 7 < (d : Int) := by omega
  have hd0 : ¬ (d : Int) < 0 := by omega
  obtain ⟨l, hl⟩ : ∃ l, l = G.ray t d := ⟨_, rfl⟩
  have HL := hid hl
  have hlen : l.length ≤ 31 := by
    have h1 := Gr.ray_len hG.ok _ (Nat.le_refl (G.room t d))
    have h3 := Gr.room_le hG.ok hf d
    rw [hl]; omega
  clear hG hf hx hl
  go_enter Tryd.func12, Tryd.ntmps12
  go_wp2_with fail
  refine (rhas_any H.out t).mono ?_
  rintro r w' ⟨rfl, rfl⟩
  rw [HAS.out]
  rcases Nat.mod_two_eq_zero_or_one d with h2 | h2
  · have hdi : (d : Int) % 2 = 0 := by omega
    have HD2 := hid h2
    clear h2
    go_wp2_with fail
    refine (straight_any H.out t d goal HF.out hd HD2.out).mono ?_
    rintro r w1 ⟨rfl, hs1⟩
    rw [← HX.out]
    go_wp2
    go_ret
    exact ⟨rfl, hs1⟩
  · have hdi : (d : Int) % 2 = 1 := by omega
    have HD2 := hid h2
    obtain ⟨m1, hm1⟩ : ∃ m, m = (d + 7) % 8 := ⟨_, rfl⟩
    obtain ⟨m2, hm2⟩ : ∃ m, m = (d + 1) % 8 := ⟨_, rfl⟩
    have M1 := hid hm1
    have M2 := hid hm2
    have hw1 : (d : Int) - 1 = (m1 : Int) := by omega
    have hw2 : ((d : Int) + 1) % 8 = (m2 : Int) := by omega
    have hw3 : ((d : Int) + 1).tmod 8 = (m2 : Int) := by rw [Int.tmod_eq_emod_of_nonneg (by omega)]; exact hw2
    clear h2 hm1 hm2
    go_wp2_with fail
    refine (ray_any H.out t d (Gr.free_in HF.out)).mono ?_
    rintro r w1 ⟨v, rfl, hX⟩
    rw [← HL.out] at hX
    have X1 := hid hX
    obtain ⟨va, vc, rfl, -⟩ := own_slice (hX.row 0 rfl).1
    obtain ⟨n, hn⟩ : ∃ n, n = l.length := ⟨_, rfl⟩
    have HN := hid hn
    rw [← hn] at hlen X1 ⊢
    clear hX hn c2 hg hgl
    go_wp2_with fail
    go_loopw [46] (fun iv wr => ∃ f i : Nat, i ≤ n ∧ iv = .int .i64 i ∧ l.drop i = G.ray f d ∧ x = G.jump goal f d ∧ Star w wr [Row 3 1 (.slice va n vc) n (gC l)]) (fun iv _ => n - (intOf iv).toNat)
    case atStart => exact ⟨t, 0, by omega, rfl, by rw [List.drop_zero]; exact HL.out, HX.out, X1.out⟩
    case round =>
      obtain ⟨f, i, hi, rfl, hdr, hxe, hX⟩ := hrel
      have X := hid hX
      have HXE := hid hxe
      have HDR := hid hdr
      clear hX hxe hdr X1
      by_cases hin : i < n
      · obtain ⟨a, ha⟩ : ∃ a, l[i]? = some a := ⟨_, List.getElem?_eq_getElem (by have := HN.out; omega)⟩
        have hcons : G.ray f d = a :: l.drop (i + 1) := by
          obtain ⟨h1, h2⟩ := List.getElem?_eq_some_iff.1 ha
          rw [← HDR.out, List.drop_eq_getElem_cons h1, h2]
        obtain ⟨c, hgo, hrest⟩ := Gr.ray_cons H.out.ok hcons
        obtain ⟨hfa, -, -⟩ := Gr.go_end H.out.ok hgo
        have hrow := (X.out.row 0 rfl).1
        obtain ⟨gg, cg, e3⟩ := own_shape hrow (by omega)
        cases e3
        have g0 : wr.cell? ⟨gg, i, none⟩ = some (.int .i64 a) := (hrow.cellAt i (by omega)).trans (by unfold gC; rw [List.getElem?_map, ha]; rfl)
        have gl := (hrow.lt gg rfl).2
        have HGO := hid hgo
        have HFA := hid hfa
        have HRS := hid hrest
        have H1 := hid (H.out.same X.out.same)
        clear ha hcons hgo hrest hfa hrow
        by_cases hag : (a : Int) = goal
        · have HNX := hid (show x = some a by rw [HXE.out]; exact Gr.jump_stop H.out.ok HGO.out (.inl hag))
          have hab : ((a : Int) == goal) = true := by simpa using hag
          clear hag
          go_wp2
          go_ret
          exact ⟨by rw [HNX.out]; rfl, X.out.same⟩
        · have hab : ((a : Int) == goal) = false := by simpa using hag
          have HAG := hid hag
          clear hag
          go_wp2_with fail
          refine (straight_any H1.out a m1 goal HFA.out (by have := M1.out; omega) (by have := M1.out; have := HD2.out; omega)).mono ?_
          rintro r w2 ⟨rfl, hs2⟩
          have X2 := hid (X.out.go hs2)
          have hj1 := jI_neg (G.jump goal a m1)
          clear g0 gl hs2 H1
          by_cases h1 : (G.jump goal a m1).isSome = true
          · have hp := hj1.2 h1
            have HNX := hid (show x = some a by rw [HXE.out]; exact Gr.jump_stop H.out.ok HGO.out (.inr (.inr ⟨HD2.out, .inl (by rw [← M1.out]; exact h1)⟩)))
            clear hj1 h1
            generalize jI (G.jump goal a m1) = y1 at *
            go_wp2
            go_ret
            exact ⟨by rw [HNX.out]; rfl, X2.out.same⟩
          · have hp : ¬ 0 ≤ jI (G.jump goal a m1) := fun h => h1 (hj1.1 h)
            have H1N := hid h1
            have H2 := hid (H.out.same X2.out.same)
            clear hj1 h1
            generalize jI (G.jump goal a m1) = y1 at *
            go_wp2_with fail
            refine (straight_any H2.out a m2 goal HFA.out (by have := M2.out; omega) (by have := M2.out; have := HD2.out; omega)).mono ?_
            rintro r w3 ⟨rfl, hs3⟩
            have X3 := hid (X2.out.go hs3)
            have hj2 := jI_neg (G.jump goal a m2)
            clear hs3 H2
            by_cases h2 : (G.jump goal a m2).isSome = true
            · have hp2 := hj2.2 h2
              have HNX := hid (show x = some a by rw [HXE.out]; exact Gr.jump_stop H.out.ok HGO.out (.inr (.inr ⟨HD2.out, .inr (by rw [← M2.out]; exact h2)⟩)))
              clear hj2 h2
              generalize jI (G.jump goal a m2) = y2 at *
              go_wp2
              go_ret
              exact ⟨by rw [HNX.out]; rfl, X3.out.same⟩
            · have hp2 : ¬ 0 ≤ jI (G.jump goal a m2) := fun h => h2 (hj2.1 h)
              have HNX := hid (show x = G.jump goal a d by
                rw [HXE.out, Gr.jump_on H.out.ok HGO.out]
                rintro (h | ⟨h, _⟩ | ⟨_, h | h⟩)
                · exact HAG.out h
                · have := HD2.out; omega
                · rw [← M1.out] at h; exact H1N.out h
                · rw [← M2.out] at h; exact h2 h)
              clear hj2 h2
              generalize jI (G.jump goal a m2) = y2 at *
              go_wp2
              go_roundw
              case rel => exact ⟨a, i + 1, by omega, by go_num, HRS.out, HNX.out, X3.out⟩
              case measure => simp [intOf]; omega
      · have HNX := hid (show x = none by
          have h1 : G.ray f d = [] := by rw [← HDR.out]; exact List.drop_eq_nil_of_le (by have := HN.out; omega)
          rw [HXE.out]; exact Gr.jump_none (Gr.ray_nil H.out.ok h1))
        go_wp2
        go_ret
        exact ⟨by rw [HNX.out]; rfl, X.out.same⟩
theorem rjump_any (hG : Gnd 71 w p pg pc G) (t d goal : Int) : Calls Tryd.prog 12 #[.pointer (some ⟨p, 0, none⟩), .int .i64 t, .int .i64 d, .int .i64 goal] w fun r w' => r = .returned (.int .i64 (jI (G.jumpI goal t d))) ∧ Same w w' := by
  by_cases hc : G.freeI t = true ∧ 0 ≤ d ∧ d < 8
  · have h0 : 0 ≤ t := by
      have := hc.1
      unfold Gr.freeI Gr.has at this
      simp only [Bool.and_eq_true, decide_eq_true_eq] at this
      omega
    obtain ⟨t, rfl⟩ := Int.eq_ofNat_of_zero_le h0
    obtain ⟨d, rfl⟩ := Int.eq_ofNat_of_zero_le hc.2.1
    unfold Gr.jumpI
    rw [if_pos ⟨h0, hc.2⟩]
    exact rjump_yes hG t d goal (by have := hc.1; rwa [Gr.freeI_nat] at this) (by omega)
  · have e : G.jumpI goal t d = none := by
      unfold Gr.jumpI
      split
      · rename_i h
        obtain ⟨t, rfl⟩ := Int.eq_ofNat_of_zero_le h.1
        have hf : G.free t = false := by
          cases hf : G.free t with
          | false => rfl
          | true => exact absurd ⟨by rw [Gr.freeI_nat]; exact hf, h.2⟩ hc
        refine Gr.jump_none ?_
        rw [Int.toNat_natCast]
        unfold Gr.go
        rw [hf]; simp
      · rfl
    rw [e]
    refine rjump_no hG t d goal ?_
    by_cases hf : G.freeI t = true
    · by_cases h0 : 0 ≤ d
      · refine .inr (.inr ?_)
        by_cases h8 : d < 8
        · exact absurd ⟨hf, h0, h8⟩ hc
        · omega
      · exact .inr (.inl (by omega))
    · exact .inl (by simpa using hf)
end
end Go.Proofs.YtdihnjhbopogoaaDoor.Jmp
