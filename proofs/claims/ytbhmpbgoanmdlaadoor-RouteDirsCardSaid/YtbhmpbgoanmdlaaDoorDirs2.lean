/-
  route.Dirs and paddockref17.Dirs where a number is out of range; paddockref17.Dirs.
-/
import Derived.Test.YtbhmpbgoanmdlaaDoorDirs
namespace Go.Proofs.YtbhmpbgoanmdlaaDoor.Route
open Go Go.RowKit Go.Proofs.YtbhmpbgoanmdlaaDoor.Steps
theorem inCells {w : World} {xs : List Int} {n : Nat} {av : Option Addr} {cv : Nat} (hr : Ints w (.slice av n cv) xs) (hn : n = xs.length) (j : Nat) (x : Int) (h : xs[j]? = some x) : ∃ b off cap, Value.slice av n cv = .slice (some ⟨b, off, none⟩) n cap ∧ w.cell? ⟨b, off + j, none⟩ = some (.int .i64 x) := by
  have hj := (List.getElem?_eq_some_iff.1 h)
  obtain ⟨h1, h2⟩ := hj
  obtain ⟨b, off, cap, e, _, hc⟩ := hr.cells (by omega)
  exact ⟨b, off, cap, by rw [hn]; rw [hn] at e; exact e, by rw [← h2]; exact hc j h1⟩
theorem take_mem {xs : List Int} {j : Nat} {x : Int} {P : Int → Prop} (h : xs[j]? = some x) (h1 : ∀ y ∈ xs.take j, P y) (hx : P x) : ∀ y ∈ xs.take (j + 1), P y := by
  obtain ⟨hj, e⟩ := List.getElem?_eq_some_iff.1 h
  intro y hy
  rw [List.take_succ_eq_append_getElem hj, e, List.mem_append] at hy
  rcases hy with hy | hy
  · exact h1 y hy
  · simp only [List.mem_singleton] at hy; subst hy; exact hx
set_option maxRecDepth 100000 in
set_option maxHeartbeats 4000000 in
theorem dirs_range (w : World) (xs : List Int) (v : Value) (hr : Ints w v xs) (hl : xs.length ≤ 100000) (wd : Int) (hbad : ¬ (1 ≤ wd ∧ wd ≤ 32) ∨ ∃ x ∈ xs, ¬ (0 ≤ x ∧ x < 1024)) (e : Value) (he : w.cell? ⟨0, 0, none⟩ = some e) :
    Calls Tryd.prog 26 #[v, .int .i64 wd] w fun r w' => r = .returned (.tuple #[.slice none 0 0, e]) ∧ Same w w' := by
  obtain ⟨av, cv, rfl⟩ := hr.slice
  obtain ⟨n, hn⟩ : ∃ n, n = xs.length := ⟨_, rfl⟩
  rw [← hn] at hl ⊢
  have HB := hid (inCells (n := n) (av := av) (cv := cv) (by rw [hn]; exact hr) hn)
  have HN := hid hn
  have HBAD := hid hbad
  clear hr hn hbad
  go_enter Tryd.func26, Tryd.ntmps26
  by_cases hw : 1 ≤ wd ∧ wd ≤ 32
  · obtain ⟨w1, w2⟩ := hw
    have HX : Hid (∃ x ∈ xs, ¬ (0 ≤ x ∧ x < 1024)) := hid (by rcases HBAD.out with h | h; exact absurd ⟨w1, w2⟩ h; exact h)
    clear HBAD
    go_wp2_with fail
    go_loop [7, 20] (fun _ iv => ∃ j : Nat, j ≤ n ∧ iv = .int .i64 j ∧ ∀ y ∈ xs.take j, 0 ≤ y ∧ y < 1024) (fun _ iv => n - (intOf iv).toNat)
    case atStart => exact ⟨0, by omega, rfl, by simp⟩
    case round =>
      obtain ⟨j, hj, rfl, hin⟩ := hrel
      have HIN := hid hin
      clear hin
      by_cases hjn : j < n
      · obtain ⟨x, hx⟩ : ∃ t, xs[j]? = some t := ⟨_, List.getElem?_eq_getElem (by have := HN.out; omega)⟩
        obtain ⟨b, off, cap, e1, hc⟩ := HB.out j x hx
        cases e1
        have hbl := World.block_lt_of_cell? _ _ hc
        have HX2 := hid hx
        clear hx
        by_cases hx0 : x < 0
        · go_wp2
          go_quiet (fail)
          go_wp2
          go_ret2
          exact ⟨rfl, (Chg.refl _).drewN _⟩
        · by_cases hx1 : 1024 ≤ x
          · go_wp2
            go_quiet (fail)
            go_wp2
            go_ret2
            exact ⟨rfl, (Chg.refl _).drewN _⟩
          · go_wp2
            go_round
            case rel => exact ⟨j + 1, by omega, by go_num, take_mem HX2.out HIN.out (by omega)⟩
            case measure => simp [intOf]; omega
      · exfalso
        obtain ⟨x, hx, hb⟩ := HX.out
        have := HIN.out
        rw [List.take_of_length_le (by have := HN.out; omega)] at this
        exact hb (this x hx)
  · by_cases h1 : wd < 1
    · clear hw
      go_wp2
      go_quiet (fail)
      go_wp2
      go_ret2
      exact ⟨rfl, (Chg.refl _).drewN _⟩
    · have h2 : 32 < wd := by omega
      clear hw
      go_wp2
      go_quiet (fail)
      go_wp2
      go_ret2
      exact ⟨rfl, (Chg.refl _).drewN _⟩
set_option maxRecDepth 100000 in
set_option maxHeartbeats 4000000 in
theorem rdirs_range (w : World) (xs : List Int) (v : Value) (hr : Ints w v xs) (hl : xs.length ≤ 100000) (wd : Int) (hbad : ¬ (1 ≤ wd ∧ wd ≤ 32) ∨ ∃ x ∈ xs, ¬ (0 ≤ x ∧ x < 1024)) :
    Calls Tryd.prog 27 #[v, .int .i64 wd] w fun r w' => r = .returned (.tuple #[.slice none 0 0, .int .i64 1]) ∧ Same w w' := by
  obtain ⟨av, cv, rfl⟩ := hr.slice
  obtain ⟨n, hn⟩ : ∃ n, n = xs.length := ⟨_, rfl⟩
  rw [← hn] at hl ⊢
  have HB := hid (inCells (n := n) (av := av) (cv := cv) (by rw [hn]; exact hr) hn)
  have HN := hid hn
  have HBAD := hid hbad
  clear hr hn hbad
  go_enter Tryd.func27, Tryd.ntmps27
  by_cases hw : 1 ≤ wd ∧ wd ≤ 32
  · obtain ⟨w1, w2⟩ := hw
    have HX : Hid (∃ x ∈ xs, ¬ (0 ≤ x ∧ x < 1024)) := hid (by rcases HBAD.out with h | h; exact absurd ⟨w1, w2⟩ h; exact h)
    clear HBAD
    go_wp2_with fail
    go_loop [7, 24] (fun _ iv => ∃ j : Nat, j ≤ n ∧ iv = .int .i64 j ∧ ∀ y ∈ xs.take j, 0 ≤ y ∧ y < 1024) (fun _ iv => n - (intOf iv).toNat)
    case atStart => exact ⟨0, by omega, rfl, by simp⟩
    case round =>
      obtain ⟨j, hj, rfl, hin⟩ := hrel
      have HIN := hid hin
      clear hin
      by_cases hjn : j < n
      · obtain ⟨x, hx⟩ : ∃ t, xs[j]? = some t := ⟨_, List.getElem?_eq_getElem (by have := HN.out; omega)⟩
        obtain ⟨b, off, cap, e1, hc⟩ := HB.out j x hx
        cases e1
        have hbl := World.block_lt_of_cell? _ _ hc
        have HX2 := hid hx
        clear hx
        by_cases hx0 : x < 0
        · go_wp2
          go_ret2
          exact ⟨rfl, Chg.refl _⟩
        · by_cases hx1 : 1024 ≤ x
          · go_wp2
            go_ret2
            exact ⟨rfl, Chg.refl _⟩
          · go_wp2
            go_round
            case rel => exact ⟨j + 1, by omega, by go_num, take_mem HX2.out HIN.out (by omega)⟩
            case measure => simp [intOf]; omega
      · exfalso
        obtain ⟨x, hx, hb⟩ := HX.out
        have := HIN.out
        rw [List.take_of_length_le (by have := HN.out; omega)] at this
        exact hb (this x hx)
  · by_cases h1 : wd < 1
    · clear hw
      go_wp2
      go_ret2
      exact ⟨rfl, Chg.refl _⟩
    · have h2 : 32 < wd := by omega
      clear hw
      go_wp2
      go_ret2
      exact ⟨rfl, Chg.refl _⟩

set_option maxRecDepth 100000 in
set_option maxHeartbeats 4000000 in
theorem rdirs_in (w : World) (ns : List Nat) (v : Value) (hr : Reads w v ns.length 1 (gC ns)) (hl : ns.length ≤ 100000) (hin : ∀ t ∈ ns, t < 1024) (wd : Nat) (hw : 1 ≤ wd ∧ wd ≤ 32) :
    Calls Tryd.prog 27 #[v, .int .i64 wd] w fun r w' => dirsA w w' (.int .i64 0) (.int .i64 9) r (dirsF wd ns) := by
  obtain ⟨i0, hi0, hz0, hz1, hz2⟩ := info_parts infoInt
  obtain ⟨av, cv, rfl⟩ := hr.slice
  obtain ⟨n, hn⟩ : ∃ n, n = ns.length := ⟨_, rfl⟩
  have HN := hid hn
  have HB : Hid (∀ (j t : Nat), ns[j]? = some t → ∃ b off cap, Value.slice av n cv = .slice (some ⟨b, off, none⟩) n cap ∧ w.cell? ⟨b, off + j, none⟩ = some (.int .i64 t) ∧ t < 1024) := hid (fun j t ht => by
    have hj := (List.getElem?_eq_some_iff.1 ht).1
    obtain ⟨b, off, cap, e, _, hc⟩ := hr.open (by omega)
    rw [← hn] at e
    exact ⟨b, off, cap, e, hc j _ (by unfold gC; rw [List.getElem?_map, ht]; rfl), hin t (List.mem_of_getElem? ht)⟩)
  rw [← hn] at hl ⊢
  clear hr hin hn
  have X0 := hid ((Star.new w).add (w' := w.alloc (.cells #[] 3)) ((Chg.refl _).alloc _) (R := Row 3 1 (.slice (some ⟨w.heap.size, 0, none⟩) 0 0) 0 ((dirsTo wd ns 0).map (Value.int .i64))) ⟨World.ownsRow_lit w #[] 0 (Nat.zero_le _) (by unfold maxLen; omega) rfl, rfl⟩ (fun k h => by have : w.heap.size = k := Option.some.inj h; omega))
  go_enter Tryd.func27, Tryd.ntmps27
  go_wp2_with fail
  go_loop [7, 24] (fun _ iv => ∃ j : Nat, j ≤ n ∧ iv = .int .i64 j) (fun _ iv => n - (intOf iv).toNat)
  case atStart => exact ⟨0, by omega, rfl⟩
  case round =>
    obtain ⟨j, hj, rfl⟩ := hrel
    by_cases hjn : j < n
    · obtain ⟨t, ht⟩ : ∃ t, ns[j]? = some t := ⟨_, List.getElem?_eq_getElem (by have := HN.out; omega)⟩
      obtain ⟨b, off, cap, e1, hc, htk⟩ := HB.out j t ht
      cases e1
      have hbl := World.block_lt_of_cell? _ _ hc
      clear ht
      go_wp2
      go_round
      case rel => exact ⟨j + 1, by omega, by go_num⟩
      case measure => simp [intOf]; omega
    · go_wp2_with fail
      go_loopw [8, 9] (fun ov iv wr => ∃ k : Nat, k ≤ n ∧ iv = .int .i64 ((k : Int) + 1) ∧ goodTo wd ns k ∧ (k = 0 ∨ k < n) ∧ Star w wr [Row 3 1 ov k ((dirsTo wd ns k).map (Value.int .i64))]) (fun _ iv _ => n + 1 - (intOf iv).toNat)
      case atStart => exact ⟨0, by omega, rfl, (fun i h => by omega), .inl rfl, X0.out⟩
      case round =>
        obtain ⟨k, hk, rfl, hg, hk0, hX⟩ := hrel
        have X := hid hX
        have HG := hid hg
        obtain ⟨va, vc, rfl, -⟩ := own_slice (hX.row 0 rfl).1
        clear hg hX X0
        by_cases hkn : k + 1 < n
        · obtain ⟨t1, ht1⟩ : ∃ t, ns[k]? = some t := ⟨_, List.getElem?_eq_getElem (by have := HN.out; omega)⟩
          obtain ⟨t2, ht2⟩ : ∃ t, ns[k + 1]? = some t := ⟨_, List.getElem?_eq_getElem (by have := HN.out; omega)⟩
          obtain ⟨b, off, cap, e1, hc1, hl1⟩ := HB.out k t1 ht1
          cases e1
          obtain ⟨b', off', cap', e2, hc2, hl2⟩ := HB.out (k + 1) t2 ht2
          cases e2
          have k1 := X.out.same.keep hc1
          have k2 := X.out.same.keep hc2
          have kl := World.block_lt_of_cell? _ _ k1
          have HD := hid (show dirAt wd ns k = dirP (Xn wd t2 - Xn wd t1) (Yn wd t2 - Yn wd t1) by
            unfold dirAt
            rw [List.getD_eq_getElem?_getD, List.getD_eq_getElem?_getD, ht1, ht2]; rfl)
          have hb1 : 0 ≤ (k : Int) ∧ (k : Int) < (n : Int) := by omega
          have hb2 : 0 ≤ (k : Int) + 1 ∧ (k : Int) + 1 < (n : Int) := by omega
          have hw4 : ((k : Int) + 1).toNat = k + 1 := by omega
          have hw1 : IntKind.i64.wrap ((k : Int) + 1) = (k : Int) + 1 := IntWalk.i64_in _ (by omega)
          have hw2 : IntKind.i64.wrap (k : Int) = (k : Int) := IntWalk.i64_in _ (by omega)
          have hw3 : (k : Int) + 1 - 1 = (k : Int) := by omega
          clear ht1 ht2 hc1 hc2
          go_wp2
          go_quiet (fail)
          have X5 := hid (X.out.go ((Chg.refl _).drewN nq))
          clear k1 k2 kl X hw1 hw2 hw3 hw4 hb1 hb2
          generalize wr.drewN nq = w5 at *
          have hXa : (t1 : Int).tmod (wd : Int) = Xn wd t1 := (Int.ofNat_tmod t1 wd).symm
          have hYa : (t1 : Int).tdiv (wd : Int) = Yn wd t1 := (Int.ofNat_tdiv t1 wd).symm
          have hXb : (t2 : Int).tmod (wd : Int) = Xn wd t2 := (Int.ofNat_tmod t2 wd).symm
          have hYb : (t2 : Int).tdiv (wd : Int) = Yn wd t2 := (Int.ofNat_tdiv t2 wd).symm
          have x1 : 0 ≤ Xn wd t1 ∧ Xn wd t1 ≤ 1024 := by unfold Xn; have := Nat.mod_le t1 wd; omega
          have x2 : 0 ≤ Xn wd t2 ∧ Xn wd t2 ≤ 1024 := by unfold Xn; have := Nat.mod_le t2 wd; omega
          have x3 : 0 ≤ Yn wd t1 ∧ Yn wd t1 ≤ 1024 := ⟨Int.natCast_nonneg _, show ((t1 / wd : Nat) : Int) ≤ ((1024 : Nat) : Int) from Int.ofNat_le.2 (Nat.le_trans (Nat.div_le_self t1 wd) (Nat.le_of_lt hl1))⟩
          have x4 : 0 ≤ Yn wd t2 ∧ Yn wd t2 ≤ 1024 := ⟨Int.natCast_nonneg _, show ((t2 / wd : Nat) : Int) ≤ ((1024 : Nat) : Int) from Int.ofNat_le.2 (Nat.le_trans (Nat.div_le_self t2 wd) (Nat.le_of_lt hl2))⟩
          generalize Xn wd t1 = xa at *
          generalize Xn wd t2 = xb at *
          generalize Yn wd t1 = ya at *
          generalize Yn wd t2 = yb at *
          have HXa := hid hXa
          have HYa := hid hYa
          have HXb := hid hXb
          have HYb := hid hYb
          clear hXa hYa hXb hYb
          go_wp2_with fail
          go_loopw [12, 13] (fun fv dv wr => ∃ d : Nat, d ≤ 8 ∧ dv = .int .i64 d ∧ fv = .int .i64 (dirTo (xb - xa) (yb - ya) d) ∧ Star w wr [Row 3 1 (.slice va k vc) k ((dirsTo wd ns k).map (Value.int .i64))]) (fun _ dv _ => 8 - (intOf dv).toNat)
          case atStart => exact ⟨0, by omega, rfl, rfl, X5.out⟩
          case round =>
            obtain ⟨d, hd, rfl, rfl, hX⟩ := hrel
            have X6 := hid hX
            clear hX X5
            by_cases hd8 : d < 8
            · have hab := dir_abs hd8
              have hab1 : -1 ≤ dxOf d ∧ dxOf d ≤ 1 := by omega
              have hab2 : -1 ≤ dyOf d ∧ dyOf d ≤ 1 := by omega
              have HT := hid (show dirTo (xb - xa) (yb - ya) (d + 1) = if xb - xa = dxOf d ∧ yb - ya = dyOf d then (d : Int) else dirTo (xb - xa) (yb - ya) d from rfl)
              clear hab
              go_wp2_with fail
              refine (way_any _ d hd8).mono ?_
              rintro r w' ⟨rfl, rfl⟩
              have hXa := HXa.out
              have hYa := HYa.out
              have hXb := HXb.out
              have hYb := HYb.out
              generalize dxOf d = dx at *
              generalize dyOf d = dy at *
              have hs1 : IntKind.i64.wrap (xa + dx) = xa + dx := IntWalk.i64_in _ (by omega)
              have hs2 : IntKind.i64.wrap (ya + dy) = ya + dy := IntWalk.i64_in _ (by omega)
              by_cases h1 : xb = xa + dx
              · have h1' : (xb == xa + dx) = true := by simpa using h1
                by_cases h2 : yb = ya + dy
                · have h2' : (yb == ya + dy) = true := by simpa using h2
                  have HT2 := hid (show dirTo (xb - xa) (yb - ya) (d + 1) = d by rw [HT.out, if_pos ⟨by omega, by omega⟩])
                  clear h1 h2
                  go_wp2
                  go_quiet (fail)
                  go_wp2
                  go_roundw
                  case rel => exact ⟨d + 1, by omega, by go_num, by rw [HT2.out], X6.out.go ((Chg.refl _).drewN _)⟩
                  case measure => simp [intOf]; omega
                · have h2' : (yb == ya + dy) = false := by simpa using h2
                  have HT2 := hid (show dirTo (xb - xa) (yb - ya) (d + 1) = dirTo (xb - xa) (yb - ya) d by rw [HT.out, if_neg (by omega)])
                  clear h1 h2
                  go_wp2
                  go_quiet (fail)
                  go_wp2
                  go_roundw
                  case rel => exact ⟨d + 1, by omega, by go_num, by rw [HT2.out], X6.out.go ((Chg.refl _).drewN _)⟩
                  case measure => simp [intOf]; omega
              · have h1' : (xb == xa + dx) = false := by simpa using h1
                have HT2 := hid (show dirTo (xb - xa) (yb - ya) (d + 1) = dirTo (xb - xa) (yb - ya) d by rw [HT.out, if_neg (by omega)])
                clear h1
                go_wp2
                go_quiet (fail)
                go_wp2
                go_roundw
                case rel => exact ⟨d + 1, by omega, by go_num, by rw [HT2.out], X6.out.go ((Chg.refl _).drewN _)⟩
                case measure => simp [intOf]; omega
            · obtain rfl : d = 8 := by omega
              rw [dirTo_8, ← HD.out]
              obtain ⟨dd, hdd⟩ : ∃ d, d = dirAt wd ns k := ⟨_, rfl⟩
              have HDD := hid hdd
              have hge : -1 ≤ dd := by
                rw [hdd, HD.out]
                unfold dirP
                repeat' split
                all_goals omega
              rw [← hdd]
              clear hdd
              by_cases hd1 : dd = -1
              · have HF := hid (dirsF_none (wd := wd) (ns := ns) (k := k) (by rw [← HDD.out]; exact hd1) (by have := HN.out; omega))
                rw [hd1]
                clear hd1 hge
                go_wp2
                go_ret2
                rw [HF.out]
                exact ⟨rfl, X6.out.same⟩
              · have hd2 : ¬ dd < 0 := by omega
                have HG2 := hid (goodTo_succ HG.out (by rw [← HDD.out]; exact hd1))
                have XD := hid (X6.out.alloc #[.int .i64 dd] 3)
                clear hd1 hge
                go_wp2_with (at_builtin; refine wpList_app rfl _ _ 24 rfl 3 i0 (.int .i64 0) 1 8 Tryd.underlying24 hi0 hz0 hz1 hz2 rfl (by decide) _ k ((dirsTo wd ns k).map (Value.int .i64)) rfl (XD.out.row 1 rfl).1 (some ⟨wr.heap.size, 0, none⟩) 1 1 [.int .i64 dd] rfl (reads_blk (XD.out.blk 0 rfl).1 1 1 1 rfl) (by simp [Value.oneCell']) (by omega) (by omega) ?_; intro a7 c7 w7 ho7 hg7 hn7; have X7 := hid (XD.out.grown 1 rfl ho7 hg7 hn7).drop; clear ho7 hg7 hn7)
                go_roundw
                case rel => exact ⟨k + 1, by omega, by go_num, HG2.out, .inr hkn, by rw [dirsTo_succ, List.map_append, ← HDD.out]; exact X7.out⟩
                case measure => simp [intOf]; omega
        · have HF := hid (dirsF_some HG.out (show k = ns.length - 1 by have := HN.out; omega))
          go_wp2
          go_ret2
          rw [HF.out]
          exact ⟨_, rfl, by rw [dirsTo_len]; exact X.out⟩
end Go.Proofs.YtbhmpbgoanmdlaaDoor.Route
