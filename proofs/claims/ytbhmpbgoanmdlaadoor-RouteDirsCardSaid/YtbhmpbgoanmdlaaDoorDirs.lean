/-
  route.Dirs and paddockref17.Dirs: which directions lead along a row of tiles.
-/
import Derived.Test.YtbhmpbgoanmdlaaDoorRouteCosts
import Derived.Test.YtbhmpbgoanmdlaaDoorRefIs
namespace Go.Proofs.YtbhmpbgoanmdlaaDoor
def dirP (x y : Int) : Int :=
  if x = 1 ∧ y = 0 then 0 else if x = 1 ∧ y = 1 then 1 else if x = 0 ∧ y = 1 then 2 else if x = -1 ∧ y = 1 then 3 else if x = -1 ∧ y = 0 then 4 else if x = -1 ∧ y = -1 then 5 else if x = 0 ∧ y = -1 then 6 else if x = 1 ∧ y = -1 then 7 else -1
def dirTo (x y : Int) : Nat → Int
  | 0 => -1
  | k + 1 => if x = dxOf k ∧ y = dyOf k then k else dirTo x y k
theorem dirTo_8 (x y : Int) : dirTo x y 8 = dirP x y := by
  have e0 : dxOf 0 = 1 ∧ dyOf 0 = 0 := ⟨rfl, rfl⟩
  have e1 : dxOf 1 = 1 ∧ dyOf 1 = 1 := ⟨rfl, rfl⟩
  have e2 : dxOf 2 = 0 ∧ dyOf 2 = 1 := ⟨rfl, rfl⟩
  have e3 : dxOf 3 = -1 ∧ dyOf 3 = 1 := ⟨rfl, rfl⟩
  have e4 : dxOf 4 = -1 ∧ dyOf 4 = 0 := ⟨rfl, rfl⟩
  have e5 : dxOf 5 = -1 ∧ dyOf 5 = -1 := ⟨rfl, rfl⟩
  have e6 : dxOf 6 = 0 ∧ dyOf 6 = -1 := ⟨rfl, rfl⟩
  have e7 : dxOf 7 = 1 ∧ dyOf 7 = -1 := ⟨rfl, rfl⟩
  unfold dirP
  simp only [dirTo, e0.1, e0.2, e1.1, e1.2, e2.1, e2.2, e3.1, e3.2, e4.1, e4.2, e5.1, e5.2, e6.1, e6.2, e7.1, e7.2]
  repeat' split
  all_goals omega
def Xn (wd t : Nat) : Int := ((t % wd : Nat) : Int)
def Yn (wd t : Nat) : Int := ((t / wd : Nat) : Int)
/-- The direction at a place of a row. -/
def dirAt (wd : Nat) (ns : List Nat) (k : Nat) : Int := dirP (Xn wd (ns.getD (k + 1) 0) - Xn wd (ns.getD k 0)) (Yn wd (ns.getD (k + 1) 0) - Yn wd (ns.getD k 0))
def dirsTo (wd : Nat) (ns : List Nat) (k : Nat) : List Int := (List.range k).map (dirAt wd ns)
def goodTo (wd : Nat) (ns : List Nat) (k : Nat) : Prop := ∀ i, i < k → dirAt wd ns i ≠ -1
theorem dirsTo_succ (wd : Nat) (ns : List Nat) (k : Nat) : dirsTo wd ns (k + 1) = dirsTo wd ns k ++ [dirAt wd ns k] := by simp [dirsTo, List.range_succ]
theorem dirsTo_len (wd : Nat) (ns : List Nat) (k : Nat) : (dirsTo wd ns k).length = k := by simp [dirsTo]
theorem goodTo_succ {wd : Nat} {ns : List Nat} {k : Nat} (h : goodTo wd ns k) (hk : dirAt wd ns k ≠ -1) : goodTo wd ns (k + 1) := fun i hi => by
  by_cases e : i = k
  · subst e; exact hk
  · exact h i (by omega)
noncomputable def dirsF (wd : Nat) (ns : List Nat) : Option (List Int) := @ite _ (goodTo wd ns (ns.length - 1)) (Classical.propDecidable _) (some (dirsTo wd ns (ns.length - 1))) none
theorem dirsF_some {wd : Nat} {ns : List Nat} {k : Nat} (h : goodTo wd ns k) (hk : k = ns.length - 1) : dirsF wd ns = some (dirsTo wd ns k) := by
  subst hk; unfold dirsF; rw [if_pos h]
theorem dirsF_none {wd : Nat} {ns : List Nat} {k : Nat} (h : dirAt wd ns k = -1) (hk : k < ns.length - 1) : dirsF wd ns = none := by
  unfold dirsF; rw [if_neg (fun hg => hg k hk h)]
end Go.Proofs.YtbhmpbgoanmdlaaDoor
namespace Go.Proofs.YtbhmpbgoanmdlaaDoor.Route
open Go Go.RowKit Go.Proofs.YtbhmpbgoanmdlaaDoor.Steps
theorem idx0 (w : World) : (Instr.index 100 (.agg #[.int .i64 5, .int .i64 6, .int .i64 7, .int .i64 4, .int .i64 (-1), .int .i64 0, .int .i64 3, .int .i64 2, .int .i64 1]) (.int .i64 0)).run Tryd.prog w = .ok (.agg #[.int .i64 5, .int .i64 6, .int .i64 7]) w := by kernel_rfl
theorem idx1 (w : World) : (Instr.index 100 (.agg #[.int .i64 5, .int .i64 6, .int .i64 7, .int .i64 4, .int .i64 (-1), .int .i64 0, .int .i64 3, .int .i64 2, .int .i64 1]) (.int .i64 1)).run Tryd.prog w = .ok (.agg #[.int .i64 4, .int .i64 (-1), .int .i64 0]) w := by kernel_rfl
theorem idx2 (w : World) : (Instr.index 100 (.agg #[.int .i64 5, .int .i64 6, .int .i64 7, .int .i64 4, .int .i64 (-1), .int .i64 0, .int .i64 3, .int .i64 2, .int .i64 1]) (.int .i64 2)).run Tryd.prog w = .ok (.agg #[.int .i64 3, .int .i64 2, .int .i64 1]) w := by kernel_rfl
theorem jdx0 (a b c : Int) (w : World) : (Instr.index 99 (.agg #[.int .i64 a, .int .i64 b, .int .i64 c]) (.int .i64 0)).run Tryd.prog w = .ok (.int .i64 a) w := by kernel_rfl
theorem jdx1 (a b c : Int) (w : World) : (Instr.index 99 (.agg #[.int .i64 a, .int .i64 b, .int .i64 c]) (.int .i64 1)).run Tryd.prog w = .ok (.int .i64 b) w := by kernel_rfl
theorem jdx2 (a b c : Int) (w : World) : (Instr.index 99 (.agg #[.int .i64 a, .int .i64 b, .int .i64 c]) (.int .i64 2)).run Tryd.prog w = .ok (.int .i64 c) w := by kernel_rfl
set_option maxRecDepth 100000 in
set_option maxHeartbeats 4000000 in
theorem dir_any (w : World) (a b wd : Nat) (ha : a < 1024) (hb : b < 1024) (hw : 1 ≤ wd) : Calls Tryd.prog 42 #[.int .i64 a, .int .i64 b, .int .i64 wd] w fun r w' => r = .returned (.int .i64 (dirP (Xn wd b - Xn wd a) (Yn wd b - Yn wd a))) ∧ Same w w' := by
  obtain ⟨res, hres⟩ : ∃ x, x = dirP (Xn wd b - Xn wd a) (Yn wd b - Yn wd a) := ⟨_, rfl⟩
  rw [← hres]
  have HR := hid hres
  clear hres
  have hXa : (a : Int).tmod (wd : Int) = Xn wd a := (Int.ofNat_tmod a wd).symm
  have hYa : (a : Int).tdiv (wd : Int) = Yn wd a := (Int.ofNat_tdiv a wd).symm
  have hXb : (b : Int).tmod (wd : Int) = Xn wd b := (Int.ofNat_tmod b wd).symm
  have hYb : (b : Int).tdiv (wd : Int) = Yn wd b := (Int.ofNat_tdiv b wd).symm
  have x1 : 0 ≤ Xn wd a ∧ Xn wd a ≤ 1024 := by unfold Xn; have := Nat.mod_le a wd; omega
  have x2 : 0 ≤ Xn wd b ∧ Xn wd b ≤ 1024 := by unfold Xn; have := Nat.mod_le b wd; omega
  have x3 : 0 ≤ Yn wd a ∧ Yn wd a ≤ 1024 := by exact ⟨Int.natCast_nonneg _, show ((a / wd : Nat) : Int) ≤ ((1024 : Nat) : Int) from Int.ofNat_le.2 (Nat.le_trans (Nat.div_le_self a wd) (Nat.le_of_lt ha))⟩
  have x4 : 0 ≤ Yn wd b ∧ Yn wd b ≤ 1024 := by exact ⟨Int.natCast_nonneg _, show ((b / wd : Nat) : Int) ≤ ((1024 : Nat) : Int) from Int.ofNat_le.2 (Nat.le_trans (Nat.div_le_self b wd) (Nat.le_of_lt hb))⟩
  generalize Xn wd a = xa at *
  generalize Xn wd b = xb at *
  generalize Yn wd a = ya at *
  generalize Yn wd b = yb at *
  go_enter Tryd.func42, Tryd.ntmps42
  go_wp2
  go_quiet (fail)
  have hx : -1024 ≤ xb - xa ∧ xb - xa ≤ 1024 := by omega
  have hy : -1024 ≤ yb - ya ∧ yb - ya ≤ 1024 := by omega
  generalize xb - xa = x at *
  generalize yb - ya = y at *
  clear hXa hYa hXb hYb x1 x2 x3 x4
  by_cases h1 : x < -1
  · have HE := hid (show dirP x y = -1 by unfold dirP; (repeat' split) <;> omega)
    go_wp2
    go_ret
    exact ⟨ret_int (by rw [HR.out, HE.out]), (Chg.refl _).drewN _⟩
  · by_cases h2 : 1 < x
    · have HE := hid (show dirP x y = -1 by unfold dirP; (repeat' split) <;> omega)
      go_wp2
      go_ret
      exact ⟨ret_int (by rw [HR.out, HE.out]), (Chg.refl _).drewN _⟩
    · by_cases h3 : y < -1
      · have HE := hid (show dirP x y = -1 by unfold dirP; (repeat' split) <;> omega)
        go_wp2
        go_ret
        exact ⟨ret_int (by rw [HR.out, HE.out]), (Chg.refl _).drewN _⟩
      · by_cases h4 : 1 < y
        · have HE := hid (show dirP x y = -1 by unfold dirP; (repeat' split) <;> omega)
          go_wp2
          go_ret
          exact ⟨ret_int (by rw [HR.out, HE.out]), (Chg.refl _).drewN _⟩
        · have hx3 : x = -1 ∨ x = 0 ∨ x = 1 := by omega
          have hy3 : y = -1 ∨ y = 0 ∨ y = 1 := by omega
          clear h1 h2 h3 h4 hx hy
          have t0 := idx0
          have t1 := idx1
          have t2 := idx2
          have t3 := jdx0
          have t4 := jdx1
          have t5 := jdx2
          rcases hx3 with rfl | rfl | rfl <;> rcases hy3 with rfl | rfl | rfl
          all_goals
            go_wp2
            go_ret
            exact ⟨ret_int (by rw [HR.out]; rfl), (Chg.refl _).drewN _⟩

/-- What Dirs answers. -/
def dirsA (w w' : World) (e0 e : Value) (r : Ending) (F : Option (List Int)) : Prop :=
  match F with
  | some l => ∃ v, r = .returned (.tuple #[v, e0]) ∧ Star w w' [Row 3 1 v l.length (l.map (Value.int .i64))]
  | none => r = .returned (.tuple #[.slice none 0 0, e]) ∧ Same w w'
set_option maxRecDepth 100000 in
set_option maxHeartbeats 4000000 in
theorem dirs_in (w : World) (ns : List Nat) (v : Value) (hr : Reads w v ns.length 1 (gC ns)) (hl : ns.length ≤ 100000) (hin : ∀ t ∈ ns, t < 1024) (wd : Nat) (hw : 1 ≤ wd ∧ wd ≤ 32) (e : Value) (he : w.cell? ⟨3, 0, none⟩ = some e) :
    Calls Tryd.prog 26 #[v, .int .i64 wd] w fun r w' => dirsA w w' .nilIface e r (dirsF wd ns) := by
  obtain ⟨i0, hi0, hz0, hz1, hz2⟩ := info_parts infoInt
  obtain ⟨av, cv, rfl⟩ := hr.slice
  obtain ⟨n, hn⟩ : ∃ n, n = ns.length := ⟨_, rfl⟩
  have HN := hid hn
  have HB : Hid (∀ (j t : Nat), ns[j]? = some t → ∃ b off cap, Value.slice av n cv = .slice (some ⟨b, off, none⟩) n cap ∧ w.cell? ⟨b, off + j, none⟩ = some (.int .i64 t) ∧ t < 1024) := hid (fun j t ht => by
    have hj := (List.getElem?_eq_some_iff.1 ht).1
    obtain ⟨b, off, cap, e, _, hc⟩ := hr.open (by omega)
    rw [← hn] at e
    exact ⟨b, off, cap, e, hc j _ (by unfold gC; rw [List.getElem?_map, ht]; rfl), hin t (List.mem_of_getElem? ht)⟩)
  have HE := hid he
  rw [← hn] at hl ⊢
  clear hr hin hn he
  have X0 := hid ((Star.new w).nilRow 3 1)
  go_enter Tryd.func26, Tryd.ntmps26
  go_wp2_with fail
  go_loop [7, 20] (fun _ iv => ∃ j : Nat, j ≤ n ∧ iv = .int .i64 j) (fun _ iv => n - (intOf iv).toNat)
  case atStart => exact ⟨0, by omega, rfl⟩
  case round =>
    obtain ⟨j, hj, rfl⟩ := hrel
    by_cases hjn : j < n
    · obtain ⟨t, ht⟩ : ∃ t, ns[j]? = some t := ⟨_, List.getElem?_eq_getElem (by have := HN.out; omega)⟩
      obtain ⟨b, off, cap, e1, hc, htk⟩ := HB.out j t ht
      cases e1
      have hbl := World.block_lt_of_cell? _ _ hc
      clear ht
      go_wp2
      go_round
      case rel => exact ⟨j + 1, by omega, by go_num⟩
      case measure => simp [intOf]; omega
    · go_wp2_with fail
      go_loopw [8, 9] (fun ov iv wr => ∃ k : Nat, k ≤ n ∧ iv = .int .i64 ((k : Int) + 1) ∧ goodTo wd ns k ∧ (k = 0 ∨ k < n) ∧ Star w wr [Row 3 1 ov k ((dirsTo wd ns k).map (Value.int .i64))]) (fun _ iv _ => n + 1 - (intOf iv).toNat)
      case atStart => exact ⟨0, by omega, rfl, (fun i h => by omega), .inl rfl, X0.out⟩
      case round =>
        obtain ⟨k, hk, rfl, hg, hk0, hX⟩ := hrel
        have X := hid hX
        have HG := hid hg
        obtain ⟨va, vc, rfl, -⟩ := own_slice (hX.row 0 rfl).1
        clear hg hX X0
        by_cases hkn : k + 1 < n
        · obtain ⟨t1, ht1⟩ : ∃ t, ns[k]? = some t := ⟨_, List.getElem?_eq_getElem (by have := HN.out; omega)⟩
          obtain ⟨t2, ht2⟩ : ∃ t, ns[k + 1]? = some t := ⟨_, List.getElem?_eq_getElem (by have := HN.out; omega)⟩
          obtain ⟨b, off, cap, e1, hc1, hl1⟩ := HB.out k t1 ht1
          cases e1
          obtain ⟨b', off', cap', e2, hc2, hl2⟩ := HB.out (k + 1) t2 ht2
          cases e2
          have k1 := X.out.same.keep hc1
          have k2 := X.out.same.keep hc2
          have kl := World.block_lt_of_cell? _ _ k1
          have HD := hid (show dirAt wd ns k = dirP (Xn wd t2 - Xn wd t1) (Yn wd t2 - Yn wd t1) by
            unfold dirAt
            rw [List.getD_eq_getElem?_getD, List.getD_eq_getElem?_getD, ht1, ht2]; rfl)
          have hb1 : 0 ≤ (k : Int) ∧ (k : Int) < (n : Int) := by omega
          have hb2 : 0 ≤ (k : Int) + 1 ∧ (k : Int) + 1 < (n : Int) := by omega
          have hw4 : ((k : Int) + 1).toNat = k + 1 := by omega
          have hw1 : IntKind.i64.wrap ((k : Int) + 1) = (k : Int) + 1 := IntWalk.i64_in _ (by omega)
          have hw2 : IntKind.i64.wrap (k : Int) = (k : Int) := IntWalk.i64_in _ (by omega)
          have hw3 : (k : Int) + 1 - 1 = (k : Int) := by omega
          clear ht1 ht2 hc1 hc2
          go_wp2
          go_region_held3 (fun w' => w'.cell? ⟨b, off + k, none⟩ = some (.int .i64 t1) ∧ w'.cell? ⟨b, off + (k + 1), none⟩ = some (.int .i64 t2)) (go_keep) ((go_at_call 42; refine (dir_any _ t1 t2 wd hl1 hl2 hw.1).mono ?_; rintro r w5 ⟨rfl, hs5⟩; rw [← HD.out]; have S5 := hid (hs5.after' ((Chg.refl wr).drew)); have m1 := S5.out.keep k1; have m2 := S5.out.keep k2; clear hs5))
          all_goals
            have X5 := hid (X.out.go S5.out)
            clear k1 k2 kl X m1 m2 hw1 hw2 hw3 hw4 hb1 hb2
            obtain ⟨d, hd⟩ : ∃ d, d = dirAt wd ns k := ⟨_, rfl⟩
            have HDD := hid hd
            rw [← hd]
            clear hd
            by_cases hd1 : d = -1
            · have hE := X5.out.same.keep HE.out
              have HF := hid (dirsF_none (wd := wd) (ns := ns) (k := k) (by rw [← HDD.out]; exact hd1) (by have := HN.out; omega))
              rw [hd1]
              clear hd1
              go_wp2
              go_quiet (fail)
              go_wp2
              go_ret2
              rw [HF.out]
              exact ⟨rfl, X5.out.same.drewN _⟩
            · have hd2 : (d == -1) = false := by simpa using hd1
              have HG2 := hid (goodTo_succ HG.out (by rw [← HDD.out]; exact hd1))
              have XD := hid (X5.out.alloc #[.int .i64 d] 3)
              clear hd1
              go_wp2_with (at_builtin; refine wpList_app rfl (.tmp 52) (.tmp 54) 24 rfl 3 i0 (.int .i64 0) 1 8 Tryd.underlying24 hi0 hz0 hz1 hz2 rfl (by decide) _ k ((dirsTo wd ns k).map (Value.int .i64)) rfl (XD.out.row 1 rfl).1 (some ⟨w5.heap.size, 0, none⟩) 1 1 [.int .i64 d] rfl (reads_blk (XD.out.blk 0 rfl).1 1 1 1 rfl) (by simp [Value.oneCell']) (by omega) (by omega) ?_; intro a7 c7 w7 ho7 hg7 hn7; have X7 := hid (XD.out.grown 1 rfl ho7 hg7 hn7).drop; clear ho7 hg7 hn7)
              go_roundw
              case rel => exact ⟨k + 1, by omega, by go_num, HG2.out, .inr hkn, by rw [dirsTo_succ, List.map_append, ← HDD.out]; exact X7.out⟩
              case measure => simp [intOf]; omega
        · have HF := hid (dirsF_some HG.out (show k = ns.length - 1 by have := HN.out; omega))
          go_wp2
          go_ret2
          rw [HF.out]
          exact ⟨_, rfl, by rw [dirsTo_len]; exact X.out⟩
end Go.Proofs.YtbhmpbgoanmdlaaDoor.Route
