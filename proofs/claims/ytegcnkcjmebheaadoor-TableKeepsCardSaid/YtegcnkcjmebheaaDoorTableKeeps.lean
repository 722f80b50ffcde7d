/-
  TableKeeps: the walk.
-/
import Derived.Test.YtegcnkcjmebheaaDoorAlive07
import Derived.Test.YtegcnkcjmebheaaDoorRowSame
namespace Go.Proofs.YtegcnkcjmebheaaDoor.TableKeeps
open Go Go.RowKit Go.Maps Go.Proofs.YtegcnkcjmebheaaDoor.Mask Go.Proofs.YtegcnkcjmebheaaDoor.Tab
theorem bits65 : bitsOf 65 = [0, 6] := by decide +kernel
/-- The row of the entity j. -/
def vsOf (j : Nat) : List Vl := [⟨0, j, 0⟩, ⟨6, -j, j⟩]
def val (j k : Nat) : Vl := if k = 0 then ⟨0, j, 0⟩ else ⟨6, -j, j⟩
abbrev hOf (hs : List Nat) : List Hd := hs.map fun j : Nat => (((j : Int), (1 : Int)) : Hd)
abbrev xOf (hs : List Nat) : Nat → List Vl := fun k => hs.map fun j => val j k
theorem takes65 (j : Nat) (hj : j ≤ 128) : Takes 65 (vsOf j) := by
  refine ⟨⟨fun i v hi hv => ?_, fun i u v hi hu hv => ?_⟩, ?_⟩
  · rcases (show i = 0 ∨ i = 1 by simp [vsOf] at hi; omega) with rfl | rfl
    · cases hv
      simp [chkN, okKind, inS, spanA, spanB]; omega
    · cases hv
      simp [chkN, okKind, inS, spanA, spanB]; omega
  · obtain rfl : i = 0 := by simp [vsOf] at hi; omega
    cases hu
    cases hv
    show (0 : Int) < 6
    decide
  · show Mask.maskOf [0, 6] = 65
    decide +kernel
theorem rowOf_vs (j k : Nat) (hk : k = 0 ∨ k = 6) : rowOf (vsOf j) k = [val j k] := by
  rcases hk with rfl | rfl
  · rfl
  · rfl
/-- What is left, as a map. -/
def leftOf (hs : List Nat) : Lit → Option Bool
  | .int .i64 k => if 0 ≤ k ∧ k.toNat ∈ hs then some true else none
  | _ => none
theorem leftOf_nat (hs : List Nat) (k : Nat) : leftOf hs (.int .i64 (k : Int)) = if k ∈ hs then some true else none := by simp [leftOf]
theorem leftOf_put (hs : List Nat) (k : Nat) (kl : Lit) : updO (leftOf hs) (.int .i64 (k : Int)) (some true) kl = leftOf (hs ++ [k]) kl := by
  by_cases e : kl = .int .i64 (k : Int)
  · subst e
    rw [updO_same, leftOf_nat]
    simp
  · rw [updO_other _ _ e]
    unfold leftOf
    split
    · rename_i j
      have : ¬ (0 ≤ j ∧ j.toNat = k) := fun h => e (by simp only [Lit.int.injEq, true_and]; omega)
      by_cases h0 : 0 ≤ j
      · have h1 : j.toNat ≠ k := fun h => this ⟨h0, h⟩
        simp [h0, h1]
      · simp [h0]
    · rfl
theorem takeOut_perm {α : Type} {xs : List α} {i : Nat} {j : α} (hi : xs[i]? = some j) : xs.Perm (j :: takeOut xs i) := by
  rcases List.eq_nil_or_concat xs with rfl | ⟨l, y, rfl⟩
  · simp at hi
  · rw [List.concat_eq_append] at hi ⊢
    have hlen := (List.getElem?_eq_some_iff.1 hi).1
    have e : takeOut (l ++ [y]) i = ((l ++ [y]).set i y).dropLast := by
      unfold takeOut
      simp
    rw [e]
    have hle : i ≤ l.length := by simp at hlen; omega
    rcases Nat.lt_or_ge i l.length with h | h
    · rw [List.set_append_left _ _ h, List.dropLast_concat]
      rw [List.getElem?_append_left h] at hi
      refine (List.perm_append_comm).trans ?_
      refine ((perm_first hi).cons y).trans ?_
      refine (List.Perm.swap _ _ _).trans ?_
      exact (perm_back h).cons j
    · obtain rfl : i = l.length := by omega
      have hj : y = j := by simpa using hi
      subst hj
      rw [List.set_append_right _ _ (Nat.le_refl _), Nat.sub_self, List.set_cons_zero, List.dropLast_concat]
      exact List.perm_append_comm
theorem takeOut_nodup {hs : List Nat} (hn : hs.Nodup) {i j : Nat} (hi : hs[i]? = some j) : (takeOut hs i).Nodup :=
  (List.nodup_cons.1 ((takeOut_perm hi).nodup_iff.1 hn)).2
theorem mem_takeOut {hs : List Nat} (hn : hs.Nodup) {i j : Nat} (hi : hs[i]? = some j) (x : Nat) : x ∈ takeOut hs i ↔ x ∈ hs ∧ x ≠ j := by
  have hp := takeOut_perm hi
  have h1 := (List.nodup_cons.1 (hp.nodup_iff.1 hn)).1
  rw [hp.mem_iff, List.mem_cons]
  constructor
  · intro h
    exact ⟨.inr h, fun e => h1 (e ▸ h)⟩
  · rintro ⟨h | h, h2⟩
    · exact absurd h h2
    · exact h
theorem leftOf_cut {hs : List Nat} (hn : hs.Nodup) {i j : Nat} (hi : hs[i]? = some j) (kl : Lit) : updO (leftOf hs) (.int .i64 (j : Int)) none kl = leftOf (takeOut hs i) kl := by
  by_cases e : kl = .int .i64 (j : Int)
  · subst e
    rw [updO_same, leftOf_nat, if_neg]
    intro h
    exact ((mem_takeOut hn hi j).1 h).2 rfl
  · rw [updO_other _ _ e]
    unfold leftOf
    split
    · rename_i k
      by_cases h0 : 0 ≤ k
      · have h1 : k.toNat ≠ j := fun h => e (by simp only [Lit.int.injEq, true_and]; omega)
        simp [h0, mem_takeOut hn hi, h1]
      · simp [h0]
    · rfl
theorem zeroB (w : World) : (zeroValue 4).run Tryd.prog w = .ok (.bool false) w := by kernel_rfl
section
variable {w0 w : World} {L : List Res} {t : Pl} {m : Nat} {kv : Value} {H : List Hd} {X X' : Nat → List Vl}
theorem tabL_congr (hT : TOk t [0, 6]) (h : ∀ k, k = 0 ∨ k = 6 → X k = X' k) : tabL t m kv H X L = tabL t m kv H X' L := by
  unfold tabL
  rw [colS_congr (X' := X') (fun k c hk hc => h k (by
    have := (hT k).1 (by rw [hc]; rfl)
    simpa using this))]
end
set_option maxRecDepth 100000 in
set_option maxHeartbeats 16000000 in
theorem walk (x : Int) (gv : Value) (gs : List Int) (w : World) (hr : Ints w gv gs) (hbg : gs.length ≤ 9223372036854775807) (ad : Nat → Addr) (hE : Err.ErrsT w ad) (hT : Mask.Tab w) :
    Calls Tryd.prog 3 #[.int .i64 x, gv] w fun r w' => r = .returned (.bool true) ∧ Same w w' := by
  obtain ⟨mm, hm, hmod0⟩ := mod_small x 129 (by omega) (by omega)
  have hmod : wrap64 ((IntKind.u64.wrap x).tmod 129) = (mm : Int) := hmod0
  obtain ⟨a, cb, rfl⟩ := hr.slice
  have HE := hid hE
  have HT := hid hT
  obtain ⟨n, hn⟩ : ∃ n, n = gs.length := ⟨_, rfl⟩
  have HN := hid hn
  have HB : Hid (∀ (j : Nat) (t : Int), gs[j]? = some t → ∃ b off cap, Value.slice a n cb = .slice (some ⟨b, off, none⟩) n cap ∧ w.cell? ⟨b, off + j, none⟩ = some (.int .i64 t)) := hid (fun j t ht => by
    obtain ⟨hj, e2⟩ := (List.getElem?_eq_some_iff.1 ht)
    obtain ⟨b, off, cap, e, _, hc⟩ := hr.cells (by omega)
    rw [← hn] at e
    exact ⟨b, off, cap, e, by rw [← e2]; exact hc j hj⟩)
  rw [← hn] at hbg ⊢
  have hmm := @run_makeMap Tryd.prog
  clear hE hT hmod0 hr hn
  go_enter Tryd.func3, Tryd.ntmps3
  go_wp2_with fail
  refine (alive_any ad HE.out HT.out).mono ?_
  rintro r w1 ⟨rfl, hs1⟩
  have S1 := hid hs1
  clear hs1
  by_cases h130 : 130 < n
  · go_wp2_with fail
    go_ret
    exact ⟨rfl, S1.out⟩
  · go_wp2_with fail
    refine (new_any ((Star.new w).go S1.out) 65 (by omega) HT.out).mono ?_
    rintro r w2 ⟨t, kv, hok, rfl, hX⟩
    rw [bits65] at hX hok
    have HOK := hid hok
    have X2 := hid hX
    have hc0 := (hok 0).2 (by simp)
    have hc6 := (hok 6).2 (by simp)
    obtain ⟨c0, hc0⟩ := Option.isSome_iff_exists.1 hc0
    obtain ⟨c6, hc6⟩ := Option.isSome_iff_exists.1 hc6
    have HCC : Hid (∀ j : Nat, ∀ x ∈ vsOf j, ∃ (k c : Nat), x.k = (k : Int) ∧ k < 10 ∧ t.cols k = some c) := hid (fun j x hx => by
      simp only [vsOf, List.mem_cons, List.not_mem_nil, or_false] at hx
      rcases hx with rfl | rfl
      · exact ⟨0, c0, rfl, by omega, hc0⟩
      · exact ⟨6, c6, rfl, by omega, hc6⟩)
    have HONE : Hid (∀ i j k : Nat, ∀ x : Vl, (vsOf i)[j]? = some x → x.k = ((k : Nat) : Int) → rowOf ((vsOf i).take j) k = []) := hid (fun i j k x hx hxk => by
      have hj := (List.getElem?_eq_some_iff.1 hx).1
      rcases (show j = 0 ∨ j = 1 by simp [vsOf] at hj; omega) with rfl | rfl
      · rfl
      · cases hx
        have : k = 6 := by simp only at hxk; omega
        subst this
        rfl)
    clear hX hok hc0 hc6
    go_wp2_with fail
    go_loopw [40] (fun iv wr => ∃ i : Nat, i ≤ mm ∧ iv = .int .i64 i ∧ Star w wr (tabL t 65 kv (hOf (List.range i)) (xOf (List.range i)) [natRow kv [0, 6]])) (fun iv _ => mm - (intOf iv).toNat)
    case atStart => exact ⟨0, by omega, rfl, by
      have h1 : xOf (List.range 0) = fun _ => [] := by funext k; simp [xOf]
      have h2 : hOf (List.range 0) = [] := by simp [hOf]
      rw [h1, h2]
      exact X2.out⟩
    case round =>
      obtain ⟨i, hi, rfl, hX⟩ := hrel
      rename World => wz
      have X3 := hid hX
      clear hX X2
      by_cases him : i < mm
      · have X4 := hid (X3.out.alloc #[.int .i64 0, .int .i64 i, .int .i64 0, .int .i64 6, .int .i64 (-(i : Int)), .int .i64 i] 37)
        go_wp2_with fail
        refine (add_ok X4.out ((i : Int), 1) _ (vsOf i) (fun h => reads_blk (h.blk 0 rfl).1 2 2 3 rfl) (show (2 : Nat) ≤ 1000000 by decide) ad HE.out (takes65 i (by omega)) (by simp; omega) (HCC.out i) (fun k => by simp; omega) (HONE.out i)).mono ?_
        rintro r w5 ⟨rfl, hX⟩
        rw [show (hOf (List.range i)).length = i by simp]
        have X5 : Hid (Star w w5 (tabL t 65 kv (hOf (List.range (i + 1))) (xOf (List.range (i + 1))) [natRow kv [0, 6]])) := hid (by
          have h := hX.drop
          rw [tabL_congr HOK.out (X' := xOf (List.range (i + 1))) (fun k hk => by rw [rowOf_vs i k hk]; simp only [xOf, List.range_succ, List.map_append, List.map_cons, List.map_nil])] at h
          simpa only [hOf, List.range_succ, List.map_append, List.map_cons, List.map_nil] using h)
        clear hX X4 X3
        go_wp2_with fail
        go_roundw
        case rel => exact ⟨i + 1, by omega, by go_num, X5.out⟩
        case measure => simp [intOf]; omega
      · obtain rfl : i = mm := by omega
        have X4 := hid (tabSwap (tabIn (X3.out.mapNew Tryd.prog 3 boolE)))
        clear X3
        go_wp2_with fail
        have X5 : Hid (Star w (wz.alloc (.map #[] 0)) (tabL t 65 kv (hOf (List.range i)) (xOf (List.range i)) [natRow kv [0, 6], MapR Tryd.prog 3 boolE wz.heap.size 0 (leftOf [])])) := hid (X4.out.set 14 rfl (fun F h => ⟨h.1.congr (fun kl => by
          unfold leftOf
          split
          · simp
          · rfl), h.2⟩))
        clear X4
        generalize wz.alloc _ = w5 at *
        generalize wz.heap.size = mb at *
        go_loopw [67] (fun iv wr => ∃ j : Nat, j ≤ i ∧ iv = .int .i64 j ∧ Star w wr (tabL t 65 kv (hOf (List.range i)) (xOf (List.range i)) [natRow kv [0, 6], MapR Tryd.prog 3 boolE mb j (leftOf (List.range j))])) (fun iv _ => i - (intOf iv).toNat)
        case atStart => exact ⟨0, by omega, rfl, X5.out⟩
        case round =>
          obtain ⟨j, hj, rfl, hX⟩ := hrel
          rename World => wy
          have X6 := hid hX
          clear hX X5
          by_cases hji : j < i
          · have KY := hid (keyI j (by omega) (by omega))
            have HNO := hid (show (leftOf (List.range j) (.int .i64 (j : Int))).isSome = false by rw [leftOf_nat, if_neg (by simp)]; rfl)
            go_wp2_with (at_mapUpdate; refine wpList_storeO rfl _ _ _ rfl keyed Tryd.underlying39 rfl (X6.out.map 14 rfl).1 (by omega) (.int .i64 (j : Int)) (.int .i64 (j : Int)) true rfl rfl KY.out ?_; intro w7 n7 hn7 hM7 hC7; have X7 := hid (X6.out.mapSet 14 rfl hM7 hC7); have HN7 := hid hn7; clear hM7 hC7 hn7 X6)
            go_roundw
            case rel => exact ⟨j + 1, by omega, by go_num, by
              have h := X7.out.set 14 rfl (R' := MapR Tryd.prog 3 boolE mb (j + 1) (leftOf (List.range (j + 1)))) (fun F h => ⟨by
                have h3 := h.1.congr (leftOf_put (List.range j) j)
                rw [HN7.out, HNO.out, ← List.range_succ] at h3
                exact h3, h.2⟩)
              exact h⟩
            case measure => simp [intOf]; omega
          · obtain rfl : j = i := by omega
            go_wp2_with fail
            have hnd : (List.range j).Nodup := List.nodup_range
            go_loopw [75] (fun iv wr => ∃ (q : Nat) (hs : List Nat), q ≤ n ∧ iv = .int .i64 q ∧ hs.Nodup ∧ (∀ y ∈ hs, y < 129) ∧ hs.length ≤ 128 ∧ Star w wr (tabL t 65 kv (hOf hs) (xOf hs) [natRow kv [0, 6], MapR Tryd.prog 3 boolE mb hs.length (leftOf hs)])) (fun iv _ => n - (intOf iv).toNat)
            case atStart => exact ⟨0, List.range j, by omega, rfl, hnd, fun y hy => by have := List.mem_range.1 hy; omega, by simp; omega, by rw [List.length_range]; exact X6.out⟩
            case round =>
              obtain ⟨q, hs, hq, rfl, hnd, hkb, hhs, hX⟩ := hrel
              rename World => wv
              have X7 := hid hX
              have HND := hid hnd
              have HKB := hid hkb
              have hbk := (hX.blk 0 rfl).1
              have b0 := cell_of hbk 0
              have bl := lt_of hbk
              simp only [List.getElem?_toArray, List.getElem?_cons_zero, List.getElem?_cons_succ] at b0
              have CX := hid (X7.out.pull 1 rfl)
              have hhl : (hOf hs).length = hs.length := by simp
              obtain ⟨ln, hln⟩ : ∃ ln, ln = hs.length := ⟨_, rfl⟩
              have HLN := hid hln
              rw [← hln] at hhl hhs
              have HHL := hid hhl
              clear hX hnd hkb hbk X6 hhl hln
              by_cases hqn : q < n
              · obtain ⟨u, hu⟩ : ∃ u, gs[q]? = some u := ⟨_, List.getElem?_eq_getElem (by have := HN.out; omega)⟩
                obtain ⟨b, off, cap, e1, hc⟩ := HB.out q u hu
                cases e1
                have hc1 := X7.out.same.keep hc
                have hbl := World.block_lt_of_cell? _ _ hc1
                clear hc hu
                by_cases hl0 : ln = 0
                · subst hl0
                  go_wp2_with fail
                  refine (CH.len_any CX.out).mono ?_
                  rintro r w' ⟨rfl, rfl⟩
                  rw [HHL.out]
                  go_wp2_with fail
                  have hlen : ∀ ty, (Builtin.len_ #[39] ty #[.map (some mb)]).run Tryd.prog wv = .ok (.int .i64 0) wv := fun ty => by
                    have h := (X7.out.map 14 rfl).1.len Tryd.underlying39 ty
                    rw [← HLN.out] at h
                    exact h
                  refine (CH.len_any CX.out).mono ?_
                  rintro r w' ⟨rfl, rfl⟩
                  rw [HHL.out]
                  go_wp2_with fail
                  refine (CH.len_any CX.out).mono ?_
                  rintro r w' ⟨rfl, rfl⟩
                  rw [HHL.out]
                  clear hlen
                  go_wp2_with fail
                  go_loopw [128] (fun iv wr => ∃ i : Nat, i ≤ 0 ∧ iv = .int .i64 i ∧ Star w wr (tabL t 65 kv (hOf hs) (xOf hs) [natRow kv [0, 6], MapR Tryd.prog 3 boolE mb 0 (leftOf hs)])) (fun iv _ => 0 - (intOf iv).toNat)
                  case atStart => exact ⟨0, by omega, rfl, by have h := X7.out; rw [← HLN.out] at h; exact h⟩
                  case round =>
                    obtain ⟨i, hi, rfl, hX⟩ := hrel
                    rename World => wu
                    have X8 := hid hX
                    clear hX X7 CX b0 bl
                    by_cases hil : i < 0
                    · exact absurd hil (by omega)
                    · go_wp2
                      go_ret
                      exact ⟨rfl, X8.out.same⟩
                · have hln0 : ((ln : Int) == 0) = false := by simp; omega
                  have hwu : IntKind.u64.wrap (ln : Int) = (ln : Int) := by simp only [IntKind.wrap, IntKind.bits, IntKind.signed]; simp; omega
                  obtain ⟨idx, hidx, hmd⟩ := mod_small u ln (by omega) (by omega)
                  obtain ⟨jj, hjj⟩ : ∃ jj, hs[idx]? = some jj := ⟨_, List.getElem?_eq_getElem (by have := HLN.out; omega)⟩
                  have HJJ := hid hjj
                  go_wp2_with fail
                  refine (CH.len_any CX.out).mono ?_
                  rintro r w' ⟨rfl, rfl⟩
                  rw [HHL.out]
                  go_wp2_with fail
                  refine (CH.len_any CX.out).mono ?_
                  rintro r w' ⟨rfl, rfl⟩
                  rw [HHL.out]
                  clear hjj
                  have HH8 := hid (show (hOf hs).length ≤ 128 by rw [HHL.out]; omega)
                  go_wp2_with fail
                  refine (take_in X7.out HOK.out (by simp) (by decide) idx ((jj : Int), 1) (by simp [hOf, HJJ.out]) HH8.out (val jj) (fun kk _ => by simp [xOf, HJJ.out]) (fun kk => by have := HHL.out; simp only [xOf, List.length_map] at this ⊢; omega)).mono ?_
                  rintro r w9 ⟨v, rfl, hX⟩
                  obtain ⟨va, vcp, rfl, -⟩ := own_slice (hX.row 0 rfl).1
                  dsimp only [enC, List.map_cons, List.map_nil, List.length_cons, List.length_nil] at hX ⊢
                  have X9 : Hid (Star w (w9.alloc (.cells #[.int .i64 jj, .int .i64 1, .slice va (0 + 1 + 1) vcp] 46)) (Blk w9.heap.size #[.int .i64 jj, .int .i64 1, .slice va (0 + 1 + 1) vcp] 46 :: tabL t 65 kv (hOf (takeOut hs idx)) (xOf (takeOut hs idx)) [natRow kv [0, 6], MapR Tryd.prog 3 boolE mb hs.length (leftOf hs)])) := hid (by
                    have h := hX.drop
                    rw [show takeOut (hOf hs) idx = hOf (takeOut hs idx) from takeOut_map _ _ _, show (fun k => takeOut (xOf hs k) idx) = xOf (takeOut hs idx) from funext fun k => takeOut_map _ _ _] at h
                    exact h.alloc #[.int .i64 jj, .int .i64 1, .slice va (0 + 1 + 1) vcp] 46)
                  have KY := hid (keyI jj (by have := HKB.out jj (List.mem_of_getElem? HJJ.out); omega) (by have := HKB.out jj (List.mem_of_getElem? HJJ.out); omega))
                  have M := hid (X9.out.map 15 rfl).1
                  have HM := hid (show leftOf hs (.int .i64 (jj : Int)) = some true by rw [leftOf_nat, if_pos (List.mem_of_getElem? HJJ.out)])
                  clear hX X7 CX b0 bl
                  go_wp2_with (first
                    | (at_lookup; refine wpList_lookO_want (by rfl) _ _ rfl keyed Tryd.underlying39 (.bool false) zeroB rfl M.out (.int .i64 (jj : Int)) (.int .i64 (jj : Int)) ?_ KY.out (.bool true) ?_ ?_; rfl; (rw [HM.out]; rfl))
                    | (at_delete; refine wpList_delO rfl _ _ rfl keyed Tryd.underlying39 rfl M.out (.int .i64 (jj : Int)) (.int .i64 (jj : Int)) rfl KY.out ?_; intro w11 n11 hn11 hM11 hC11; have XA := hid (X9.out.mapSet 15 rfl hM11 hC11).drop; have HN11 := hid hn11; clear hM11 hC11 hn11 M))
                  go_roundw
                  case rel =>
                    refine ⟨q + 1, takeOut hs idx, by omega, by go_num, takeOut_nodup HND.out HJJ.out, fun y hy => HKB.out y ((mem_takeOut HND.out HJJ.out y).1 hy).1, by rw [takeOut_len, ← HLN.out]; omega, ?_⟩
                    exact XA.out.set 14 rfl (R' := MapR Tryd.prog 3 boolE mb (takeOut hs idx).length (leftOf (takeOut hs idx))) (fun F h => ⟨by
                      have h3 := h.1.congr (leftOf_cut HND.out HJJ.out)
                      rw [HN11.out, HM.out] at h3
                      rw [takeOut_len]
                      exact h3, h.2⟩)
                  case measure => simp [intOf]; omega
              · go_wp2_with fail
                have hlen : ∀ ty, (Builtin.len_ #[39] ty #[.map (some mb)]).run Tryd.prog wv = .ok (.int .i64 ln) wv := fun ty => by
                  have h := (X7.out.map 14 rfl).1.len Tryd.underlying39 ty
                  rw [← HLN.out] at h
                  exact h
                refine (CH.len_any CX.out).mono ?_
                rintro r w' ⟨rfl, rfl⟩
                rw [HHL.out]
                go_wp2_with fail
                refine (CH.len_any CX.out).mono ?_
                rintro r w' ⟨rfl, rfl⟩
                rw [HHL.out]
                clear hlen
                go_wp2_with fail
                go_loopw [128] (fun iv wr => ∃ i : Nat, i ≤ ln ∧ iv = .int .i64 i ∧ Star w wr (tabL t 65 kv (hOf hs) (xOf hs) [natRow kv [0, 6], MapR Tryd.prog 3 boolE mb ln (leftOf hs)])) (fun iv _ => ln - (intOf iv).toNat)
                case atStart => exact ⟨0, by omega, rfl, by have h := X7.out; rw [← HLN.out] at h; exact h⟩
                case round =>
                  obtain ⟨i, hi, rfl, hX⟩ := hrel
                  rename World => wu
                  have X8 := hid hX
                  clear hX X7 CX b0 bl
                  by_cases hil : i < ln
                  · obtain ⟨k, hk⟩ : ∃ k, hs[i]? = some k := ⟨_, List.getElem?_eq_getElem (by have := HLN.out; omega)⟩
                    have HK := hid hk
                    have HH8 := hid (show (hOf hs).length ≤ 128 by rw [HHL.out]; omega)
                    clear hk
                    go_wp2_with fail
                    refine (entity_in X8.out HOK.out (by simp) (by decide) i ((k : Int), 1) (by simp [hOf, HK.out]) HH8.out (val k) (fun kk _ => by simp [xOf, HK.out]) (fun kk => by have := HHL.out; simp only [xOf, List.length_map] at this ⊢; omega)).mono ?_
                    rintro r w9 ⟨v, rfl, hX⟩
                    obtain ⟨va, vcp, rfl, -⟩ := own_slice (hX.row 0 rfl).1
                    dsimp only [enC, List.map_cons, List.map_nil, List.length_cons, List.length_nil] at hX ⊢
                    have X9 : Hid (Star w (w9.alloc (.cells #[.int .i64 k, .int .i64 1, .slice va (0 + 1 + 1) vcp] 46)) (Blk w9.heap.size #[.int .i64 k, .int .i64 1, .slice va (0 + 1 + 1) vcp] 46 :: Row 37 3 (.slice va (0 + 1 + 1) vcp) (0 + 1 + 1) ((vsOf k).flatMap vc) :: tabL t 65 kv (hOf hs) (xOf hs) [natRow kv [0, 6], MapR Tryd.prog 3 boolE mb ln (leftOf hs)])) := hid (hX.alloc #[.int .i64 k, .int .i64 1, .slice va (0 + 1 + 1) vcp] 46)
                    clear hX X8
                    have hk129 := HKB.out k (List.mem_of_getElem? HK.out)
                    have hsz : (w9.alloc (.cells #[.int .i64 k, .int .i64 1, .slice va (0 + 1 + 1) vcp] 46)).heap.size = w9.heap.size + 1 := by simp
                    have hA := X9.out.alloc #[.int .i64 0, .int .i64 k, .int .i64 0, .int .i64 6, .int .i64 (-(k : Int)), .int .i64 k] 37
                    rw [hsz] at hA
                    have XA := hid hA
                    clear hA hsz
                    have R1 := hid (Reads.of_own (XA.out.row 2 rfl).1)
                    have R2 := hid (reads_blk (XA.out.blk 0 rfl).1 2 2 3 rfl)
                    have KY := hid (keyI k (by have := HKB.out k (List.mem_of_getElem? HK.out); omega) (by have := HKB.out k (List.mem_of_getElem? HK.out); omega))
                    have M := hid (X9.out.map 16 rfl).1
                    have HM := hid (show leftOf hs (.int .i64 (k : Int)) = some true by rw [leftOf_nat, if_pos (List.mem_of_getElem? HK.out)])
                    go_wp2_with (first
                      | (at_lookup; refine wpList_lookO_want (by rfl) _ _ rfl keyed Tryd.underlying39 (.bool false) zeroB rfl M.out (.int .i64 (k : Int)) (.int .i64 (k : Int)) ?_ KY.out (.bool true) ?_ ?_; rfl; (rw [HM.out]; rfl))
                      | (go_at_call 13; refine (sameRow _ _ (vsOf k) (vsOf k) _ R1.out R2.out (show (2 : Nat) ≤ 1000000 by decide) (show (2 : Nat) ≤ 1000000 by decide)).mono ?_; rintro r w12 ⟨hr12, hs12⟩; obtain rfl : r = .returned (.bool true) := hr12.trans (by simp); have XB := hid ((XA.out.go hs12).drop.drop.drop); clear hs12))
                    go_roundw
                    case rel => exact ⟨i + 1, by omega, by go_num, XB.out⟩
                    case measure => simp [intOf]; omega
                  · go_wp2
                    go_ret
                    exact ⟨rfl, X8.out.same⟩
end Go.Proofs.YtegcnkcjmebheaaDoor.TableKeeps
