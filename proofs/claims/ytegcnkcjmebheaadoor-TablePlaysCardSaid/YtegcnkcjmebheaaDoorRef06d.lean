/-
  paddockref06: Row.
-/
import Derived.Test.YtegcnkcjmebheaaDoorRef06c
import Derived.Test.YtegcnkcjmebheaaDoorTabAdd
namespace Go.Proofs.YtegcnkcjmebheaaDoor.Tab
open Go Go.RowKit Go.Proofs.YtegcnkcjmebheaaDoor.Mask
/-- A row's components in the order of their kinds, as far as kind j. -/
def sortTo (vs : List Vl) (j : Nat) : List Vl := (List.range j).flatMap (fun k => rowOf vs k)
theorem sortTo_succ (vs : List Vl) (j : Nat) : sortTo vs (j + 1) = sortTo vs j ++ rowOf vs j := by simp [sortTo, List.range_succ]
theorem sortTo_le (vs : List Vl) : ∀ j, (sortTo vs j).length ≤ j * vs.length
  | 0 => by simp [sortTo]
  | j + 1 => by
    rw [sortTo_succ, List.length_append]
    have h1 := sortTo_le vs j
    have h2 : (rowOf vs j).length ≤ vs.length := List.length_filter_le _ _
    rw [Nat.succ_mul]
    omega
/-- What Row answers. -/
def RowA (vs : List Vl) (w w' : World) (r : Ending) : Prop :=
  ((∃ x ∈ vs, chkN x ≠ 0) ∧ ∃ e : Nat, e ≠ 0 ∧ e ≤ 10 ∧ r = .returned (.tuple #[.slice none 0 0, .int .i64 e]) ∧ Same w w') ∨
  ((∀ x ∈ vs, chkN x = 0) ∧ (∃ k, k < 10 ∧ 1 < (rowOf vs k).length) ∧ r = .returned (.tuple #[.slice none 0 0, .int .i64 4]) ∧ Same w w') ∨
  ((∀ x ∈ vs, chkN x = 0) ∧ (∀ k, k < 10 → (rowOf vs k).length ≤ 1) ∧ ∃ v', r = .returned (.tuple #[v', .int .i64 0]) ∧ Star w w' [Row 37 3 v' (sortTo vs 10).length ((sortTo vs 10).flatMap vc)])
section
variable {w : World}
set_option maxRecDepth 100000 in
set_option maxHeartbeats 16000000 in
theorem ref_row (v : Value) (vs : List Vl) (hr : Reads w v vs.length 3 (vs.flatMap vc)) (hn : vs.length ≤ 10000) :
    Calls Tryd.prog 43 #[v] w fun r w' => RowA vs w w' r := by
  obtain ⟨i0, hi0, hz0, hz1, hz2⟩ := info_parts (show (Tryd.prog.info? 37).map (fun i => (i.zero, i.size, i.bytes)) = some (some (.agg #[.int .i64 0, .int .i64 0, .int .i64 0]), 3, 24) by kernel_rfl)
  obtain ⟨a, c, rfl⟩ := hr.slice
  obtain ⟨n, hnn⟩ : ∃ n, n = vs.length := ⟨_, rfl⟩
  have HN := hid hnn
  rw [← hnn] at hr hn ⊢
  have HR := hid hr
  clear hr hnn
  have HC : Hid (∀ {w' : World}, Same w w' → ∀ (j : Nat) (x : Vl), vs[j]? = some x → ∃ b off cap, Value.slice a n c = .slice (some ⟨b, off, none⟩) n cap ∧ b < w'.heap.size ∧ w'.cell? ⟨b, off + j * 3, none⟩ = some (.int .i64 x.k) ∧ w'.cell? ⟨b, off + j * 3 + 1, none⟩ = some (.int .i64 x.a) ∧ w'.cell? ⟨b, off + j * 3 + 2, none⟩ = some (.int .i64 x.b)) := hid (fun hs j x hx => by
    have hj := (List.getElem?_eq_some_iff.1 hx).1
    obtain ⟨b, off, cap, e1, hb, hcl⟩ := HR.out.open (by have := HN.out; omega)
    have g0 := hs.keep (hcl (j * 3 + 0) _ ((rows_get vc vc_len vs j 0 x hx (by omega)).trans rfl))
    have g1 := hs.keep (hcl (j * 3 + 1) _ ((rows_get vc vc_len vs j 1 x hx (by omega)).trans rfl))
    have g2 := hs.keep (hcl (j * 3 + 2) _ ((rows_get vc vc_len vs j 2 x hx (by omega)).trans rfl))
    rw [Nat.add_zero] at g0
    rw [← Nat.add_assoc] at g1 g2
    exact ⟨b, off, cap, e1, Nat.lt_of_lt_of_le hb hs.size, g0, g1, g2⟩)
  go_enter Tryd.func43, Tryd.ntmps43
  go_wp2_with fail
  go_loopw [14] (fun iv wr => ∃ j : Nat, j ≤ n ∧ iv = .int .i64 j ∧ (∀ x ∈ vs.take j, chkN x = 0) ∧ Same w wr) (fun iv _ => n - (intOf iv).toNat)
  case atStart => exact ⟨0, by omega, rfl, by simp, Chg.refl _⟩
  case round =>
    obtain ⟨j, hj, rfl, hall, hs⟩ := hrel
    rename World => wz
    have S := hid hs
    have HA := hid hall
    clear hs hall
    by_cases hjn : j < n
    · obtain ⟨x, hx⟩ : ∃ x, vs[j]? = some x := ⟨_, List.getElem?_eq_getElem (by have := HN.out; omega)⟩
      obtain ⟨b, off, cap, e1, gl, g0, g1, g2⟩ := HC.out S.out j x hx
      cases e1
      have HX := hid hx
      obtain ⟨vk, va, vb⟩ := x
      dsimp only at g0 g1 g2
      have S1 := hid (S.out.alloc (.cells #[.int .i64 vk, .int .i64 va, .int .i64 vb] 37))
      clear hx
      go_wp2_with fail
      refine (ref_check ⟨vk, va, vb⟩ _).mono ?_
      rintro r w5 ⟨rfl, hs5⟩
      have S5 := hid (S1.out.trans hs5 (fun _ _ f => f))
      obtain ⟨q, hq⟩ : ∃ q, q = chkN ⟨vk, va, vb⟩ := ⟨_, rfl⟩
      rw [← hq]
      have HQ := hid hq
      have hq10 : q ≤ 10 := by rcases chk_cases ⟨vk, va, vb⟩ with h | h | h <;> omega
      clear hs5 hq g0 g1 g2 gl
      by_cases h0 : q = 0
      · subst h0
        go_wp2_with fail
        go_roundw
        case rel => exact ⟨j + 1, by omega, by go_num, fun y hy => by
          obtain ⟨h1, h2⟩ := List.getElem?_eq_some_iff.1 HX.out
          rw [List.take_succ_eq_append_getElem h1, h2, List.mem_append, List.mem_singleton] at hy
          rcases hy with hy | rfl
          · exact HA.out y hy
          · exact HQ.out.symm, S5.out⟩
        case measure => simp [intOf]; omega
      · have hne : ((q : Int) != 0) = true := by simp; omega
        have H0 := hid h0
        clear h0
        go_wp2
        go_ret2
        exact .inl ⟨⟨_, List.mem_of_getElem? HX.out, fun e => H0.out (HQ.out.trans e)⟩, q, H0.out, hq10, rfl, S5.out⟩
    · have HALL := hid (show ∀ x ∈ vs, chkN x = 0 from fun x hx => HA.out x (by rw [List.take_of_length_le (by have := HN.out; omega)]; exact hx))
      have X0 := hid (((Star.new w).go S.out).add (w' := wz.alloc (.cells #[] 37)) ((Chg.refl _).alloc _) (R := Row 37 3 (.slice (some ⟨wz.heap.size, 0, none⟩) 0 0) 0 (([] : List Vl).flatMap vc)) ⟨World.ownsRow_lit wz #[] 0 (Nat.zero_le _) (by unfold maxLen; omega) rfl, rfl⟩ (fun k h => by simp [Value.ownBlock] at h; omega))
      clear HA
      go_wp2_with fail
      go_loopw [7, 8] (fun lv kv wr => ∃ (k : Nat) (out : List Vl), k ≤ 10 ∧ kv = .int .i64 k ∧ out = sortTo vs k ∧ (∀ i, i < k → (rowOf vs i).length ≤ 1) ∧ Star w wr [Row 37 3 lv out.length (out.flatMap vc)]) (fun _ kv _ => 10 - (intOf kv).toNat)
      case atStart => exact ⟨0, [], by omega, rfl, rfl, fun i h => by omega, X0.out⟩
      case round =>
        obtain ⟨k, out, hk, rfl, hout, hone, hX⟩ := hrel
        rename World => wy
        obtain ⟨sa, sc, rfl, -⟩ := own_slice (hX.row 0 rfl).1
        have X1 := hid hX
        have HO := hid hout
        have H1 := hid hone
        clear hX X0 hout hone
        by_cases hk10 : k < 10
        · go_wp2_with fail
          go_loopw [7, 9, 31] (fun lv mv iv wr => ∃ (j q : Nat) (o2 : List Vl), j ≤ n ∧ iv = .int .i64 j ∧ mv = .int .i64 q ∧ q = (rowOf (vs.take j) k).length ∧ q ≤ j ∧ o2 = out ++ rowOf (vs.take j) k ∧ Star w wr [Row 37 3 lv o2.length (o2.flatMap vc)]) (fun _ _ iv _ => n - (intOf iv).toNat)
          case atStart => exact ⟨0, 0, out, by omega, rfl, rfl, rfl, by omega, by simp [rowOf], X1.out⟩
          case round =>
            obtain ⟨j, q, o2, hj, rfl, rfl, hq, hqj, ho2, hX⟩ := hrel
            rename World => wx
            obtain ⟨sb, sd, rfl, -⟩ := own_slice (hX.row 0 rfl).1
            have X2 := hid hX
            have HQ := hid hq
            have HO2 := hid ho2
            clear hX X1 hq ho2
            by_cases hjn : j < n
            · obtain ⟨x, hx⟩ : ∃ x, vs[j]? = some x := ⟨_, List.getElem?_eq_getElem (by have := HN.out; omega)⟩
              obtain ⟨b, off, cap, e1, gl, g0, g1, g2⟩ := HC.out X2.out.same j x hx
              cases e1
              have HTK := hid (show rowOf (vs.take (j + 1)) k = if x.k = (k : Int) then rowOf (vs.take j) k ++ [x] else rowOf (vs.take j) k from by
                obtain ⟨h1, h2⟩ := List.getElem?_eq_some_iff.1 hx
                rw [List.take_succ_eq_append_getElem h1, h2, rowOf_snoc])
              obtain ⟨vk, va, vb⟩ := x
              dsimp only at g0 g1 g2
              have hol : o2.length ≤ 10 * 10000 + 10000 := by
                have h1 := sortTo_le vs k
                have h2 := HN.out
                rw [HO2.out, List.length_append, HO.out, ← HQ.out]
                have h3 : k * vs.length ≤ 10 * 10000 := Nat.mul_le_mul (by omega) (by omega)
                omega
              obtain ⟨ol, hol2⟩ : ∃ ol, ol = o2.length := ⟨_, rfl⟩
              have HOL := hid hol2
              rw [← hol2] at X2 hol ⊢
              clear hx hol2
              by_cases e : vk = (k : Int)
              · have HT2 := hid (HTK.out.trans (if_pos e))
                subst e
                have h6 := (X2.out.alloc #[.int .i64 k, .int .i64 va, .int .i64 vb] 37).alloc #[.int .i64 k, .int .i64 va, .int .i64 vb] 37
                rw [show (wx.alloc (.cells #[.int .i64 k, .int .i64 va, .int .i64 vb] 37)).heap.size = wx.heap.size + 1 from by simp] at h6
                have R6 := hid (reads_blk (h6.blk 0 rfl).1 1 1 3 rfl)
                have Y6 := hid h6
                clear h6 HTK X2
                go_wp2_with (at_builtin; refine wpList_app rfl (.tmp 39) (.tmp 41) 38 rfl 37 i0 (.agg #[.int .i64 0, .int .i64 0, .int .i64 0]) 3 24 Tryd.underlying38 hi0 hz0 hz1 hz2 rfl (by decide) _ ol (o2.flatMap vc) rfl (Y6.out.row 2 rfl).1 (some ⟨wx.heap.size + 1, 0, none⟩) 1 1 [.int .i64 k, .int .i64 va, .int .i64 vb] rfl R6.out (vc_one ⟨k, va, vb⟩) (by omega) (by omega) ?_; intro a' c' w' ho hg hn'; have Y7 := hid ((Y6.out.grown 2 rfl ho hg hn').drop.drop); clear ho hg hn' Y6 R6)
                go_roundw
                case rel =>
                  have hl : out.length + (rowOf (vs.take (j + 1)) k).length = ol + 1 := by
                    rw [HT2.out, List.length_append, HOL.out, HO2.out, List.length_append]
                    rfl
                  have hf : out.flatMap vc ++ (rowOf (vs.take (j + 1)) k).flatMap vc = o2.flatMap vc ++ [.int .i64 k, .int .i64 va, .int .i64 vb] := by
                    rw [HT2.out, HO2.out, List.flatMap_append, List.flatMap_append, List.append_assoc]
                    rfl
                  have h3 : q + 1 = (rowOf (vs.take (j + 1)) k).length := by rw [HT2.out, List.length_append, ← HQ.out]; rfl
                  exact ⟨.slice a' (ol + 1) c', .int .i64 ((q : Int) + 1), _, .int .i64 ((j : Int) + 1), ⟨j + 1, by omega, by go_num, q + 1, by go_num, h3, by omega, by rw [hl, hf]; exact Y7.out⟩, rfl, rfl, rfl, rfl⟩
                case measure => simp [intOf]; omega
              · have HT2 := hid (HTK.out.trans (if_neg e))
                have hne : (vk == (k : Int)) = false := by simpa using e
                have X3 := hid (X2.out.alloc #[.int .i64 vk, .int .i64 va, .int .i64 vb] 37).drop
                clear X2 HTK e
                go_wp2_with fail
                go_roundw
                case rel => exact ⟨j + 1, q, o2, by omega, by go_num, rfl, by rw [HT2.out]; exact HQ.out, by omega, by rw [HT2.out]; exact HO2.out, by rw [← HOL.out]; exact X3.out⟩
                case measure => simp [intOf]; omega
            · have hq2 : q = (rowOf vs k).length := by have h := HQ.out; rw [List.take_of_length_le (by have := HN.out; omega)] at h; exact h
              have ho3 : o2 = sortTo vs (k + 1) := by have h := HO2.out; rw [List.take_of_length_le (by have := HN.out; omega)] at h; rw [h, sortTo_succ, HO.out]
              have HQ2 := hid hq2
              have HO3 := hid ho3
              clear hq2 ho3
              by_cases h1 : 1 < q
              · go_wp2
                go_ret2
                exact .inr (.inl ⟨HALL.out, ⟨k, hk10, by rw [← HQ2.out]; exact h1⟩, rfl, X2.out.same⟩)
              · go_wp2_with fail
                go_roundw
                case rel => exact ⟨k + 1, o2, by omega, by go_num, HO3.out, fun i hi => by
                  by_cases e : i = k
                  · subst e; rw [← HQ2.out]; omega
                  · exact H1.out i (by omega), X2.out⟩
                case measure => simp [intOf]; omega
        · obtain rfl : k = 10 := by omega
          go_wp2
          go_ret2
          exact .inr (.inr ⟨HALL.out, H1.out, .slice sa out.length sc, rfl, by rw [← HO.out]; exact X1.out⟩)
end
end Go.Proofs.YtegcnkcjmebheaaDoor.Tab
