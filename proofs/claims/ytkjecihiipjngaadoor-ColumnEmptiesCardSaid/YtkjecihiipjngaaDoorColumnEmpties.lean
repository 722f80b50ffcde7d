/-
  ColumnEmpties answers true, whatever it is handed: the walk.
-/
import Derived.Test.YtkjecihiipjngaaDoorLaw05
import Derived.Test.YtkjecihiipjngaaDoorErr
namespace Go.Proofs.YtkjecihiipjngaaDoor.ColumnEmpties
open Go Go.RowKit

theorem takeOut_last (l : List Int) (k : Nat) (hk : k < l.length) : takeOut ((l.take (k + 1)).map (Value.int .i64)) k = (l.take k).map (Value.int .i64) := by
  have e : ((l.take (k + 1)).map (Value.int .i64)).getLast? = some (.int .i64 l[k]) := by
    rw [List.map_take, List.getLast?_take]; simp [hk]
  unfold takeOut
  rw [e]
  simp only [List.dropLast_eq_take, List.length_set, List.length_map, List.length_take]
  rw [show min (k + 1) l.length - 1 = k from by omega, List.take_set_of_le (Nat.le_refl k), ← List.map_take, List.take_take, Nat.min_eq_left (by omega)]

set_option maxRecDepth 100000 in
theorem walk (vs : Value) (l : List Int) (w : World) (hs : Ints w vs l) (hl : l.length ≤ 17592186043904) (ad : Nat → Addr) (he : Err.Errs w ad) :
    Calls Tryd.prog 9 #[vs] w fun r w' => r = .returned (.bool true) ∧ Same w w' := by
  obtain ⟨a, c, rfl⟩ := hs.slice
  obtain ⟨n, hn⟩ : ∃ n, n = l.length := ⟨_, rfl⟩
  rw [← hn] at hl
  rw [← hn]
  have HN := hid hn
  have HS := hid hs
  have HE := hid he
  clear hs he hn
  go_enter Tryd.func9, Tryd.ntmps9
  go_wp2_with fail
  refine (Law05.alive _).mono ?_
  rintro r w1 ⟨rfl, hs1⟩
  have S1 := hid hs1
  clear hs1
  by_cases h100 : n ≤ 100
  · go_wp2_with fail
    refine (ColI.new_any _ _).mono ?_
    rintro r w2 ⟨rfl, hc2, hs2, hz2⟩
    rw [show max (n : Int) 0 = n from by omega] at hc2
    have S2 := hid (S1.out.trans hs2 (fun _ _ f => f))
    have hp : w.heap.size ≤ w1.heap.size := S1.out.size
    have C2 := hid hc2
    clear hc2 hs2 S1 hz2
    generalize w1.heap.size = p at *
    go_wp2_with fail
    refine (ColI.push_ok _ _ _ (l.map (Value.int .i64)) _ a n c _ C2.out (by omega) (by rw [HN.out]; exact HS.out.same S2.out) (by simp [Value.oneCell']) (by simp) (by simp; omega)).mono ?_
    rintro r w3 ⟨rfl, v3, hc3, hs3, hn3⟩
    have A3 := hid (hn3.after (After.nil w) S2.out.size)
    have S3 := hid (S2.out.new hs3 (ColS.new hp (After.nil w)))
    have C3 := hid hc3
    clear hc3 hs3 hn3 C2
    go_wp2_with fail
    go_loopw [4] (fun i wr => ∃ (k : Nat) (v : Value), k ≤ n ∧ i = .int .i64 ((k : Int) - 1) ∧ Col 94 3 wr p v ((l.take k).map (Value.int .i64)) n ∧ After w v ∧ Same w wr) (fun i _ => (intOf i + 1).toNat)
    case atStart => exact ⟨n, v3, Nat.le_refl _, rfl, by rw [HN.out, List.take_length]; simpa [HN.out] using C3.out, A3.out, S3.out⟩
    case round =>
      obtain ⟨k, v, hk, rfl, hc, hav, hsr⟩ := hrel
      have HC := hid hc
      have HA := hid hav
      have HSR := hid hsr
      clear hc hav hsr
      cases k with
      | zero =>
        have g1 := hid (HE.out.same HSR.out)
        have gr := HSR.out.cell (p := ⟨1, 0, none⟩) (World.block_lt_of_cell? w _ HE.out.c0) (fun f => f) |>.trans HE.out.c0
        go_wp2_with fail
        refine (ColI.take_out _ _ _ _ _ _ HC.out (.inr (by simp)) _ gr ⟨_, _, rfl⟩).mono ?_
        rintro r w4 ⟨rfl, hs4⟩
        have S4 := hid (HSR.out.trans hs4 (fun _ _ f => f))
        have C4 := hid (HC.out.chg hs4 (fun _ _ f => f))
        have E4 := hid (HE.out.same S4.out)
        clear hs4
        go_wp2_with fail
        refine (Err.num ad 1 (by omega) _ E4.out).mono ?_
        rintro r w5 ⟨rfl, hs5⟩
        have S5 := hid (S4.out.trans hs5 (fun _ _ f => f))
        have C5 := hid (C4.out.chg hs5 (fun _ _ f => f))
        clear hs5
        go_wp2_with fail
        refine (ColI.len_any _ _ _ _ _ C5.out).mono ?_
        rintro r w6 ⟨rfl, rfl⟩
        go_wp2
        go_ret
        exact ⟨rfl, S5.out⟩
      | succ j =>
        have hj : j < l.length := by have := HN.out; omega
        have L := hid (show ((l.take (j + 1)).map (Value.int .i64)).length = j + 1 by simp; omega)
        have hx : ((l.take (j + 1)).map (Value.int .i64))[j]? = some (.int .i64 l[j]) := by simp [hj, List.getElem?_take]
        have HX := hid hx
        clear hx
        obtain ⟨b, off, cap, e1, hb, hcl⟩ := HS.out.cells (by omega)
        cases e1
        have HCL := hid hcl
        clear hcl
        go_wp2_with (go_at_call 41; refine (ColI.len_any _ _ _ _ _ HC.out).mono ?_; rintro r w' ⟨rfl, rfl⟩; rw [L.out])
        refine (ColI.take_in _ _ _ _ j _ HC.out _ HX.out (by intro u hu; obtain ⟨y, _, rfl⟩ := List.mem_map.1 hu; exact ⟨y, rfl⟩)).mono ?_
        rintro r w4 ⟨rfl, v4, hc4, hs4, hn4⟩
        have A4 := hid (show After w v4 from fun k hk => HA.out k (hn4 ▸ hk))
        have S4 := hid (HSR.out.new hs4 (ColS.new hp HA.out))
        rw [takeOut_last l j hj] at hc4
        have C4 := hid hc4
        have g1 := (S4.out.cell (p := ⟨b, off + j, none⟩) hb (fun f => f)).trans (HCL.out j hj)
        clear hc4 hs4 hn4
        generalize l[j] = x at *
        go_wp2
        go_roundw
        case rel => exact ⟨j, v4, by omega, by go_num, C4.out, A4.out, S4.out⟩
        case measure => simp [intOf]
  · go_wp2
    go_ret
    exact ⟨rfl, S1.out⟩
end Go.Proofs.YtkjecihiipjngaaDoor.ColumnEmpties
