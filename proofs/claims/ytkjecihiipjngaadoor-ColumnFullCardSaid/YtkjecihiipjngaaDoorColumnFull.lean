/-
  ColumnFull answers true, whatever it is handed: the walk.
-/
import Derived.Test.YtkjecihiipjngaaDoorLaw05
import Derived.Test.YtkjecihiipjngaaDoorColB
namespace Go.Proofs.YtkjecihiipjngaaDoor.ColumnFull
open Go Go.RowKit

set_option maxRecDepth 100000 in
theorem walk (most : Int) (vs : Value) (sizes : List Int) (w : World) (hs : Ints w vs sizes) (hl : sizes.length ≤ 17592186044424) (T : TypeId) (u : Value) (he : w.cell? ⟨0, 0, none⟩ = some (.iface T u)) (hg : 0 < w.heap.size) :
    Calls Tryd.prog 4 #[.int .i64 most, vs] w fun r w' => r = .returned (.bool true) ∧ Same w w' := by
  obtain ⟨a, c, rfl⟩ := hs.slice
  obtain ⟨n, hn⟩ : ∃ n, n = sizes.length := ⟨_, rfl⟩
  rw [← hn] at hl
  rw [← hn]
  have HN := hid hn
  have HS := hid hs
  have HE := hid he
  clear hs he hn
  go_enter Tryd.func4, Tryd.ntmps4
  go_wp2_with fail
  refine (Law05.alive _).mono ?_
  rintro r w1 ⟨rfl, hs1⟩
  have S1 := hid hs1
  clear hs1
  go_wp2_with fail
  obtain ⟨mo, hmo, emo⟩ := mod_small most 60 (by omega) (by omega)
  rw [show ((60 : Nat) : Int) = 60 from rfl] at emo
  rw [emo]
  clear emo
  refine (ColB.new_any _ _).mono ?_
  rintro r w2 ⟨rfl, hc2, hs2, hz2⟩
  rw [show max (mo : Int) 0 = mo from by omega] at hc2
  have S2 := hid (S1.out.trans hs2 (fun _ _ f => f))
  have hp : w.heap.size ≤ w1.heap.size := S1.out.size
  have C2 := hid hc2
  clear hc2 hs2 S1
  generalize w1.heap.size = p at *
  go_wp2_with fail
  go_loopw [6, 20] (fun hv i wr => ∃ (k : Nat) (v : Value) (xs : List Value), k ≤ n ∧ i = .int .i64 k ∧ hv = .int .i64 xs.length ∧ Col 88 5 wr p v xs mo ∧ (xs.length : Int) ≤ mo ∧ After w v ∧ Same w wr) (fun _ i _ => n - (intOf i).toNat)
  case atStart => exact ⟨0, _, _, Nat.zero_le _, rfl, rfl, C2.out, by simp, After.nil w, S2.out⟩
  case round =>
    obtain ⟨k, v, xs, hk, rfl, rfl, hc, hle, hav, hsr⟩ := hrel
    have HC := hid hc
    have HA := hid hav
    have HSR := hid hsr
    clear hc hav hsr
    by_cases hlt : k < n
    · obtain ⟨b, off, cap, e1, hb, hcl⟩ := HS.out.cells (by have := HN.out; omega)
      cases e1
      have hk1 : k < sizes.length := by have := HN.out; omega
      have g1 := (HSR.out.cell (p := ⟨b, off + k, none⟩) hb (fun f => f)).trans (hcl k hk1)
      have g2 := (HSR.out.cell (p := ⟨0, 0, none⟩) hg (fun f => f)).trans HE.out
      clear hcl
      generalize sizes[k] = x at *
      by_cases h50 : k ≤ 50
      · obtain ⟨m, hm, em⟩ := mod_small x 30 (by omega) (by omega)
        rw [show ((30 : Nat) : Int) = 30 from rfl] at em
        obtain ⟨i0, hi, hz0, hz1, hz2⟩ := info_parts ColB.info
        go_wp2_with (at_make; refine wpList_make_full _ rfl _ _ 40 rfl 0 5 i0 (.int .u8 0) 1 Tryd.underlying40 hi hz0 hz1 .i64 .i64 _ _ m rfl rfl em em (by rw [hz2]; omega) (by unfold maxLen; omega) (Nat.zero_le _) ?_)
        intro w3 hown hgr
        have hs3 : Same wr w3 := (Chg.refl wr).grown hgr (fun k e _ => by simp at e)
        have S3 := hid (HSR.out.trans hs3 (fun _ _ f => f))
        have C3 := hid (HC.out.chg hs3 (fun _ _ f => f))
        rw [toList_madeCells_one] at hown
        have R3 := hid (Reads.of_own hown)
        have g3 := (S3.out.cell (p := ⟨0, 0, none⟩) hg (fun f => f)).trans HE.out
        clear hs3 hown hgr
        by_cases hfit : (xs.length : Int) + m ≤ mo
        · have hle : (xs.length : Int) + m ≤ mo := hfit
          go_wp2_with fail
          refine (ColB.push_ok _ _ _ _ _ _ m m _ C3.out (by omega) R3.out (by intro u hu; rw [List.eq_of_mem_replicate hu]; rfl) (by omega) (by omega)).mono ?_
          rintro r w4 ⟨rfl, v4, hc4, hs4, hn4⟩
          have A4 := hid (hn4.after HA.out S3.out.size)
          have S4 := hid (S3.out.new hs4 (ColS.new hp HA.out))
          have C4 := hid hc4
          have L4 := hid (show (xs ++ List.replicate m (Value.int .u8 0)).length = xs.length + m by simp)
          clear hn4 hs4 hc4
          go_wp2_with (go_at_call 21; refine (ColB.len_any _ _ _ _ _ C4.out).mono ?_; rintro r w' ⟨rfl, rfl⟩; rw [L4.out])
          go_roundw
          case rel => exact ⟨k + 1, v4, _, by omega, by go_num, by rw [L4.out]; go_num, C4.out, by rw [L4.out]; omega, A4.out, S4.out⟩
          case measure => simp [intOf]; omega
        · go_wp2_with fail
          refine (ColB.push_full _ _ _ _ _ m m _ C3.out (by omega) (by omega) (by omega) _ g3).mono ?_
          rintro r w4 ⟨rfl, hs4⟩
          have S4 := hid (S3.out.trans hs4 (fun _ _ f => f))
          have C4 := hid (C3.out.chg hs4 (fun _ _ f => f))
          clear hs4
          go_wp2_with (go_at_call 21; refine (ColB.len_any _ _ _ _ _ C4.out).mono ?_; rintro r w' ⟨rfl, rfl⟩)
          go_roundw
          case rel => exact ⟨k + 1, v, xs, by omega, by go_num, rfl, C4.out, by omega, HA.out, S4.out⟩
          case measure => simp [intOf]; omega
      · go_wp2
        go_ret
        exact ⟨rfl, HSR.out⟩
    · go_wp2
      go_ret
      exact ⟨rfl, HSR.out⟩
end Go.Proofs.YtkjecihiipjngaaDoor.ColumnFull
