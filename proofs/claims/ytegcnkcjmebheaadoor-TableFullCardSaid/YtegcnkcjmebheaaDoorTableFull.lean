/-
  TableFull: the walk.
-/
import Derived.Test.YtegcnkcjmebheaaDoorAlive07
namespace Go.Proofs.YtegcnkcjmebheaaDoor.TableFull
open Go Go.RowKit Go.Maps Go.Proofs.YtegcnkcjmebheaaDoor.Mask Go.Proofs.YtegcnkcjmebheaaDoor.Tab
theorem takes0 : Takes 0 [] := ⟨RightTo.nil _, rfl⟩
set_option maxRecDepth 100000 in
set_option maxHeartbeats 16000000 in
theorem walk (x : Int) (w : World) (ad : Nat → Addr) (hE : Err.Errs w ad) (hT : Mask.Tab w) :
    Calls Tryd.prog 5 #[.int .i64 x] w fun r w' => r = .returned (.bool true) ∧ Same w w' := by
  obtain ⟨mm, hm, hmod0⟩ := mod_small x 20 (by omega) (by omega)
  have hmod : wrap64 ((IntKind.u64.wrap x).tmod 20) = (mm : Int) := hmod0
  have HE := hid hE
  have HT := hid hT
  clear hE hT hmod0
  go_enter Tryd.func5, Tryd.ntmps5
  go_wp2_with fail
  refine (alive_any ad HE.out HT.out).mono ?_
  rintro r w1 ⟨rfl, hs1⟩
  have S1 := hid hs1
  clear hs1
  go_wp2_with fail
  refine (new_any ((Star.new w).go S1.out) 0 (by omega) HT.out).mono ?_
  rintro r w2 ⟨t, kv, hok, rfl, hX⟩
  rw [bitsOf_zero] at hX
  have X2 : Hid (Star w w2 (factR True :: tabL t 0 kv [] (fun _ => []) [natRow kv []])) := hid (Star.close_fact trivial hX)
  clear hX hok
  go_wp2_with fail
  go_loopw [26] (fun iv wr => ∃ (i : Nat) (H : List Hd), i ≤ 128 + mm ∧ iv = .int .i64 i ∧ H.length = min i 128 ∧ Star w wr (factR True :: tabL t 0 kv H (fun _ => []) [natRow kv []])) (fun iv _ => 128 + mm - (intOf iv).toNat)
  case atStart => exact ⟨0, [], by omega, rfl, rfl, X2.out⟩
  case round =>
    obtain ⟨i, H, hi, rfl, hH, hX⟩ := hrel
    rename World => wz
    have X3 := hid hX
    have HH := hid hH
    clear hX X2 hH
    by_cases him : i < 128 + mm
    · by_cases h128 : i < 128
      · have HL := hid (show H.length = i by rw [HH.out]; omega)
        go_wp2_with fail
        refine (add_ok X3.out ((i : Int), 1) (.slice none 0 0) [] (fun _ => ⟨none, 0, rfl, rfl, fun _ => ⟨rfl, rfl⟩, fun a h => by cases h⟩) (by decide) ad HE.out takes0 (by rw [HL.out]; omega) (fun x h => by cases h) (fun k => by simp) (fun j k x h => by simp at h)).mono ?_
        rintro r w4 ⟨rfl, hX⟩
        have X4 : Hid (Star w w4 (factR True :: tabL t 0 kv (H ++ [((i : Int), 1)]) (fun _ => []) [natRow kv []])) := hid hX
        have CX := hid (X4.out.pull 2 rfl)
        have hb := (X4.out.blk 1 rfl).1
        have b0 := cell_of hb 0
        have bl := lt_of hb
        simp only [List.getElem?_toArray, List.getElem?_cons_zero, List.getElem?_cons_succ] at b0
        have HL2 := hid (show (H ++ [((i : Int), (1 : Int))]).length = i + 1 by rw [List.length_append, HL.out]; rfl)
        clear hX X3 hb
        go_wp2_with fail
        refine (CH.len_any CX.out).mono ?_
        rintro r w' ⟨rfl, rfl⟩
        rw [HL2.out]
        go_wp2_with fail
        go_roundw
        case rel => exact ⟨i + 1, _, by omega, by go_num, by rw [HL2.out]; omega, X4.out⟩
        case measure => simp [intOf]; omega
      · have HL := hid (show H.length = 128 by rw [HH.out]; omega)
        go_wp2_with fail
        refine (add_full X3.out ((i : Int), 1) (.slice none 0 0) [] ⟨none, 0, rfl, rfl, fun _ => ⟨rfl, rfl⟩, fun a h => by cases h⟩ (by decide) ad HE.out takes0 HL.out).mono ?_
        rintro r w4 ⟨rfl, hX⟩
        rw [show Err.errV ad 2 = .iface 143 (.pointer (some (ad 1))) from rfl]
        have X4 := hid hX
        clear hX X3
        go_wp2_with fail
        refine (Err.num_err ad 1 (by omega) _ (HE.out.same X4.out.same)).mono ?_
        rintro r w5 ⟨rfl, hs5⟩
        have X5 := hid (X4.out.go hs5)
        have CX := hid (X5.out.pull 2 rfl)
        have hb := (X5.out.blk 1 rfl).1
        have b0 := cell_of hb 0
        have bl := lt_of hb
        simp only [List.getElem?_toArray, List.getElem?_cons_zero, List.getElem?_cons_succ] at b0
        clear hs5 X4 hb
        go_wp2_with fail
        refine (CH.len_any CX.out).mono ?_
        rintro r w' ⟨rfl, rfl⟩
        rw [HL.out]
        go_wp2_with fail
        go_roundw
        case rel => exact ⟨i + 1, H, by omega, by go_num, by rw [HL.out]; omega, X5.out⟩
        case measure => simp [intOf]; omega
    · go_wp2
      go_ret
      exact ⟨rfl, X3.out.same⟩
end Go.Proofs.YtegcnkcjmebheaaDoor.TableFull
