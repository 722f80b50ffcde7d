/-
  The chapter's example: alive answers true.
-/
import Derived.Test.YtkjecihiipjngaaDoorColI
import Derived.Test.YtkjecihiipjngaaDoorNum
namespace Go.Proofs.YtkjecihiipjngaaDoor.Law05
open Go Go.RowKit

set_option maxRecDepth 100000 in
theorem alive (w : World) : Calls Tryd.prog 13 #[] w fun r w' => r = .returned (.bool true) ∧ Same w w' := by
  go_enter Tryd.func13, Tryd.ntmps13
  go_wp2_with fail
  refine (ColI.new_any _ _).mono ?_
  rintro r w1 ⟨rfl, hc1, hs1, hz1⟩
  have C1 := hid hc1
  have S1 := hid hs1
  clear hc1 hs1 hz1
  go_wp2_with fail
  refine (ColI.push_ok _ _ _ [.int .i64 7, .int .i64 8, .int .i64 9] 3 _ 3 3 _ (C1.out.chg ((Chg.refl _).alloc _) (fun _ _ f => f)) (by omega) (Reads.of_own (World.ownsRow_lit (base := 0) _ _ 3 (Nat.zero_le _) (by unfold maxLen; omega) rfl)) (by simp [Value.oneCell']) (by simp) (by simp)).mono ?_
  rintro r w2 ⟨rfl, v2, hc2, hs2, hn2⟩
  have a1 : Same w (w1.alloc (.cells #[.int .i64 7, .int .i64 8, .int .i64 9] 3)) := S1.out.alloc _
  have A2 := hid (hn2.after (w := w) (After.nil w) a1.size)
  have S2 := hid (a1.new hs2 (ColS.new (Nat.le_refl _) (After.nil w)))
  have C2 := hid hc2
  clear hc2 hs2 hn2 a1 C1 S1
  go_wp2_with fail
  refine (ColI.take_in _ _ _ _ 0 _ C2.out (.int .i64 7) rfl (by simp)).mono ?_
  rintro r w3 ⟨rfl, v3, hc3, hs3, hn3⟩
  have A3 := hid (show After w v3 from fun k hk => A2.out k (hn3 ▸ hk))
  have S3 := hid (S2.out.new hs3 (ColS.new (Nat.le_refl _) A2.out))
  have C3 := hid hc3
  clear hc3 hs3 hn3 C2 S2 A2
  go_wp2_with fail
  refine (ColI.all_any _ _ _ _ _ C3.out (by simp [takeOut, Value.oneCell']) (by simp [takeOut])).mono ?_
  rintro r w4 ⟨v4, rfl, hf4, hs4⟩
  have F4 := hid hf4.1
  have S4 := hid (S3.out.trans hs4 (fun _ _ f => f))
  clear hf4 hs4 S3 C3 A3
  go_wp2_with fail
  refine (Num.sameInts _ _ [9, 8] [9, 8] _ (Reads.of_own (own_chg F4.out ((Chg.refl _).alloc _) (fun _ _ f => f))) (reads_lit _ _ 2 1 (by omega) rfl) (by simp) (by simp)).mono ?_
  rintro r w5 ⟨rfl, hs5⟩
  have S5 := hid (Chg.trans (S4.out.alloc _) hs5 (fun _ _ f => f))
  clear hs5
  go_wp2
  go_ret
  exact ⟨rfl, S5.out⟩
end Go.Proofs.YtkjecihiipjngaaDoor.Law05
