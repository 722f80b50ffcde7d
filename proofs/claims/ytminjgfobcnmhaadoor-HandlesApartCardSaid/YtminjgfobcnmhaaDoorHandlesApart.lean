/-
  HandlesApart: the walk.
-/
import Derived.Test.YtminjgfobcnmhaaDoorPoolRun
namespace Go.Proofs.YtminjgfobcnmhaaDoor.HandlesApart
open Go Go.RowKit Go.Proofs.YtminjgfobcnmhaaDoor.Pool

def castL (l : List Nat) : List Int := l.map (fun i : Nat => (i : Int))
theorem freeR_ints {w0 w : World} {L : List Res} (X : Star w0 w L) (i : Nat) {v : Value} {l : List Nat} (hi : L[i]? = some (freeR v l)) : Ints w v (castL l) := by
  have := Reads.of_own (X.row i hi).1
  unfold Ints
  rw [show (castL l).length = l.length by simp [castL], show (castL l).map (Value.int .i64) = l.map nv by simp [castL, nv]]
  exact this

set_option maxRecDepth 100000 in
set_option maxHeartbeats 2000000 in
theorem walk (oa ob : List OpH) (va vb : Value) (w : World) (ha : Ops w va oa) (hb : Ops w vb ob) (hla : oa.length ≤ 9223372036854775807) (hlb : ob.length ≤ 9223372036854775807) (T : TypeId) (u : Addr) (he : w.cell? ⟨0, 0, none⟩ = some (.iface T (.pointer (some u)))) :
    Calls Tryd.prog 5 #[va, vb] w fun r w' => r = .returned (.bool true) ∧ Same w w' := by
  obtain ⟨aa, ca, rfl⟩ := ha.slice
  obtain ⟨ab, cb, rfl⟩ := hb.slice
  have HA := hid ha
  have HB := hid hb
  have HE := hid he
  have h1 := fun (h : ¬ 60 < oa.length) (h2 : ¬ 60 < ob.length) => (trivial : True)
  clear ha hb he h1
  go_enter Tryd.func5, Tryd.ntmps5
  go_wp2_with fail
  refine (alive _).mono ?_
  rintro r w1 ⟨rfl, hs1⟩
  have X1 := hid ((Star.new w).go hs1)
  clear hs1
  by_cases h1 : 60 < oa.length
  · go_wp2
    go_ret
    exact ⟨rfl, X1.out.same⟩
  by_cases h2 : 60 < ob.length
  · go_wp2
    go_ret
    exact ⟨rfl, X1.out.same⟩
  have h1' : oa.length ≤ 60 := by omega
  have h2' : ob.length ≤ 60 := by omega
  go_wp2_with fail
  refine (new_any X1.out).mono ?_
  rintro r w2 ⟨p, rfl, hX⟩
  have X2 := hid hX
  clear hX X1
  go_wp2_with fail
  refine (run_any X2.out Ok.new oa _ HA.out h1' _ HE.out ⟨_, _, rfl⟩).mono ?_
  rintro r w3 ⟨rfl, S, f, c, hok, hX⟩
  have X3 := hid hX
  have OK := hid hok
  have hS := hok.len
  have hf := hok.flen
  clear hX X2 hok
  go_wp2_with fail
  refine (slots_any X3.out (by omega) (by omega)).mono ?_
  rintro r w4 ⟨vs, vf, rfl, hX⟩
  obtain ⟨as4, cs4, e4, _⟩ := own_slice (hX.row 1 rfl).1
  obtain ⟨af4, cf4, e5, _⟩ := own_slice (hX.row 0 rfl).1
  subst e4 e5
  have X4 := hid (hX.pull 2 rfl)
  clear hX X3
  go_wp2_with fail
  refine (clone_any X4.out (by omega) (by omega)).mono ?_
  rintro r w5 ⟨q, rfl, hX⟩
  have X5 := hid hX
  clear hX X4
  go_wp2_with fail
  refine (run_any X5.out OK.out ob _ HB.out h2' _ HE.out ⟨_, _, rfl⟩).mono ?_
  rintro r w6 ⟨rfl, S', f', c', hok, hX⟩
  have X6 := hid (hX.pull 1 rfl)
  clear hX X5 hok
  go_wp2_with fail
  refine (slots_any X6.out (by omega) (by omega)).mono ?_
  rintro r w7 ⟨vs7, vf7, rfl, hX⟩
  obtain ⟨as7, cs7, e4, _⟩ := own_slice (hX.row 1 rfl).1
  obtain ⟨af7, cf7, e5, _⟩ := own_slice (hX.row 0 rfl).1
  subst e4 e5
  have X7 : Hid (Star w w7 [freeR (.slice af7 f.length cf7) f, slotsR (.slice as7 S.length cs7) S, PoolR p S f c, PoolR q S' f' c', freeR (.slice af4 f.length cf4) f, slotsR (.slice as4 S.length cs4) S]) := hid hX
  clear hX X6
  have I7 := hid (freeR_ints X7.out 0 rfl)
  have I4 := hid (freeR_ints X7.out 4 rfl)
  have hcl : (castL f).length ≤ 9223372036854775807 := by simp [castL]; omega
  go_wp2_with fail
  refine (Num.sameInts _ _ _ _ _ I4.out I7.out hcl hcl).mono ?_
  rintro r w8 ⟨rfl, hs⟩
  rw [decide_eq_true (rfl : castL f = castL f)]
  have X8 := hid (X7.out.go hs)
  clear hs X7 I7 I4 hcl
  obtain ⟨m, hm⟩ : ∃ m, m = S.length := ⟨_, rfl⟩
  have HM := hid hm
  rw [← hm] at hS
  simp only [← hm] at X8 ⊢
  clear hm
  go_wp2
  go_loopw [55] (fun iv wr => ∃ j : Nat, j ≤ m ∧ iv = .int .i64 j ∧ Same w8 wr) (fun iv _ => m - (intOf iv).toNat)
  case atStart => exact ⟨0, by omega, rfl, Chg.refl _⟩
  case round =>
    obtain ⟨j, hj, rfl, hs⟩ := hrel
    have HS := hid hs
    clear hs
    by_cases hjm : j < m
    · obtain ⟨⟨g, b⟩, hjS⟩ : ∃ s, S[j]? = some s := ⟨_, List.getElem?_eq_getElem (by have := HM.out; omega)⟩
      have r1 := X8.out.row 1 rfl
      have r2 := X8.out.row 5 rfl
      obtain ⟨g1, c1', e1⟩ := own_shape r1.1 (by have := HM.out; omega)
      obtain ⟨g2, c2', e2⟩ := own_shape r2.1 (by have := HM.out; omega)
      cases e1
      cases e2
      have u0 := HS.out.keep ((r1.1.cellAt (j * 2) (by omega)).trans ((rows_get sl sl_len S j 0 _ hjS (by omega)).trans rfl))
      have u1 := HS.out.keep ((r1.1.cellAt (j * 2 + 1) (by omega)).trans ((rows_get sl sl_len S j 1 _ hjS (by omega)).trans rfl))
      have v0 := HS.out.keep ((r2.1.cellAt (j * 2) (by omega)).trans ((rows_get sl sl_len S j 0 _ hjS (by omega)).trans rfl))
      have v1 := HS.out.keep ((r2.1.cellAt (j * 2 + 1) (by omega)).trans ((rows_get sl sl_len S j 1 _ hjS (by omega)).trans rfl))
      have u0' : wr.cell? ⟨g1, j * 2, none⟩ = some (.int .i64 g) := u0
      have u1' : wr.cell? ⟨g1, j * 2 + 1, none⟩ = some (.bool b) := u1
      have v0' : wr.cell? ⟨g2, j * 2, none⟩ = some (.int .i64 g) := v0
      have v1' : wr.cell? ⟨g2, j * 2 + 1, none⟩ = some (.bool b) := v1
      clear u0 u1 v0 v1 r1 r2 hjS
      go_wp2
      go_quiet (fail)
      go_wp2
      go_roundw
      case rel => exact ⟨j + 1, by omega, by go_num, HS.out.drewN _⟩
      case measure => simp [intOf]; omega
    · go_wp2
      go_ret
      exact ⟨rfl, X8.out.same.trans HS.out (fun _ _ f => f)⟩
end Go.Proofs.YtminjgfobcnmhaaDoor.HandlesApart
