/-
  alive: the chapter's example.
-/
import Derived.Test.YtdihnjhbopogoaaDoorSearchAll
import Derived.Test.YtdihnjhbopogoaaDoorExpand
import Derived.Test.YtdihnjhbopogoaaDoorG33
import Derived.Test.YtdihnjhbopogoaaDoorMadeOf
import Derived.Test.YtdihnjhbopogoaaDoorNum
import Derived.Test.YtdihnjhbopogoaaDoorStepCostP
namespace Go.Proofs.YtdihnjhbopogoaaDoor
theorem g33_jumps {d u : Nat} (hd : d < 8) : ((g33 true).jump 8 0 d = some u → u = 8) ∧ (g33 true).jump 8 8 d = none := by
  have key : ∀ d, d < 8 → (match (g33 true).jump 8 0 d with | none => true | some u => u == 8) = true ∧ (g33 true).jump 8 8 d = none := by decide +kernel
  obtain ⟨h1, h2⟩ := key d hd
  refine ⟨fun h => ?_, h2⟩
  rw [h] at h1
  simpa using h1
theorem g33_all {l : List Nat} {e : Nat} {k : Int} (h : Gr.JPath (g33 true) 8 0 l e k) : (l = [0] ∧ e = 0) ∨ (l = [0, 8] ∧ e = 8) := by
  induction h with
  | one => exact .inl ⟨rfl, rfl⟩
  | @snoc l p d u k _ hj ih =>
    obtain ⟨_, _, hd, _⟩ := Gr.jump_ne (g33_ok true) hj
    rcases ih with ⟨rfl, rfl⟩ | ⟨rfl, rfl⟩
    · obtain rfl := (g33_jumps hd).1 hj
      exact .inr ⟨rfl, rfl⟩
    · rw [show ((8 : Nat) : Int) = 8 from rfl, (g33_jumps (u := u) hd).2] at hj; cases hj
theorem g33_path {l : List Nat} {k : Int} (h : Gr.JPath (g33 true) 8 0 l 8 k) : l = [0, 8] := by
  rcases g33_all h with ⟨_, h⟩ | ⟨h, _⟩
  · cases h
  · exact h
end Go.Proofs.YtdihnjhbopogoaaDoor
namespace Go.Proofs.YtdihnjhbopogoaaDoor.Jmp
open Go Go.RowKit Go.Proofs.YtdihnjhbopogoaaDoor.Err Go.Proofs.YtdihnjhbopogoaaDoor.Steps Go.Proofs.YtdihnjhbopogoaaDoor.Route
theorem g33_of : Gr.block 3 3 [] = g33 true := by unfold g33 Gr.block Gr.ofF; rfl
theorem readsNil (w : World) : Ints w (.slice none 0 0) [] := ⟨none, 0, rfl, rfl, fun _ => ⟨rfl, rfl⟩, fun a h => by cases h⟩
theorem _root_.Go.Proofs.YtdihnjhbopogoaaDoor.Err.ErrsJ.two {w : World} {ad : Nat → Addr} (h : ErrsJ w ad) : Errs2 w ad := ⟨h.c0, h.c6⟩
theorem _root_.Go.Proofs.YtdihnjhbopogoaaDoor.Err.Errs.jmp {w : World} {ad : Nat → Addr} (h : Errs w ad) : ErrsJ w ad := ⟨h.c0, h.c2, h.c6, h.c8⟩
theorem errsJ_of {w : World} {a0 a2 a6 a8 : Addr} (h0 : w.cell? ⟨1, 0, none⟩ = some (.iface 137 (.pointer (some a0)))) (h2 : w.cell? ⟨0, 0, none⟩ = some (.iface 137 (.pointer (some a2))))
    (h6 : w.cell? ⟨7, 0, none⟩ = some (.iface 137 (.pointer (some a6)))) (h8 : w.cell? ⟨2, 0, none⟩ = some (.iface 137 (.pointer (some a8)))) : ∃ ad, ErrsJ w ad :=
  ⟨fun k => match k with | 0 => a0 | 2 => a2 | 6 => a6 | _ => a8, h0, h2, h6, h8⟩
section
variable {w : World}
set_option maxRecDepth 100000 in
set_option maxHeartbeats 8000000 in
theorem alive_any (ad : Nat → Addr) (hE : ErrsJ w ad) : Calls Tryd.prog 9 #[] w fun r w' => r = .returned (.bool true) ∧ Same w w' := by
  have HE := hid hE
  clear hE
  go_enter Tryd.func9, Tryd.ntmps9
  go_wp2_with fail
  refine (of_any ⟨3, 3, 1, 0, 0⟩ (by decide) [] _ (readsNil w) (by simp) ad HE.out.two).mono ?_
  rintro r w2 hcase
  rcases hcase with ⟨-, p, rfl, hX⟩ | ⟨⟨x, hx, hbad⟩, -⟩
  · have X2 : Hid (Star w w2 [gndR 93 p (g33 true)]) := hid (g33_of ▸ hX)
    clear hX
    obtain ⟨g, c, h, -⟩ := gnd_at X2.out 0 rfl
    have H := hid h
    clear h
    go_wp2_with fail
    refine (search_free H.out 0 8 (by decide) (by decide) (.tuple #[]) _ (HE.out.same X2.out.same).c8).mono ?_
    rintro r w3 hS
    rcases hS with ⟨hno, -⟩ | ⟨s', t', e1, e2, -, hno, -⟩ | ⟨s', t', pts, k, v, e1, e2, hp, hT, hmin, -, -, rfl, hX3⟩
    · exact absurd ⟨by decide, by decide⟩ hno
    · obtain rfl : s' = 0 := by omega
      obtain rfl : t' = 8 := by omega
      exact absurd ((g33_least true).real 0 (by decide +kernel)) (hno _)
    · obtain rfl : s' = 0 := by omega
      obtain rfl : t' = 8 := by omega
      obtain rfl := g33_path hp
      obtain rfl : k = 28 := by
        have h1 := ((g33_least true).min 0 k hT).2
        have h2 := hmin _ ((g33_least true).real 0 (by decide +kernel))
        have e : cAt (c33 true) 0 = 28 := by decide +kernel
        rw [e] at h1 h2
        omega
      obtain ⟨va, vc, rfl, -⟩ := own_slice (hX3.row 0 rfl).1
      have hcap := own_cap (hX3.row 0 rfl).1
      have hrd := hid (Reads.of_own (hX3.row 0 rfl).1)
      have X3 := hid (X2.out.lift hX3)
      have H3 := hid (H.out.same hX3.same)
      clear hX3 X2 H hp hT hmin e1 e2
      go_wp2_with fail
      refine (expand_any H3.out va 2 vc [0, 8] hrd.out hcap (by simp) ad (HE.out.same X3.out.same)).mono ?_
      rintro r w4 hA
      rw [show (g33 true).expand [0, 8] = (some [0, 4, 8], 0) by decide +kernel] at hA
      obtain ⟨v4, rfl, hX4⟩ := hA
      obtain ⟨vb, vd, rfl, -⟩ := own_slice (hX4.row 0 rfl).1
      have X4 := hid ((X3.out.lift hX4).alloc #[.int .i64 0, .int .i64 8] 3)
      rw [show errV ad (0 : Int).toNat = .nilIface from rfl]
      clear hX4 X3 hrd
      go_wp2_with fail
      refine (Num.sameInts _ _ [0, 8] [0, 8] _ (Reads.of_own (X4.out.row 2 rfl).1) (reads_blk (X4.out.blk 0 rfl).1 2 2 1 rfl) (by simp) (by simp)).mono ?_
      rintro r w7 ⟨rfl, hs7⟩
      have X7 := hid ((X4.out.go hs7).alloc #[.int .i64 0, .int .i64 4, .int .i64 8] 3)
      clear hs7 X4
      go_wp2_with fail
      refine (Num.sameInts _ _ [0, 4, 8] [0, 4, 8] _ (Reads.of_own (X7.out.row 2 rfl).1) (reads_blk (X7.out.blk 0 rfl).1 3 3 1 rfl) (by simp) (by simp)).mono ?_
      rintro r w8 ⟨rfl, hs8⟩
      have X8 := hid (X7.out.go hs8)
      clear hs8 X7
      go_wp2
      go_ret
      exact ⟨rfl, X8.out.same⟩
  · simp at hx
end
end Go.Proofs.YtdihnjhbopogoaaDoor.Jmp
namespace Go.Proofs.YtdihnjhbopogoaaDoor.Err
open Go Go.RowKit
theorem ErrsJ.three {w : World} {ad : Nat → Addr} (h : ErrsJ w ad) : Errs3 w ad := ⟨h.c0, h.c6, h.c8⟩
end Go.Proofs.YtdihnjhbopogoaaDoor.Err
