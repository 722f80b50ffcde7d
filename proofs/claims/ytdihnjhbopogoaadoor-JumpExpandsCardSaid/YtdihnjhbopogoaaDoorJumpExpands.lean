/-
  JumpExpands: the walk.
-/
import Derived.Test.YtdihnjhbopogoaaDoorAlive18
import Derived.Test.YtdihnjhbopogoaaDoorMade18
import Derived.Test.YtdihnjhbopogoaaDoorRefExp
import Derived.Test.YtdihnjhbopogoaaDoorIntsM
namespace Go.Proofs.YtdihnjhbopogoaaDoor.JumpExpands
open Go Go.RowKit Go.Proofs.YtdihnjhbopogoaaDoor.Err Go.Proofs.YtdihnjhbopogoaaDoor.Steps Go.Proofs.YtdihnjhbopogoaaDoor.Route Go.Proofs.YtdihnjhbopogoaaDoor.Jmp

theorem gC_ints (l : List Nat) : (l.map Int.ofNat).map (Value.int .i64) = gC l := by simp [gC, List.map_map, Function.comp_def]
theorem rowInts {w : World} {v : Value} {l : List Nat} (h : w.ownsRow 0 3 1 v l.length (gC l)) : Ints w v (l.map Int.ofNat) := by
  have := Reads.of_own h
  unfold Ints
  rw [gC_ints, List.length_map]
  exact this

theorem expand_num (G : Gr) (xs : List Int) : (∃ l, G.expand xs = (some l, 0) ∧ l ≠ []) ∨ ∃ k : Nat, k ≤ 10 ∧ G.expand xs = (none, (k : Int)) := by
  unfold Gr.expand
  split
  · exact .inr ⟨3, by omega, rfl⟩
  · split
    · exact .inr ⟨1, by omega, rfl⟩
    · split
      · exact .inr ⟨9, by omega, rfl⟩
      · unfold outE
        cases G.expT (xs.map Int.toNat) with
        | none => exact .inr ⟨9, by omega, rfl⟩
        | some l => exact .inl ⟨_, rfl, by simp⟩

set_option maxRecDepth 100000 in
set_option maxHeartbeats 8000000 in
theorem walk (g : Grd) (bl : List Int) (v : Value) (tv : Value) (ts : List Int) (w : World) (hr : Ints w v bl) (hbl : bl.length ≤ 9223372036854775807) (hrt : Ints w tv ts) (htl : ts.length ≤ 9223372036854775807) (ad : Nat → Addr) (hE : Errs w ad) :
    Calls Tryd.prog 5 #[g.v, v, tv] w fun r w' => r = .returned (.bool true) ∧ Same w w' := by
  obtain ⟨ta, tc, rfl⟩ := hrt.slice
  obtain ⟨l, hl⟩ : ∃ l, l = ts.length := ⟨_, rfl⟩
  have HTL : Hid (Ints w (.slice ta l tc) ts) := hid (by rw [hl]; exact hrt)
  have HL := hid hl
  rw [← hl] at htl ⊢
  clear hrt hl
  obtain ⟨a, cb, rfl⟩ := hr.slice
  have HE := hid hE
  have HYES := hid (fun (hg : g.right = true ∧ g.W * g.H ≤ 256 ∧ bl.length ≤ 300) (w' : World) (hs : Same w w') => made_yes g bl _ (hr.same hs) hg.2.2 hg.1 hg.2.1 ad (hE.same hs).three)
  have HNO := hid (fun (hg : ¬ (g.right = true ∧ g.W * g.H ≤ 256 ∧ bl.length ≤ 300)) (w' : World) (hs : Same w w') => made_no g bl _ (hr.same hs) hbl hg)
  have hcase : (g.right = true ∧ g.W * g.H ≤ 256 ∧ bl.length ≤ 300) ∨ ¬ (g.right = true ∧ g.W * g.H ≤ 256 ∧ bl.length ≤ 300) := Classical.em _
  have HC := hid hcase
  obtain ⟨W, H, S, X, Y⟩ := g
  unfold Grd.v at *
  simp only at HYES HNO ⊢
  have Z := hid ((Star.new w).alloc #[.int .i64 W, .int .i64 H, .int .i64 S, .int .i64 X, .int .i64 Y] 23)
  clear hE hr hcase hbl
  go_enter Tryd.func5, Tryd.ntmps5
  go_wp2_with fail
  generalize w.alloc _ = wz at *
  generalize w.heap.size = q at *
  refine (alive_any ad (HE.out.same Z.out.same).jmp).mono ?_
  rintro r w1 ⟨rfl, hs⟩
  have Z1 := hid (Z.out.go hs)
  have hbk := (Z1.out.blk 0 rfl).1
  have hql := lt_of hbk
  have c0 := cell_of hbk 0
  have c1 := cell_of hbk 1
  have c2 := cell_of hbk 2
  have c3 := cell_of hbk 3
  have c4 := cell_of hbk 4
  simp only [List.getElem?_toArray, List.getElem?_cons_zero, List.getElem?_cons_succ] at c0 c1 c2 c3 c4
  clear hs Z hbk
  go_wp2_with fail
  rcases HC.out with hg | hg
  case inr =>
    refine (HNO.out hg w1 Z1.out.same).mono ?_
    rintro r w2 ⟨rfl, hs2⟩
    have S2 := hid (Z1.out.same.trans hs2 (fun _ _ f => f))
    clear hs2
    go_wp2
    go_ret
    exact ⟨rfl, S2.out⟩
  refine (HYES.out hg w1 Z1.out.same).mono ?_
  rintro r w2 ⟨p, mm, G, hok, hmax, rfl, hX⟩
  have X2 : Hid (Star w w2 [gndR 71 mm G, gndR 93 p G]) := hid (((Star.new w).go Z1.out.same).lift hX)
  have OK := hid hok
  clear hX hok Z1 HYES HNO HC hg c0 c1 c2 c3 c4 hql
  by_cases h100 : 100 < l
  · go_wp2
    go_ret
    exact ⟨rfl, X2.out.same⟩
  go_wp2_with fail
  refine (Num.ints_any _ ts _ (HTL.out.same X2.out.same) (by rw [← HL.out]; omega)).mono ?_
  rintro r w3 ⟨gc, cp, rfl, hC, hs3⟩
  have X3 := hid (X2.out.go hs3)
  have hcap := hC.cap
  have HC := hid hC.reads
  rw [← HL.out] at hcap ⊢
  have HC2 : Hid (Ints w3 (.slice (some ⟨gc, 0, none⟩) l cp) ts) := hid (by rw [HL.out]; exact HC.out)
  obtain ⟨pg, pc, h1, -⟩ := gnd_at X3.out 1 rfl
  have H1 := hid h1
  clear hs3 X2 hC HC h1
  go_wp2_with fail
  refine (expand_any H1.out _ l cp ts HC2.out (by omega) (by rw [← HL.out]; omega) ad (HE.out.same X3.out.same).jmp).mono ?_
  intro r w4 hA
  obtain ⟨mg, mc, h2, -⟩ := gnd_at X3.out 0 rfl
  have H2 := hid h2
  clear h2 HC2
  rcases expand_num G ts with ⟨lw, hz, hne⟩ | ⟨k, hk10, hz⟩
  · have HZ := hid hz
    rw [hz] at hA
    obtain ⟨v4, rfl, hX4⟩ := hA
    rw [show errV ad (0 : Int).toNat = .nilIface from rfl]
    obtain ⟨va, vc, rfl, -⟩ := own_slice (hX4.row 0 rfl).1
    have X4 := hid (X3.out.lift hX4)
    have H4 := hid (H2.out.same hX4.same)
    clear hX4 hz X3
    go_wp2_with fail
    refine (rexpand_any H4.out _ ts (HTL.out.same X4.out.same) (by rw [← HL.out]; omega)).mono ?_
    intro r w5 hA
    rw [HZ.out] at hA
    obtain ⟨v5, rfl, hX5⟩ := hA
    obtain ⟨vb, vd, rfl, -⟩ := own_slice (hX5.row 0 rfl).1
    have X5 := hid (X4.out.lift hX5)
    have R1 := hid (rowInts (X5.out.row 1 rfl).1)
    have R2 := hid (rowInts (X5.out.row 0 rfl).1)
    clear hX5 X4
    go_wp2_with fail
    refine (Num.sameInts _ _ (lw.map Int.ofNat) (lw.map Int.ofNat) _ R1.out R2.out (by have := own_max (X5.out.row 0 rfl).1; simpa using this) (by have := own_max (X5.out.row 0 rfl).1; simpa using this)).mono ?_
    rintro r w6 ⟨rfl, hs6⟩
    rw [decide_eq_true rfl]
    have X6 := hid (X5.out.go hs6)
    clear hs6 X5 R1 R2
    go_wp2_with fail
    refine (num ad 0 (by omega) _ (HE.out.same X6.out.same)).mono ?_
    rintro r w7 ⟨rfl, hs7⟩
    have X7 := hid (X6.out.go hs7)
    clear hs7
    go_wp2
    go_ret
    exact ⟨rfl, X7.out.same⟩
  · have HZ := hid hz
    rw [hz] at hA
    obtain ⟨rfl, hs4⟩ := hA
    dsimp only
    rw [Int.toNat_natCast]
    have X4 := hid (X3.out.go hs4)
    have H4 := hid (H2.out.same hs4)
    obtain ⟨ev, hev⟩ : ∃ ev, ev = errV ad k := ⟨_, rfl⟩
    rw [← hev]
    have HEV := hid hev
    clear hs4 hz X3 hev
    go_wp2_with fail
    refine (rexpand_any H4.out _ ts (HTL.out.same X4.out.same) (by rw [← HL.out]; omega)).mono ?_
    intro r w5 hA
    rw [HZ.out] at hA
    obtain ⟨rfl, hs5⟩ := hA
    dsimp only
    have X5 := hid (X4.out.go hs5)
    clear hs5 X4
    go_wp2_with fail
    refine (Num.sameInts _ _ [] [] _ (readsNil _) (readsNil _) (by simp) (by simp)).mono ?_
    rintro r w6 ⟨rfl, hs6⟩
    rw [decide_eq_true rfl]
    have X6 := hid (X5.out.go hs6)
    clear hs6 X5
    go_wp2_with fail
    rw [HEV.out]
    refine (num ad k hk10 _ (HE.out.same X6.out.same)).mono ?_
    rintro r w7 ⟨rfl, hs7⟩
    have X7 := hid (X6.out.go hs7)
    clear hs7
    go_wp2
    go_ret
    exact ⟨rfl, X7.out.same⟩
end Go.Proofs.YtdihnjhbopogoaaDoor.JumpExpands
