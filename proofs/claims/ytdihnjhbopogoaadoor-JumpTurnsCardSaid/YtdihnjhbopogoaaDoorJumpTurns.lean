/-
  JumpTurns: the walk.
-/
import Derived.Test.YtdihnjhbopogoaaDoorAlive18
import Derived.Test.YtdihnjhbopogoaaDoorMade18
import Derived.Test.YtdihnjhbopogoaaDoorTurnsW
import Derived.Test.YtdihnjhbopogoaaDoorRefTurns
import Derived.Test.YtdihnjhbopogoaaDoorIntsM
namespace Go.Proofs.YtdihnjhbopogoaaDoor.JumpTurns
open Go Go.RowKit Go.Proofs.YtdihnjhbopogoaaDoor.Err Go.Proofs.YtdihnjhbopogoaaDoor.Steps Go.Proofs.YtdihnjhbopogoaaDoor.Route Go.Proofs.YtdihnjhbopogoaaDoor.Jmp

theorem gC_ints (l : List Nat) : (l.map Int.ofNat).map (Value.int .i64) = gC l := by simp [gC, List.map_map, Function.comp_def]
theorem rowInts {w : World} {v : Value} {l : List Nat} (h : w.ownsRow 0 3 1 v l.length (gC l)) : Ints w v (l.map Int.ofNat) := by
  have := Reads.of_own h
  unfold Ints
  rw [gC_ints, List.length_map]
  exact this

set_option maxRecDepth 100000 in
set_option maxHeartbeats 8000000 in
theorem walk (g : Grd) (bl : List Int) (v : Value) (tv : Value) (ts : List Int) (w : World) (hr : Ints w v bl) (hbl : bl.length ≤ 9223372036854775807) (hrt : Ints w tv ts) (htl : ts.length ≤ 9223372036854775807) (ad : Nat → Addr) (hE : Errs w ad) :
    Calls Tryd.prog 7 #[g.v, v, tv] w fun r w' => r = .returned (.bool true) ∧ Same w w' := by
  obtain ⟨ta, tc, rfl⟩ := hrt.slice
  obtain ⟨l, hl⟩ : ∃ l, l = ts.length := ⟨_, rfl⟩
  have HTL : Hid (Ints w (.slice ta l tc) ts) := hid (by rw [hl]; exact hrt)
  have HL := hid hl
  rw [← hl] at htl ⊢
  clear hrt hl
  obtain ⟨a, cb, rfl⟩ := hr.slice
  have HE := hid hE
  have HYES := hid (fun (hg : g.right = true ∧ g.W * g.H ≤ 256 ∧ bl.length ≤ 300) (w' : World) (hs : Same w w') => made_yes g bl _ (hr.same hs) hg.2.2 hg.1 hg.2.1 ad (hE.same hs).three)
  have HNO := hid (fun (hg : ¬ (g.right = true ∧ g.W * g.H ≤ 256 ∧ bl.length ≤ 300)) (w' : World) (hs : Same w w') => made_no g bl _ (hr.same hs) hbl hg)
  have hcase : (g.right = true ∧ g.W * g.H ≤ 256 ∧ bl.length ≤ 300) ∨ ¬ (g.right = true ∧ g.W * g.H ≤ 256 ∧ bl.length ≤ 300) := Classical.em _
  have HC := hid hcase
  obtain ⟨W, H, S, X, Y⟩ := g
  unfold Grd.v at *
  simp only at HYES HNO ⊢
  have Z := hid ((Star.new w).alloc #[.int .i64 W, .int .i64 H, .int .i64 S, .int .i64 X, .int .i64 Y] 23)
  clear hE hr hcase hbl
  go_enter Tryd.func7, Tryd.ntmps7
  go_wp2_with fail
  generalize w.alloc _ = wz at *
  generalize w.heap.size = q at *
  refine (alive_any ad (HE.out.same Z.out.same).jmp).mono ?_
  rintro r w1 ⟨rfl, hs⟩
  have Z1 := hid (Z.out.go hs)
  have hbk := (Z1.out.blk 0 rfl).1
  have hql := lt_of hbk
  have c0 := cell_of hbk 0
  have c1 := cell_of hbk 1
  have c2 := cell_of hbk 2
  have c3 := cell_of hbk 3
  have c4 := cell_of hbk 4
  simp only [List.getElem?_toArray, List.getElem?_cons_zero, List.getElem?_cons_succ] at c0 c1 c2 c3 c4
  clear hs Z hbk
  go_wp2_with fail
  rcases HC.out with hg | hg
  case inr =>
    refine (HNO.out hg w1 Z1.out.same).mono ?_
    rintro r w2 ⟨rfl, hs2⟩
    have S2 := hid (Z1.out.same.trans hs2 (fun _ _ f => f))
    clear hs2
    go_wp2
    go_ret
    exact ⟨rfl, S2.out⟩
  refine (HYES.out hg w1 Z1.out.same).mono ?_
  rintro r w2 ⟨p, mm, G, hok, hmax, rfl, hX⟩
  have X2 : Hid (Star w w2 [gndR 71 mm G, gndR 93 p G]) := hid (((Star.new w).go Z1.out.same).lift hX)
  have OK := hid hok
  clear hX hok Z1 HYES HNO HC hg c0 c1 c2 c3 c4 hql
  by_cases h200 : 200 < l
  · go_wp2
    go_ret
    exact ⟨rfl, X2.out.same⟩
  go_wp2_with fail
  refine (Num.ints_any _ ts _ (HTL.out.same X2.out.same) (by rw [← HL.out]; omega)).mono ?_
  rintro r w3 ⟨gc, cp, rfl, hC, hs3⟩
  have X3 := hid (X2.out.go hs3)
  have hcap := hC.cap
  have HC := hid hC.reads
  rw [← HL.out] at hcap ⊢
  have HC2 : Hid (Ints w3 (.slice (some ⟨gc, 0, none⟩) l cp) ts) := hid (by rw [HL.out]; exact HC.out)
  obtain ⟨pg, pc, h1, -⟩ := gnd_at X3.out 1 rfl
  have H1 := hid h1
  clear hs3 X2 hC HC h1
  go_wp2_with fail
  refine (turns_any H1.out _ l cp ts HC2.out (by omega) (by rw [← HL.out]; omega) ad (HE.out.same X3.out.same).five).mono ?_
  intro r w4 hA
  obtain ⟨mg, mc, h2, -⟩ := gnd_at X3.out 0 rfl
  have H2 := hid h2
  clear h2 HC2
  rcases hA with ⟨kc, v4, hz, rfl, hX4⟩ | ⟨k, hk10, hz, rfl, hs4⟩
  · have HZ := hid hz
    obtain ⟨hne, hhas, hfree, hwk⟩ : ts ≠ [] ∧ (∀ x ∈ ts, G.has x = true) ∧ (∀ x ∈ ts, G.free x.toNat = true) ∧ G.walkC (ts.map Int.toNat) = some kc := by
      rcases cost_cases G ts with ⟨c, e1, e2, e3, e4, e5⟩ | ⟨k, _, e1⟩
      · rw [hz] at e1; cases e1; exact ⟨e2, e3, e4, e5⟩
      · rw [hz] at e1
        have := (Prod.mk.inj e1).2
        omega
    obtain ⟨ns, hns⟩ : ∃ ns, ns = ts.map Int.toNat := ⟨_, rfl⟩
    have hts : ts = ns.map Int.ofNat := by
      rw [hns, List.map_map]
      conv => lhs; rw [← List.map_id ts]
      apply List.map_congr_left
      intro x hx
      have := of_decide_eq_true (hhas x hx)
      simp only [id, Function.comp_apply, Int.ofNat_eq_natCast]
      omega
    have hex : G.expand ((G.turns ns).map Int.ofNat) = (some ns, 0) := Gr.turns_expand OK.out (by rw [hns]; simpa using hne) (by
      intro t ht
      rw [hns] at ht
      obtain ⟨x, hx, rfl⟩ := List.mem_map.1 ht
      exact hfree x hx) (by rw [hns]; exact hwk)
    have hlen : (G.turns ns).length ≤ l + 1 := by
      have := Gr.turns_len (G := G) ns
      rw [hns, List.length_map, ← HL.out, ← hns] at this
      exact this
    have HR := hid (fun (w : World) (hM : Gnd 71 w mm mg mc G) (hr : Ints w (.slice ta l tc) ts) => rturns_any hM _ ts hr (by rw [← HL.out]; omega) hne hhas hfree kc hwk)
    rw [← hns] at hX4 HR
    have HEX := hid hex
    have HTS := hid hts
    obtain ⟨tu, htu⟩ : ∃ tu, tu = G.turns ns := ⟨_, rfl⟩
    rw [← htu] at hX4 hlen HEX HR
    obtain ⟨va, vc, rfl, -⟩ := own_slice (hX4.row 0 rfl).1
    have X4 := hid (X3.out.lift hX4)
    have H4 := hid (H2.out.same hX4.same)
    have K4 := hid (H1.out.same hX4.same)
    clear hX4 hz X3 hns hts hex htu hne hhas hfree hwk H1 H2
    go_wp2_with fail
    refine (rcost_any H4.out _ ts (HTL.out.same X4.out.same) (by rw [← HL.out]; omega)).mono ?_
    rintro r w5 ⟨rfl, hs5⟩
    rw [HZ.out]
    have X5 := hid (X4.out.go hs5)
    have H5 := hid (H4.out.same hs5)
    have K5 := hid (K4.out.same hs5)
    clear hs5 X4 H4 K4
    go_wp2_with fail
    refine (HR.out _ H5.out (HTL.out.same X5.out.same)).mono ?_
    rintro r w6 ⟨v6, rfl, hX6⟩
    have X6 := hid (X5.out.lift hX6)
    obtain ⟨vb, vd, rfl, -⟩ := own_slice (hX6.row 0 rfl).1
    have K6 := hid (K5.out.same hX6.same)
    have R1 := hid (rowInts (X6.out.row 1 rfl).1)
    have R2 := hid (rowInts (X6.out.row 0 rfl).1)
    clear hX6 X5 K5 H5 HR
    go_wp2_with fail
    refine (Num.sameInts _ _ (tu.map Int.ofNat) (tu.map Int.ofNat) _ R1.out R2.out (by rw [List.length_map]; omega) (by rw [List.length_map]; omega)).mono ?_
    rintro r w7 ⟨rfl, hs7⟩
    rw [decide_eq_true rfl]
    have X7 := hid (X6.out.go hs7)
    have K7 := hid (K6.out.same hs7)
    have R7 := hid (rowInts (X7.out.row 1 rfl).1)
    have hcp := own_cap (X7.out.row 1 rfl).1
    clear hs7 X6 K6 R1 R2
    go_wp2_with fail
    refine (expand_any K7.out _ tu.length vc (tu.map Int.ofNat) R7.out hcp (by rw [List.length_map]; omega) ad (HE.out.same X7.out.same).jmp).mono ?_
    intro r w8 hA
    rw [HEX.out] at hA
    obtain ⟨v8, rfl, hX8⟩ := hA
    rw [show errV ad (some ns, (0 : Int)).2.toNat = .nilIface from rfl]
    obtain ⟨vh, vi, rfl, -⟩ := own_slice (hX8.row 0 rfl).1
    have X8 := hid (X7.out.lift hX8)
    have R8 := hid (rowInts (X8.out.row 0 rfl).1)
    clear hX8 X7 K7 R7 hcp
    go_wp2_with fail
    refine (Num.sameInts _ _ (ns.map Int.ofNat) ts _ R8.out (HTL.out.same X8.out.same) (by rw [← HTS.out, ← HL.out]; omega) (by rw [← HL.out]; omega)).mono ?_
    rintro r w9 ⟨rfl, hs9⟩
    rw [decide_eq_true HTS.out.symm]
    have X9 := hid (X8.out.go hs9)
    clear hs9 X8 R8
    go_wp2
    go_ret
    exact ⟨rfl, X9.out.same⟩
  · have HZ := hid hz
    have X4 := hid (X3.out.go hs4)
    have H4 := hid (H2.out.same hs4)
    clear hs4 hz X3 H1 H2
    go_wp2_with fail
    refine (rcost_any H4.out _ ts (HTL.out.same X4.out.same) (by rw [← HL.out]; omega)).mono ?_
    rintro r w5 ⟨rfl, hs5⟩
    rw [HZ.out]
    have X5 := hid (X4.out.go hs5)
    have hkz : ((k : Int) + 1 == 0) = false := by rw [beq_eq_false_iff_ne]; omega
    have hkz2 : ((k : Int) + 1 != 0) = true := by rw [bne_iff_ne]; omega
    clear hs5 X4 H4
    go_wp2_with fail
    refine (num_err ad k hk10 _ (HE.out.same X5.out.same)).mono ?_
    rintro r w6 ⟨rfl, hs6⟩
    have X6 := hid (X5.out.go hs6)
    clear hs6 X5
    go_wp2
    go_ret
    exact ⟨rfl, X6.out.same⟩
end Go.Proofs.YtdihnjhbopogoaaDoor.JumpTurns
