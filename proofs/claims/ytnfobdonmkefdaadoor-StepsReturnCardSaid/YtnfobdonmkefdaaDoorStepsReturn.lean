/-
  StepsReturn: the walk.
-/
import Derived.Test.YtnfobdonmkefdaaDoorAlive16
import Derived.Test.YtnfobdonmkefdaaDoorStepGuess
import Derived.Test.YtnfobdonmkefdaaDoorStepBlocked
namespace Go.Proofs.YtnfobdonmkefdaaDoor.StepsReturn
open Go Go.RowKit Go.Proofs.YtnfobdonmkefdaaDoor.Err Go.Proofs.YtnfobdonmkefdaaDoor.Steps

theorem costV_ok (ad : Nat → Addr) (c : Int) : costV ad (c, 0) = .tuple #[.int .i64 c, .nilIface] := rfl
theorem nC_reads {w : World} {v : Value} {l : List Nat} (h : Reads w v l.length 1 (nC l)) : Ints w v (l.map Int.ofNat) := by
  show Reads w v (l.map Int.ofNat).length 1 ((l.map Int.ofNat).map (Value.int .i64))
  rw [List.length_map, ← nC_ints]
  exact h
/-- A walk from k to u, and back. -/
structure Rt (G : Gr) (k : Nat) (ns : List Nat) (u : Nat) (c : Int) : Prop where
  last : ∃ l, ns = l ++ [u]
  head : ns[0]? = some k
  free : ∀ x ∈ ns, G.free x = true
  walk : G.walkC ns = some c
  back : G.walkC ns.reverse = some c
  gs : G.guess k u ≤ c
theorem Rt.start {G : Gr} {k : Nat} (hf : G.free k = true) : Rt G k [k] k 0 :=
  ⟨⟨[], rfl⟩, rfl, fun x hx => by simp at hx; rw [hx]; exact hf, rfl, rfl, by rw [Gr.guess_self]; omega⟩
theorem Rt.step {G : Gr} (hok : G.Ok) {k u v d : Nat} {ns : List Nat} {c e : Int} (h : Rt G k ns u c) (hg : G.go u d = some (v, e)) : Rt G k (ns ++ [v]) v (c + e) := by
  obtain ⟨l, rfl⟩ := h.last
  have he := Gr.edge_of hok hg
  have hb := Gr.edge_of hok (Gr.go_back hok hg)
  have hgu := Gr.go_guess hok hg
  have hfv := (Gr.go_end hok hg).1
  refine ⟨⟨_, rfl⟩, ?_, ?_, Gr.walkC_snoc l h.walk he, ?_, ?_⟩
  · rw [List.getElem?_append_left (by simp)]; exact h.head
  · intro x hx
    rw [List.mem_append] at hx
    rcases hx with hx | hx
    · exact h.free x hx
    · simp at hx; rw [hx]; exact hfv
  · have h2 := h.back
    rw [List.reverse_append] at h2 ⊢
    rw [List.reverse_append] at ⊢
    simp only [List.reverse_cons, List.reverse_nil, List.nil_append, List.cons_append] at h2 ⊢
    rw [Gr.walkC_cons h2 hb, Int.add_comm]
  · have := Gr.guess_tri (G := G) k u v
    have := h.gs
    omega

set_option maxRecDepth 100000 in
set_option maxHeartbeats 8000000 in
theorem walk (g : Grd) (bl : List Int) (v : Value) (dv : Value) (ds : List Int) (w : World) (hr : Ints w v bl) (hbl : bl.length ≤ 9223372036854775807) (hrd : Ints w dv ds) (hdl : ds.length ≤ 9223372036854775807) (ad : Nat → Addr) (hE : Errs5 w ad) :
    Calls Tryd.prog 4 #[g.v, v, dv] w fun r w' => r = .returned (.bool true) ∧ Same w w' := by
  obtain ⟨i0, hi0, hz0, hz1, hz2⟩ := info_parts infoI2
  obtain ⟨da, dc, rfl⟩ := hrd.slice
  obtain ⟨l, hl⟩ : ∃ l, l = ds.length := ⟨_, rfl⟩
  have HD : Hid (∀ j (hj : j < ds.length), ∃ b off cap, Value.slice da l dc = .slice (some ⟨b, off, none⟩) l cap ∧ w.cell? ⟨b, off + j, none⟩ = some (.int .i64 ds[j])) := hid (fun j hj => by
    obtain ⟨b, off, cap, e, _, hc⟩ := hrd.cells (by omega)
    rw [← hl] at e
    exact ⟨b, off, cap, e, hc j hj⟩)
  have HL := hid hl
  rw [← hl] at hdl ⊢
  clear hrd hl
  obtain ⟨a, cb, rfl⟩ := hr.slice
  have HE := hid hE
  have HYES := hid (fun (hg : g.right = true ∧ bl.length ≤ 500) (w' : World) (hs : Same w w') => made_yes g bl _ (hr.same hs) hg.2 hg.1 ad (hE.same hs))
  have HNO := hid (fun (hg : ¬ (g.right = true ∧ bl.length ≤ 500)) (w' : World) (hs : Same w w') => made_no g bl _ (hr.same hs) hbl hg)
  have hcase : (g.right = true ∧ bl.length ≤ 500) ∨ ¬ (g.right = true ∧ bl.length ≤ 500) := Classical.em _
  have HC := hid hcase
  obtain ⟨W, H, S, X, Y⟩ := g
  unfold Grd.v at *
  simp only at HYES HNO ⊢
  have Z := hid ((Star.new w).alloc #[.int .i64 W, .int .i64 H, .int .i64 S, .int .i64 X, .int .i64 Y] 23)
  clear hE hr hcase hbl
  go_enter Tryd.func4, Tryd.ntmps4
  go_wp2_with fail
  generalize w.alloc _ = wz at *
  generalize w.heap.size = q at *
  refine (alive_any ad (HE.out.same Z.out.same)).mono ?_
  rintro r w1 ⟨rfl, hs⟩
  have Z1 := hid (Z.out.go hs)
  have hbk := (Z1.out.blk 0 rfl).1
  have hql := lt_of hbk
  have c0 := cell_of hbk 0
  have c1 := cell_of hbk 1
  have c2 := cell_of hbk 2
  have c3 := cell_of hbk 3
  have c4 := cell_of hbk 4
  simp only [List.getElem?_toArray, List.getElem?_cons_zero, List.getElem?_cons_succ] at c0 c1 c2 c3 c4
  clear hs Z hbk
  go_wp2_with fail
  rcases HC.out with hg | hg
  case inr =>
    refine (HNO.out hg w1 Z1.out.same).mono ?_
    rintro r w2 ⟨rfl, hs2⟩
    have S2 := hid (Z1.out.same.trans hs2 (fun _ _ f => f))
    clear hs2
    go_wp2
    go_ret
    exact ⟨rfl, S2.out⟩
  refine (HYES.out hg w1 Z1.out.same).mono ?_
  rintro r w2 ⟨p, mm, G, hok, hGW, hGH, rfl, hX⟩
  have X2 : Hid (Star w w2 [gndR 63 mm G, gndR 65 p G]) := hid (((Star.new w).go Z1.out.same).lift hX)
  have OK := hid hok
  have hmax := hok.max
  clear hX hok hGW hGH Z1 HYES HNO HC hg c0 c1 c2 c3 c4 hql
  have X3 := hid X2.out.drop
  clear X2
  by_cases h100 : 100 < l
  · go_wp2
    go_ret
    exact ⟨rfl, X3.out.same⟩
  obtain ⟨n, hn⟩ : ∃ n, n = G.fs.length := ⟨_, rfl⟩
  rw [← hn] at hmax
  have HN := hid hn
  clear hn
  go_wp2_with fail
  go_loopw [10] (fun iv wr => ∃ k : Nat, k ≤ n ∧ iv = .int .i64 k ∧ Star w wr [gndR 65 p G]) (fun iv _ => n - (intOf iv).toNat)
  case atStart => exact ⟨0, by omega, rfl, X3.out⟩
  case round =>
    obtain ⟨k, hk, rfl, hX⟩ := hrel
    have X4 := hid hX
    clear hX X3
    go_wp2_with fail
    obtain ⟨g1, cg1, h1, -⟩ := gnd_at X4.out 0 rfl
    refine (len_any h1).mono ?_
    rintro r w3 ⟨rfl, rfl⟩
    rw [← HN.out]
    clear h1
    by_cases hkn : k < n
    · go_wp2_with fail
      obtain ⟨g1, cg1, h1, -⟩ := gnd_at X4.out 0 rfl
      refine (free_any h1 k).mono ?_
      rintro r w3 ⟨rfl, rfl⟩
      rw [Gr.freeI_nat]
      clear h1
      cases hf : G.free k with
      | false =>
        go_wp2
        go_roundw
        case rel =>
          have hrel : ∃ k' : Nat, k' ≤ n ∧ Value.int .i64 ((k : Int) + 1) = .int .i64 k' ∧ Star w _ [gndR 65 p G] := ⟨k + 1, by omega, by go_num, X4.out⟩
          first | exact hrel | ((repeat apply Exists.intro); exact ⟨hrel, rfl⟩)
        case measure => simp [intOf]; omega
      | true =>
        have HF := hid hf
        clear hf
        have hkn3 : ((k : Int) == (n : Int)) = false := by rw [beq_eq_false_iff_ne]; omega
        go_wp2_with fail
        obtain ⟨g1, cg1, h1, -⟩ := gnd_at X4.out 0 rfl
        refine (len_any h1).mono ?_
        rintro r w3 ⟨rfl, rfl⟩
        rw [← HN.out]
        clear h1
        have X5 := hid (X4.out.add (w' := wr.alloc (.cells #[.int .i64 k] 3)) ((Chg.refl _).alloc _) (R := Row 3 1 (.slice (some ⟨wr.heap.size, 0, none⟩) 1 1) 1 (nC [k])) ⟨World.ownsRow_lit wr #[.int .i64 k] 1 (Nat.zero_le _) (by unfold maxLen; omega) rfl, rfl⟩ (fun i h => by have : wr.heap.size = i := Option.some.inj h; omega))
        have X6 := hid (X5.out.add (w' := (wr.alloc (.cells #[.int .i64 k] 3)).alloc (.cells #[.int .i64 k] 3)) ((Chg.refl _).alloc _) (R := Row 3 1 (.slice (some ⟨(wr.alloc (.cells #[.int .i64 k] 3)).heap.size, 0, none⟩) 1 1) 1 (nC [k])) ⟨World.ownsRow_lit _ #[.int .i64 k] 1 (Nat.zero_le _) (by unfold maxLen; omega) rfl, rfl⟩ (fun i h => by have : (wr.alloc (.cells #[.int .i64 k] 3)).heap.size = i := Option.some.inj h; omega))
        rw [World.size_alloc] at X6
        have RT := hid (Rt.start HF.out)
        clear X4 X5
        go_wp2_with fail
        generalize World.alloc _ _ = w6 at *
        go_loopw [10, 11, 12, 13, 62] (fun uv v11 v12 cv iv wr2 => ∃ (j u : Nat) (ns : List Nat) (c : Int), j ≤ l ∧ iv = .int .i64 j ∧ uv = .int .i64 u ∧ cv = .int .i64 c ∧ Rt G k ns u c ∧ ns.length ≤ j + 1 ∧ 0 ≤ c ∧ c ≤ 14 * j ∧ Star w wr2 [Row 3 1 v12 ns.length (nC ns.reverse), Row 3 1 v11 ns.length (nC ns), gndR 65 p G]) (fun _ _ _ _ iv _ => l - (intOf iv).toNat)
        case atStart => exact ⟨0, k, [k], 0, by omega, rfl, rfl, rfl, RT.out, by simp, by omega, by omega, X6.out⟩
        case round =>
          obtain ⟨j, u, ns, c, hj, rfl, rfl, rfl, hrt, hlen, hc0, hc1, hX⟩ := hrel
          have RT2 := hid hrt
          have X7 := hid hX
          clear hrt hX X6 RT
          obtain ⟨a11, c11, rfl, -⟩ := own_slice (X7.out.row 1 rfl).1
          obtain ⟨a12, c12, rfl, -⟩ := own_slice (X7.out.row 0 rfl).1
          by_cases hjl : j < l
          · obtain ⟨b, off, cap, e1, hc⟩ := HD.out j (by have := HL.out; omega)
            cases e1
            have hcj := X7.out.same.keep hc
            clear hc
            obtain ⟨d, hd8, hmod⟩ := mod_small ds[j] 8 (by omega) (by omega)
            have hmod2 : wrap64 ((IntKind.u64.wrap ds[j]).tmod 8) = (d : Int) := hmod
            generalize ds[j] = x at *
            clear hmod
            go_wp2_with fail
            obtain ⟨g1, cg1, h1, -⟩ := gnd_at X7.out 2 rfl
            refine (go_any h1 u d).mono ?_
            rintro r w8 ⟨rfl, hs8⟩
            have X8 := hid (X7.out.go hs8)
            rw [Gr.goI_nat]
            clear h1 hs8 X7
            cases hgo : G.go u d with
            | none =>
              unfold goV
              go_wp2
              go_roundw
              case rel =>
                have hrel : ∃ (j' u' : Nat) (ns' : List Nat) (c' : Int), j' ≤ l ∧ Value.int .i64 ((j : Int) + 1) = .int .i64 j' ∧ Value.int .i64 (u : Int) = .int .i64 u' ∧ Value.int .i64 c = .int .i64 c' ∧ Rt G k ns' u' c' ∧ ns'.length ≤ j' + 1 ∧ 0 ≤ c' ∧ c' ≤ 14 * (j' : Int) ∧ Star w _ [Row 3 1 (.slice a12 ns.length c12) ns'.length (nC ns'.reverse), Row 3 1 (.slice a11 ns.length c11) ns'.length (nC ns'), gndR 65 p G] := ⟨j + 1, u, ns, c, by omega, by go_num, rfl, rfl, RT2.out, by omega, by omega, by omega, (X8.out.alloc #[.int .i64 0, .int .i64 0, .int .i64 0] 34).drop⟩
                first | exact hrel | ((repeat apply Exists.intro); exact ⟨hrel, rfl⟩)
              case measure => simp [intOf]; omega
            | some pr =>
              obtain ⟨u2, e⟩ := pr
              have RT3 := hid (Rt.step OK.out RT2.out hgo)
              have heb : 0 ≤ e ∧ e ≤ 14 := edge_bound OK.out (Gr.edge_of OK.out hgo)
              clear hgo RT2
              have hwc : IntKind.i64.wrap (c + e) = c + e := IntWalk.i64_in _ (by omega)
              unfold goV
              have XA := hid ((X8.out.alloc #[.int .i64 d, .int .i64 u2, .int .i64 e] 34).alloc #[.int .i64 u2] 3)
              rw [World.size_alloc] at XA
              clear X8
              go_wp2_with (first
                | (at_builtin; refine wpList_app rfl (.tmp 83) (.tmp 85) 24 rfl 3 i0 (.int .i64 0) 1 8 Tryd.underlying24 hi0 hz0 hz1 hz2 rfl (by decide) _ ns.length (nC ns) rfl (XA.out.row 3 rfl).1 (some ⟨w8.heap.size + 1, 0, none⟩) 1 1 [.int .i64 u2] rfl (reads_blk (XA.out.blk 0 rfl).1 1 1 1 rfl) (by simp [Value.oneCell']) (by omega) (by omega) ?_; intro a3 c3 w3 ho3 hg3 hn3; have XB := hid (XA.out.grown 3 rfl ho3 hg3 hn3).drop.drop; have XC := hid (XB.out.add (w' := w3.alloc (.cells #[.int .i64 u2] 3)) ((Chg.refl _).alloc _) (R := Row 3 1 (.slice (some ⟨w3.heap.size, 0, none⟩) 1 1) 1 (nC [u2])) ⟨World.ownsRow_lit w3 #[.int .i64 u2] 1 (Nat.zero_le _) (by unfold maxLen; omega) rfl, rfl⟩ (fun i h => by have : w3.heap.size = i := Option.some.inj h; omega)); clear ho3 hg3 hn3 XA XB)
                | (at_builtin; refine wpList_app rfl (.tmp 88) (.tmp 89) 24 rfl 3 i0 (.int .i64 0) 1 8 Tryd.underlying24 hi0 hz0 hz1 hz2 rfl (by decide) _ 1 (nC [u2]) rfl (XC.out.row 0 rfl).1 a12 ns.length c12 (nC ns.reverse) rfl (Reads.of_own (XC.out.row 1 rfl).1) (nC_one _) (by omega) (by omega) ?_; intro a5 c5 w5 ho5 hg5 hn5; have XD := hid (((XC.out.grown 0 rfl ho5 hg5 hn5).pull 1 rfl).drop); clear ho5 hg5 hn5 XC))
              go_roundw
              case rel =>
                have e1 : (ns ++ [u2]).length = ns.length + 1 := by simp
                have e2 : nC (ns ++ [u2]).reverse = nC [u2] ++ nC ns.reverse := by simp [nC]
                have h4 : Star w w5 [Row 3 1 (.slice a5 (1 + ns.length) c5) (1 + ns.length) (nC [u2] ++ nC ns.reverse), Row 3 1 (.slice a3 (ns.length + 1) c3) (ns.length + 1) (nC ns ++ [.int .i64 u2]), gndR 65 p G] := XD.out
                rw [Nat.add_comm 1 ns.length] at h4
                have hrel : ∃ (j' u' : Nat) (ns' : List Nat) (c' : Int), j' ≤ l ∧ Value.int .i64 ((j : Int) + 1) = .int .i64 j' ∧ Value.int .i64 (u2 : Int) = .int .i64 u' ∧ Value.int .i64 (c + e) = .int .i64 c' ∧ Rt G k ns' u' c' ∧ ns'.length ≤ j' + 1 ∧ 0 ≤ c' ∧ c' ≤ 14 * (j' : Int) ∧ Star w w5 [Row 3 1 (.slice a5 (ns.length + 1) c5) ns'.length (nC ns'.reverse), Row 3 1 (.slice a3 (ns.length + 1) c3) ns'.length (nC ns'), gndR 65 p G] := ⟨j + 1, u2, ns ++ [u2], c + e, by omega, by go_num, rfl, rfl, RT3.out, by rw [e1]; omega, by omega, by omega, by rw [e1, e2, nC_snoc]; exact h4⟩
                try rw [Nat.add_comm 1 ns.length]
                first | exact hrel | ((repeat apply Exists.intro); exact ⟨hrel, rfl⟩)
              case measure => simp [intOf]; omega
          · have hrt := RT2.out
            have hne : ns ≠ [] := by obtain ⟨l, e⟩ := hrt.last; rw [e]; simp
            have hnl : 0 < ns.length := List.length_pos_iff.2 hne
            have hcw := hid (Gr.cost_ok (G := G) hne hrt.free hrt.walk)
            have hcb := hid (Gr.cost_ok (G := G) (l := ns.reverse) (by simpa using hne) (fun x hx => hrt.free x (by simpa using hx)) hrt.back)
            have hkf := Gr.free_in (hrt.free k (List.mem_of_getElem? hrt.head))
            have huf : u < G.fs.length := Gr.free_in (hrt.free u (by obtain ⟨l, e⟩ := hrt.last; rw [e]; simp))
            have hgs := hrt.gs
            have hhd := hid hrt.head
            clear hrt
            go_wp2_with fail
            obtain ⟨g1, cg1, h1, -⟩ := gnd_at X7.out 2 rfl
            refine (cost_any h1 a11 ns.length c11 (ns.map Int.ofNat) (nC_reads (Reads.of_own (X7.out.row 1 rfl).1)) (own_cap (X7.out.row 1 rfl).1) (by rw [List.length_map]; omega) ad (HE.out.same X7.out.same)).mono ?_
            rintro r w8 ⟨rfl, hs8⟩
            rw [hcw.out, costV_ok]
            have X8 := hid (X7.out.go hs8)
            clear h1 hs8 X7 hcw
            go_wp2_with fail
            obtain ⟨g1, cg1, h1, -⟩ := gnd_at X8.out 2 rfl
            have hrb : Reads w8 (.slice a12 ns.length c12) ns.reverse.length 1 (nC ns.reverse) := by rw [List.length_reverse]; exact Reads.of_own (X8.out.row 0 rfl).1
            refine (cost_any h1 a12 ns.length c12 (ns.reverse.map Int.ofNat) (nC_reads hrb) (own_cap (X8.out.row 0 rfl).1) (by rw [List.length_map, List.length_reverse]; omega) ad (HE.out.same X8.out.same)).mono ?_
            rintro r w9 ⟨rfl, hs9⟩
            rw [hcb.out, costV_ok]
            have X9 := hid (X8.out.go hs9)
            clear h1 hs9 X8 hcb hrb
            obtain ⟨gr, cr, e1⟩ := own_shape (X9.out.row 1 rfl).1 hnl
            cases e1
            have hw0 := ((X9.out.row 1 rfl).1.cellAt 0 (by omega)).trans (show (nC ns)[0]? = some (.int .i64 (k : Int)) by unfold nC; rw [List.getElem?_map, hhd.out]; rfl)
            go_wp2_with fail
            obtain ⟨g1, cg1, h1, -⟩ := gnd_at X9.out 2 rfl
            refine (guess_in h1 k u hkf huf).mono ?_
            rintro r w10 ⟨rfl, hs10⟩
            have X10 := hid (X9.out.go hs10)
            have hdec : decide (G.guess k u ≤ c) = true := decide_eq_true hgs
            clear h1 hs10 X9 hw0 hgs
            go_wp2
            go_ret
            exact ⟨ret_bool (by first | exact hdec | rfl), X10.out.same⟩
    · have hkn2 : k = n := by omega
      subst hkn2
      go_wp2_with fail
      obtain ⟨g1, cg1, h1, -⟩ := gnd_at X4.out 0 rfl
      refine (len_any h1).mono ?_
      rintro r w3 ⟨rfl, rfl⟩
      rw [← HN.out]
      clear h1
      go_wp2
      go_ret
      exact ⟨rfl, X4.out.same⟩
end Go.Proofs.YtnfobdonmkefdaaDoor.StepsReturn
