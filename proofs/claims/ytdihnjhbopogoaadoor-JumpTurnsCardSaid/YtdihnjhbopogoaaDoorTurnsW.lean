/-
  Package jump: Turns, by its contract.
-/
import Derived.Test.YtdihnjhbopogoaaDoorTurnsP
import Derived.Test.YtdihnjhbopogoaaDoorStepCost
import Derived.Test.YtdihnjhbopogoaaDoorSearchAll
namespace Go.Proofs.YtdihnjhbopogoaaDoor.Jmp
open Go Go.RowKit Go.Proofs.YtdihnjhbopogoaaDoor.Steps Go.Proofs.YtdihnjhbopogoaaDoor.Route Go.Proofs.YtdihnjhbopogoaaDoor.Err
section
variable {w : World} {B : Nat}
set_option maxRecDepth 100000 in
theorem isTo2 (t : Int) (hB : w.cell? ⟨B, 0, none⟩ = some (.int .i64 t)) (s : Gr.St) : Calls Tryd.prog 51 #[.agg #[.int .i64 s.d, .int .i64 s.to, .int .i64 s.c], .pointer (some ⟨B, 0, none⟩)] w fun r w' => r = .returned (.bool ((s.to : Int) == t)) ∧ Same w w' := by
  have hl := World.block_lt_of_cell? w _ hB
  go_enter Tryd.func51, Tryd.ntmps51
  go_wp2
  go_ret
  exact ⟨rfl, (Chg.refl _).alloc _⟩

set_option maxRecDepth 100000 in
set_option maxHeartbeats 1000000 in
theorem idxTo2 (t : Int) (hB : w.cell? ⟨B, 0, none⟩ = some (.int .i64 t)) (v : Value) (l : List Gr.St) (hr : Reads w v l.length 3 (stCs l)) (hx : l.length ≤ 8) :
    Calls Tryd.prog 50 #[v, .func (.func 51) #[] #[.pointer (some ⟨B, 0, none⟩)]] w fun r w' => ((r = .returned (.int .i64 (-1)) ∧ l.find? (fun s => (s.to : Int) == t) = none) ∨ (∃ (k : Nat) (s : Gr.St), r = .returned (.int .i64 k) ∧ l[k]? = some s ∧ l.find? (fun s => (s.to : Int) == t) = some s)) ∧ Same w w' := by
  obtain ⟨a, cp, rfl⟩ := hr.slice
  have HR := hid hr
  obtain ⟨n, hn⟩ : ∃ n, n = l.length := ⟨_, rfl⟩
  rw [← hn] at hx
  simp only [← hn] at HR ⊢
  have HN := hid hn
  have HB := hid hB
  clear hr hn hB
  go_enter Tryd.func50, Tryd.ntmps50
  go_wp2
  go_loopw [5, 8] (fun _ iv wr => ∃ k : Nat, k ≤ n ∧ iv = .int .i64 k ∧ Same w wr ∧ (l.take k).find? (fun s => (s.to : Int) == t) = none) (fun _ iv _ => n - (intOf iv).toNat)
  case atStart => exact ⟨0, by omega, rfl, Chg.refl _, by simp⟩
  case round =>
    obtain ⟨k, hk, rfl, hS, hA⟩ := hrel
    have HK := hid hA
    have HS := hid hS
    clear hA hS
    by_cases hkn : k < n
    · obtain ⟨b, off, cap, e1, hb, hcl⟩ := HR.out.open (by omega)
      cases e1
      obtain ⟨s, hs⟩ : ∃ s, l[k]? = some s := ⟨_, List.getElem?_eq_getElem (by have := HN.out; omega)⟩
      obtain ⟨g0, g1, g2⟩ := stCs_get l k s hs
      have q0 := HS.out.keep (hcl _ _ g0)
      have q1 := HS.out.keep (hcl _ _ g1)
      have q2 := HS.out.keep (hcl _ _ g2)
      rw [← Nat.add_assoc] at q1 q2
      have hts : l.take (k + 1) = l.take k ++ [s] := by
        have hlt := (List.getElem?_eq_some_iff.1 hs)
        rw [List.take_succ_eq_append_getElem hlt.1, hlt.2]
      have HTS := hid hts
      have HSS := hid hs
      clear hcl hs g0 g1 g2 hts
      go_wp2_with fail
      refine (isTo2 t (HS.out.keep HB.out) s).mono ?_
      rintro r w' ⟨rfl, hs1⟩
      have S1 := hid (Chg.trans (S := fun _ => False) HS.out hs1 (fun _ _ f => f))
      clear hs1
      cases hf : ((s.to : Int) == t) with
      | true =>
        go_wp2
        go_ret
        refine ⟨.inr ⟨k, s, rfl, HSS.out, ?_⟩, S1.out⟩
        rw [← List.take_append_drop (k + 1) l, HTS.out, List.find?_append, List.find?_append, HK.out]
        simp [hf]
      | false =>
        go_wp2
        go_roundw
        case rel => exact ⟨k + 1, by omega, by go_num, S1.out, by rw [HTS.out, List.find?_append, HK.out]; simp [hf]⟩
        case measure => simp [intOf]; omega
    · go_wp2
      go_ret
      exact ⟨.inl ⟨rfl, by have := HK.out; rwa [List.take_of_length_le (by have := HN.out; omega)] at this⟩, HS.out⟩
end
theorem cost_cases (G : Gr) (xs : List Int) : (∃ c, G.cost xs = (c, 0) ∧ xs ≠ [] ∧ (∀ x ∈ xs, G.has x = true) ∧ (∀ x ∈ xs, G.free x.toNat = true) ∧ G.walkC (xs.map Int.toNat) = some c) ∨ ∃ k : Nat, k < 10 ∧ G.cost xs = (0, (k : Int) + 1) := by
  unfold Gr.cost
  split
  · exact .inr ⟨2, by omega, rfl⟩
  · rename_i h0
    split
    · exact .inr ⟨0, by omega, rfl⟩
    · rename_i h1
      split
      · exact .inr ⟨7, by omega, rfl⟩
      · rename_i h2
        split
        · rename_i c hc
          refine .inl ⟨c, rfl, h0, ?_, ?_, hc⟩
          · intro x hx
            have h3 : xs.all G.has = true := by simpa using h1
            exact List.all_eq_true.1 h3 x hx
          · intro x hx
            have h3 : xs.any (fun t => !G.free t.toNat) = false := by simpa using h2
            have := List.any_eq_false.1 h3 x hx
            simpa using this
        · exact .inr ⟨8, by omega, rfl⟩
/-- What Turns answers. -/
def turnsA (ad : Nat → Addr) (G : Gr) (xs : List Int) (w w' : World) (r : Ending) : Prop :=
  (∃ c v, G.cost xs = (c, 0) ∧ r = .returned (.tuple #[v, .nilIface]) ∧ Star w w' [Row 3 1 v (G.turns (xs.map Int.toNat)).length (gC (G.turns (xs.map Int.toNat)))]) ∨
  (∃ k : Nat, k < 10 ∧ G.cost xs = (0, (k : Int) + 1) ∧ r = .returned (.tuple #[.slice none 0 0, .iface 137 (.pointer (some (ad k)))]) ∧ Same w w')
section
variable {w : World} {p g c : Nat} {G : Gr}
set_option maxRecDepth 100000 in
set_option maxHeartbeats 8000000 in
theorem turns_any (h : Gnd 93 w p g c G) (a : Option Addr) (m cp : Nat) (xs : List Int) (hr : Ints w (.slice a m cp) xs) (hcap : m ≤ cp) (hx : xs.length ≤ 100000) (ad : Nat → Addr) (hE : Errs5 w ad) :
    Calls Tryd.prog 23 #[.pointer (some ⟨p, 0, none⟩), .slice a m cp] w fun r w' => turnsA ad G xs w w' r := by
  obtain ⟨i0, hi0, hz0, hz1, hz2⟩ := info_parts infoInt
  obtain rfl : m = xs.length := by obtain ⟨_, _, e⟩ := hr.slice; cases e; rfl
  have H := hid h
  have HCO := hid (cost_any h a xs.length cp xs hr hcap hx ad hE)
  rcases cost_cases G xs with ⟨kc, hco, hne, hhas, hfree, hwk⟩ | ⟨k, hk, hco⟩
  case inr =>
    have HK := hid hco
    have he : costV ad (G.cost xs) = .tuple #[.int .i64 0, .iface 137 (.pointer (some (ad k)))] := by
      rw [hco]
      unfold costV
      rw [show ((0 : Int), (k : Int) + 1).2.toNat = k + 1 from by simp only; omega]
      rfl
    have HEV := hid he
    clear h hr hE hco he
    obtain ⟨l, hl⟩ : ∃ l, l = xs.length := ⟨_, rfl⟩
    rw [← hl] at HCO hcap ⊢
    clear hl
    go_enter Tryd.func23, Tryd.ntmps23
    go_wp2_with fail
    refine HCO.out.mono ?_
    rintro r w1 ⟨rfl, hs1⟩
    rw [HEV.out]
    have S1 := hid hs1
    clear hs1 HCO
    go_wp2
    go_ret2
    exact .inr ⟨k, hk, HK.out, rfl, S1.out⟩
  have he : costV ad (G.cost xs) = .tuple #[.int .i64 kc, .nilIface] := by rw [hco]; rfl
  have HEV := hid he
  have HK := hid hco
  obtain ⟨n, hn⟩ : ∃ n, n = xs.length := ⟨_, rfl⟩
  have hn1 : 1 ≤ n := by rw [hn]; cases xs with | nil => exact absurd rfl hne | cons _ _ => simp
  have HN := hid hn
  obtain ⟨b, off, cap, e1, hb, hcl⟩ := hr.cells (by omega)
  cases e1
  obtain ⟨ns, hns⟩ : ∃ ns, ns = xs.map Int.toNat := ⟨_, rfl⟩
  have hnsl : ns.length = n := by rw [hns, List.length_map, ← hn]
  have hnsg : ∀ (j : Nat) (x : Nat), ns[j]? = some x → w.cell? ⟨b, off + j, none⟩ = some (.int .i64 (x : Nat)) := by
    intro j x hj
    have hjx : j < xs.length := by have := (List.getElem?_eq_some_iff.1 hj).1; omega
    have h1 := hcl j hjx
    have h3 : 0 ≤ xs[j] ∧ xs[j] < G.fs.length := of_decide_eq_true (hhas xs[j] (List.getElem_mem hjx))
    have e : x = (xs[j]).toNat := by
      rw [hns, List.getElem?_map, List.getElem?_eq_getElem hjx] at hj
      exact (Option.some.inj hj).symm
    rw [e, h1, Int.toNat_of_nonneg h3.1]
  have HNG := hid hnsg
  have HNL := hid hnsl
  have HW := hid (show G.walkC ns = some kc by rw [hns]; exact hwk)
  have HA : Hid (∀ r w', (∃ v, r = Ending.returned (.tuple #[v, .nilIface]) ∧ Star w w' [Row 3 1 v (G.turns ns).length (gC (G.turns ns))]) → turnsA ad G xs w w' r) := hid (fun r w' hh => by
    obtain ⟨v, e1, e2⟩ := hh
    exact .inl ⟨kc, v, HK.out, e1, by rw [← hns]; exact e2⟩)
  obtain ⟨n0, hn0⟩ : ∃ n0, ns[0]? = some n0 := ⟨_, List.getElem?_eq_getElem (by omega)⟩
  have g0 : w.cell? ⟨b, off, none⟩ = some (.int .i64 n0) := hnsg 0 n0 hn0
  have HN0 := hid hn0
  rw [← hn] at HCO hcap hx ⊢
  clear h hr hE hco he hn hcl hne hhas hfree hwk hns hnsl hnsg hn0
  have ht0 : G.tr ns 0 = [n0] := by unfold Gr.tr; rw [getD_of HN0.out]
  have HT0 := hid ht0
  clear ht0
  by_cases h1 : n = 1
  · subst h1
    have HTT := hid (show G.turns ns = [n0] by unfold Gr.turns; rw [if_neg (by rw [HNL.out]; omega), HT0.out])
    by_cases hc1 : cp = 1
    · subst hc1
      go_enter Tryd.func23, Tryd.ntmps23
      go_wp2_with fail
      refine HCO.out.mono ?_
      rintro r w1 ⟨rfl, hs1⟩
      rw [HEV.out]
      have X1 := hid ((Star.new w).go hs1)
      have k0 := hs1.keep g0
      have kl := World.block_lt_of_cell? _ _ k0
      clear hs1 HCO g0
      have X2 := hid (X1.out.allocRow #[.int .i64 n0] 3 1 rfl (by omega))
      go_wp2_with fail
      go_loopw [8, 9, 30] (fun ov lv iv wr => ov = .slice (some ⟨w1.heap.size, 0, none⟩) 1 1 ∧ lv = .int .i64 (-1) ∧ iv = .int .i64 0 ∧ w1.alloc (.cells #[.int .i64 n0] 3) = wr) (fun _ _ _ _ => 0)
      case atStart => exact ⟨rfl, rfl, rfl, rfl⟩
      case round =>
        obtain ⟨rfl, rfl, rfl, rfl⟩ := hrel
        go_wp2
        go_ret2
        refine HA.out _ _ ⟨_, rfl, ?_⟩
        rw [HTT.out]
        exact X2.out
    · go_enter Tryd.func23, Tryd.ntmps23
      go_wp2_with fail
      refine HCO.out.mono ?_
      rintro r w1 ⟨rfl, hs1⟩
      rw [HEV.out]
      have X1 := hid ((Star.new w).go hs1)
      have k0 := hs1.keep g0
      have kl := World.block_lt_of_cell? _ _ k0
      clear hs1 HCO g0
      have X2 := hid (X1.out.allocRow #[.int .i64 n0] 3 1 rfl (by omega))
      go_wp2_with fail
      go_loopw [8, 9, 30] (fun ov lv iv wr => ov = .slice (some ⟨w1.heap.size, 0, none⟩) 1 1 ∧ lv = .int .i64 (-1) ∧ iv = .int .i64 0 ∧ w1.alloc (.cells #[.int .i64 n0] 3) = wr) (fun _ _ _ _ => 0)
      case atStart => exact ⟨rfl, rfl, rfl, rfl⟩
      case round =>
        obtain ⟨rfl, rfl, rfl, rfl⟩ := hrel
        go_wp2
        go_ret2
        refine HA.out _ _ ⟨_, rfl, ?_⟩
        rw [HTT.out]
        exact X2.out
  · have hn2 : 2 ≤ n := by omega
    have hc1 : ¬ cp = 1 := by omega
    have h0n : 0 < n := by omega
    have h1n : (1 : Int) ≤ (n : Int) := by omega
    go_enter Tryd.func23, Tryd.ntmps23
    go_wp2_with fail
    refine HCO.out.mono ?_
    rintro r w1 ⟨rfl, hs1⟩
    rw [HEV.out]
    have X1 := hid ((Star.new w).go hs1)
    have k0 := hs1.keep g0
    have kl := World.block_lt_of_cell? _ _ k0
    clear hs1 HCO g0
    have X2 := hid (X1.out.allocRow #[.int .i64 n0] 3 1 rfl (by omega))
    go_wp2_with fail
    clear k0 kl X1
    go_loopw [8, 9, 30] (fun ov lv iv wr => ∃ (k : Nat) (last : Int), k < n ∧ iv = .int .i64 k ∧ lv = .int .i64 last ∧ (0 < k → last = G.dirTo (ns.getD (k - 1) 0) (ns.getD k 0)) ∧ Star w wr [Row 3 1 ov (G.tr ns k).length (gC (G.tr ns k))]) (fun _ _ iv _ => n - (intOf iv).toNat)
    case atStart => exact ⟨0, -1, by omega, rfl, rfl, by omega, by rw [HT0.out]; exact X2.out⟩
    case round =>
      obtain ⟨k, last, hk, rfl, rfl, hlast, hX⟩ := hrel
      clear X2
      have X2 := hid hX
      have HLA := hid hlast
      obtain ⟨oa, oc, rfl, -⟩ := own_slice (hX.row 0 rfl).1
      have htl := Gr.tr_len (G := G) ns k
      obtain ⟨acc, hacc⟩ : ∃ acc, acc = G.tr ns k := ⟨_, rfl⟩
      have HAC := hid hacc
      rw [← hacc] at X2 htl
      rw [← hacc]
      obtain ⟨m, hm⟩ : ∃ m, m = acc.length := ⟨_, rfl⟩
      have HM := hid hm
      rw [← hm] at X2 htl
      rw [← hm]
      clear hX hlast hacc hm
      have hwk1 : IntKind.i64.wrap ((k : Int) + 1) = (k : Int) + 1 := IntWalk.i64_in _ (by omega)
      by_cases hkn : k < n - 1
      · obtain ⟨a, hka⟩ : ∃ a, ns[k]? = some a := ⟨_, List.getElem?_eq_getElem (by have := HNL.out; omega)⟩
        obtain ⟨d, hkb⟩ : ∃ d, ns[k + 1]? = some d := ⟨_, List.getElem?_eq_getElem (by have := HNL.out; omega)⟩
        have ga := X2.out.same.keep (HNG.out k a hka)
        have gb := X2.out.same.keep (HNG.out (k + 1) d hkb)
        rw [show off + (k + 1) = off + 1 + k by omega] at gb
        obtain ⟨e0, he0⟩ := Gr.walkC_edge ns HW.out k a d hka hkb
        obtain ⟨dd, cc, hgo, hdir, ss, hfind, hsd⟩ := Gr.edge_dir he0
        have HFI := hid (And.intro hfind hsd)
        have HDD := hid (show (dd : Int) = G.dirTo (ns.getD (k + 1 - 1) 0) (ns.getD (k + 1) 0) by rw [Nat.add_sub_cancel, getD_of hka, getD_of hkb, hdir])
        have HTA := hid (show G.turnAt ns k = (decide (0 < k) && ((dd : Int) != G.dirTo (ns.getD (k - 1) 0) (ns.getD k 0))) by unfold Gr.turnAt; rw [getD_of hka, getD_of hkb, hdir])
        have HKA := hid hka
        clear hka hkb he0 hgo hdir hfind hsd e0
        have X3 := hid (X2.out.alloc #[.int .i64 d] 3)
        have hr0 := cell_of (X3.out.blk 0 rfl).1 0
        simp only [List.getElem?_toArray, List.getElem?_cons_zero] at hr0
        have ga3 : (wr.alloc (.cells #[.int .i64 d] 3)).cell? ⟨b, off + k, none⟩ = some (.int .i64 a) := ((Chg.refl wr).alloc _ : Same _ _).keep ga
        have hbl3 := World.block_lt_of_cell? _ _ ga3
        go_wp2_with fail
        clear X2 ga gb
        generalize wr.alloc _ = w3 at *
        generalize wr.heap.size = r at *
        refine (around_any (H.out.same X3.out.same) a).mono ?_
        rintro r' w4 ⟨va, rfl, hA⟩
        have XA := hid (X3.out.lift hA)
        have ga4 := hA.same.keep ga3
        have gbl4 := World.block_lt_of_cell? _ _ ga4
        have hr1 := hA.same.keep hr0
        clear hA X3 ga3 hbl3 hr0
        obtain ⟨aa, ca, rfl, -⟩ := own_slice (XA.out.row 0 rfl).1
        have hal := G.aroundTo_len (a : Int) 8
        go_wp2_with fail
        refine (idxTo2 (d : Int) hr1 _ (G.aroundI a) (Reads.of_own (XA.out.row 0 rfl).1) hal).mono ?_
        rintro r5 w5 ⟨hcase, hs5⟩
        have X5 := hid (XA.out.go hs5)
        have ga5 := hs5.keep ga4
        have gbl5 := World.block_lt_of_cell? _ _ ga5
        clear hs5 hr1 XA ga4 gbl4
        rcases hcase with ⟨rfl, hnone⟩ | ⟨kk, st, rfl, hst, hsome⟩
        · rw [HFI.out.1] at hnone; cases hnone
        · rw [HFI.out.1] at hsome
          obtain rfl := Option.some.inj hsome
          have hkk : kk < (G.aroundI a).length := (List.getElem?_eq_some_iff.1 hst).1
          obtain ⟨gg, cg, e6⟩ := own_shape (X5.out.row 0 rfl).1 (by omega)
          cases e6
          have hcc := ((X5.out.row 0 rfl).1.cellAt (kk * 3 + 0) (by omega)).trans (stCs_get _ kk ss hst).1
          have hcs := (stCs_get _ kk ss hst).1
          rw [HFI.out.2] at hcs
          have HCS := hid hcs
          clear hcs
          rw [Nat.add_zero, HFI.out.2] at hcc
          have hgl := World.block_lt_of_cell? _ _ hcc
          obtain ⟨mm, hmm⟩ : ∃ mm, mm = (G.aroundI (a : Int)).length := ⟨_, rfl⟩
          clear hsome hst
          by_cases hk0 : k = 0
          · have HT := hid (show G.tr ns (k + 1) = acc by unfold Gr.tr; rw [HTA.out, hk0]; simp [HAC.out, hk0])
            subst hk0
            go_wp2
            go_roundw
            case rel =>
              have hrel : ∃ (k' : Nat) (last' : Int), k' < n ∧ Value.int .i64 (((0 : Nat) : Int) + 1) = .int .i64 k' ∧ Value.int .i64 (dd : Int) = .int .i64 last' ∧ (0 < k' → last' = G.dirTo (ns.getD (k' - 1) 0) (ns.getD k' 0)) ∧ Star w _ [Row 3 1 (.slice oa m oc) (G.tr ns k').length (gC (G.tr ns k'))] := ⟨0 + 1, dd, by omega, by go_num, rfl, fun _ => HDD.out, by rw [HT.out]; exact by rw [← HM.out]; exact X5.out.drop.drop⟩
              first | exact hrel | ((repeat apply Exists.intro); exact ⟨hrel, rfl⟩)
            case measure => simp [intOf]; omega
          · have hkp : (0 : Int) < (k : Int) := by omega
            have hla := HLA.out (by omega)
            by_cases hdl : (dd : Int) = last
            · have HT := hid (show G.tr ns (k + 1) = acc by unfold Gr.tr; rw [HTA.out, ← hla, hdl]; simp [HAC.out])
              clear hla
              subst hdl
              go_wp2
              go_roundw
              case rel =>
                have hrel : ∃ (k' : Nat) (last' : Int), k' < n ∧ Value.int .i64 ((k : Int) + 1) = .int .i64 k' ∧ Value.int .i64 (dd : Int) = .int .i64 last' ∧ (0 < k' → last' = G.dirTo (ns.getD (k' - 1) 0) (ns.getD k' 0)) ∧ Star w _ [Row 3 1 (.slice oa m oc) (G.tr ns k').length (gC (G.tr ns k'))] := ⟨k + 1, dd, by omega, by go_num, rfl, fun _ => HDD.out, by rw [HT.out]; exact by rw [← HM.out]; exact X5.out.drop.drop⟩
                first | exact hrel | ((repeat apply Exists.intro); exact ⟨hrel, rfl⟩)
              case measure => simp [intOf]; omega
            · have HT := hid (show G.tr ns (k + 1) = acc ++ [a] by unfold Gr.tr; rw [HTA.out, ← hla, decide_eq_true (by omega), Bool.true_and, if_pos (bne_iff_ne.2 hdl), ← HAC.out, getD_of HKA.out])
              have hdb : ((dd : Int) == last) = false := by rw [beq_eq_false_iff_ne]; exact hdl
              have XD := hid (X5.out.alloc #[.int .i64 a] 3)
              have hcc2 : (w5.alloc (.cells #[.int .i64 a] 3)).cell? ⟨gg, kk * 3, none⟩ = some (.int .i64 dd) := ((Chg.refl w5).alloc _ : Same _ _).keep hcc
              clear hla hdl
              go_wp2_with (at_builtin; refine wpList_app rfl (.tmp 55) (.tmp 60) 24 rfl 3 i0 (.int .i64 0) 1 8 Tryd.underlying24 hi0 hz0 hz1 hz2 rfl (by decide) _ m (gC acc) rfl (XD.out.row 3 rfl).1 (some ⟨w5.heap.size, 0, none⟩) 1 1 [.int .i64 a] rfl (reads_blk (XD.out.blk 0 rfl).1 1 1 1 rfl) (by simp [Value.oneCell']) (by omega) (by omega) ?_; intro a5 c5 w9 ho5 hg5 hn5; have X9 := hid (XD.out.grown 3 rfl ho5 hg5 hn5); have hcc9 := ((X9.out.row 1 rfl).1.cellAt (kk * 3) (by omega)).trans HCS.out; have hgl9 := World.block_lt_of_cell? _ _ hcc9; (skip); clear ho5 hg5 hn5)
              go_roundw
              case rel =>
                have hrel : ∃ (k' : Nat) (last' : Int), k' < n ∧ Value.int .i64 ((k : Int) + 1) = .int .i64 k' ∧ Value.int .i64 (dd : Int) = .int .i64 last' ∧ (0 < k' → last' = G.dirTo (ns.getD (k' - 1) 0) (ns.getD k' 0)) ∧ Star w _ [Row 3 1 (.slice a5 (m + 1) c5) (G.tr ns k').length (gC (G.tr ns k'))] := ⟨k + 1, dd, by omega, by go_num, rfl, fun _ => HDD.out, by rw [HT.out]; exact by rw [List.length_append, List.length_singleton, ← HM.out, show gC (acc ++ [a]) = gC acc ++ [.int .i64 a] by simp [gC]]; exact X9.out.drop.drop.drop⟩
                first | exact hrel | ((repeat apply Exists.intro); exact ⟨hrel, rfl⟩)
              case measure => simp [intOf]; omega
      · have hke : k = n - 1 := by omega
        obtain ⟨z, hz⟩ : ∃ z, ns[n - 1]? = some z := ⟨_, List.getElem?_eq_getElem (by have := HNL.out; omega)⟩
        have gz := X2.out.same.keep (HNG.out (n - 1) z hz)
        have gzl := World.block_lt_of_cell? _ _ gz
        have HTT := hid (show G.turns ns = acc ++ [z] by unfold Gr.turns; rw [if_pos (by rw [HNL.out]; omega), HNL.out, getD_of hz, HAC.out, hke])
        have XD := hid (X2.out.alloc #[.int .i64 z] 3)
        have hwn : IntKind.i64.wrap ((n - 1 : Nat) : Int) = ((n - 1 : Nat) : Int) := IntWalk.i64_in _ (by omega)
        have hwn2 : (n : Int) - 1 = ((n - 1 : Nat) : Int) := by omega
        have hwn3 : n - 1 < n := by omega
        have hwn4 : ((n - 1 : Nat) : Int) < (n : Int) := by omega
        have hwn5 : (1 : Int) < (n : Int) := by omega
        clear hz X2
        go_wp2_with (at_builtin; refine wpList_app rfl (.tmp 71) (.tmp 78) 24 rfl 3 i0 (.int .i64 0) 1 8 Tryd.underlying24 hi0 hz0 hz1 hz2 rfl (by decide) _ m (gC acc) rfl (XD.out.row 1 rfl).1 (some ⟨wr.heap.size, 0, none⟩) 1 1 [.int .i64 z] rfl (reads_blk (XD.out.blk 0 rfl).1 1 1 1 rfl) (by simp [Value.oneCell']) (by omega) (by omega) ?_; intro a5 c5 w9 ho5 hg5 hn5; have X9 := hid (XD.out.grown 1 rfl ho5 hg5 hn5); clear ho5 hg5 hn5)
        go_ret2
        refine HA.out _ _ ⟨_, rfl, ?_⟩
        rw [HTT.out, List.length_append, List.length_singleton, ← HM.out, show gC (acc ++ [z]) = gC acc ++ [.int .i64 z] by simp [gC]]
        exact X9.out.drop
end
end Go.Proofs.YtdihnjhbopogoaaDoor.Jmp
