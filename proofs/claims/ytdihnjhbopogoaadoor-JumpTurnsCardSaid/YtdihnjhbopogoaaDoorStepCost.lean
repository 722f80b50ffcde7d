/-
  What a walk costs: the program's Cost, by its contract.
-/
import Derived.Test.YtdihnjhbopogoaaDoorStepCostP
namespace Go.Proofs.YtdihnjhbopogoaaDoor.Steps
open Go Go.RowKit Go.Proofs.YtdihnjhbopogoaaDoor.Err

/-- Cost's answer. -/
def costV (ad : Nat → Addr) (z : Int × Int) : Value := .tuple #[.int .i64 z.1, errV ad z.2.toNat]
section
variable {w : World} {p g c : Nat} {G : Gr}

set_option maxRecDepth 100000 in
set_option maxHeartbeats 8000000 in
theorem cost_any (h : Gnd 93 w p g c G) (a : Option Addr) (m cp : Nat) (xs : List Int) (hr : Ints w (.slice a m cp) xs) (hcap : m ≤ cp) (hx : xs.length ≤ 100000) (ad : Nat → Addr) (hE : Errs5 w ad) :
    Calls Tryd.prog 26 #[.pointer (some ⟨p, 0, none⟩), .slice a m cp] w fun r w' => r = .returned (costV ad (G.cost xs)) ∧ Same w w' := by
  obtain rfl : m = xs.length := by obtain ⟨_, _, e⟩ := hr.slice; cases e; rfl
  have HR := hid hr
  have H := hid h
  have HE := hid hE
  obtain ⟨z, hz⟩ : ∃ z, z = G.cost xs := ⟨_, rfl⟩
  rw [← hz]
  have HZ := hid hz
  clear hr h hE hz
  have X0 := hid ((Star.new w).alloc #[.pointer (some ⟨p, 0, none⟩)] 28)
  by_cases h0 : xs.length = 0
  · have hx0 : xs = [] := List.eq_nil_of_length_eq_zero h0
    subst hx0
    have e3 := (HE.out.same X0.out.same).c2
    go_enter Tryd.func26, Tryd.ntmps26
    go_wp2
    go_quiet (fail)
    go_wp2
    go_ret2
    exact ⟨by rw [HZ.out, cost_none]; rfl, X0.out.same.drewN _⟩
  · obtain ⟨n, hn⟩ : ∃ n, n = xs.length := ⟨_, rfl⟩
    have HN := hid hn
    have hne : xs ≠ [] := fun e => h0 (by rw [e]; rfl)
    have HNE := hid hne
    obtain ⟨b, off, cap, e1, hb, hcl⟩ := HR.out.cells (by omega)
    cases e1
    have HC := hid hcl
    have HRN : Hid (Ints w (.slice (some ⟨b, off, none⟩) n cp) xs) := hid (by rw [HN.out]; exact HR.out)
    have hn0 : ((n : Int) == 0) = false := by rw [beq_eq_false_iff_ne]; omega
    rw [← hn] at h0 hx hcap ⊢
    clear hcl hn hne
    go_enter Tryd.func26, Tryd.ntmps26
    go_wp2_with fail
    generalize w.alloc _ = w1 at *
    generalize w.heap.size = q at *
    go_loopw [7, 19] (fun _ iv wr => ∃ k : Nat, k ≤ n ∧ iv = .int .i64 k ∧ Star w wr [Blk q #[.pointer (some ⟨p, 0, none⟩)] 28] ∧ ∀ x ∈ xs.take k, G.has x = true) (fun _ iv _ => n - (intOf iv).toNat)
    case atStart => exact ⟨0, by omega, rfl, X0.out, by simp⟩
    case round =>
      obtain ⟨k, hk, rfl, hX, hA⟩ := hrel
      have HK := hid hA
      have X1 := hid hX
      clear hA hX X0
      have hq0 := cell_of (X1.out.blk 0 rfl).1 0
      simp only [List.getElem?_toArray, List.getElem?_cons_zero] at hq0
      by_cases hkn : k < n
      · have hkx : k < xs.length := by have := HN.out; omega
        have hg := X1.out.same.keep (HC.out k hkx)
        obtain ⟨x, hxe⟩ : ∃ x, x = xs[k] := ⟨_, rfl⟩
        have hts : xs.take (k + 1) = xs.take k ++ [x] := by rw [List.take_succ_eq_append_getElem hkx, hxe]
        have hmem : x ∈ xs := by rw [hxe]; exact List.getElem_mem hkx
        rw [← hxe] at hg
        have HTS := hid hts
        have HM := hid hmem
        clear hts hmem hxe
        go_wp2_with fail
        refine (has_any (H.out.same X1.out.same) x).mono ?_
        rintro r w' ⟨rfl, rfl⟩
        cases hh : G.has x with
        | true =>
          go_wp2
          go_roundw
          case rel =>
            have hA : ∀ y ∈ xs.take (k + 1), G.has y = true := by
              intro y hy
              rw [HTS.out, List.mem_append] at hy
              rcases hy with hy | hy
              · exact HK.out y hy
              · simp at hy; rw [hy]; exact hh
            have hrel : ∃ k' : Nat, k' ≤ n ∧ Value.int .i64 ((k : Int) + 1) = .int .i64 k' ∧ Star w _ [Blk q #[.pointer (some ⟨p, 0, none⟩)] 28] ∧ ∀ x ∈ xs.take k', G.has x = true := ⟨k + 1, by omega, by go_num, X1.out, hA⟩
            first | exact hrel | ((repeat apply Exists.intro); exact ⟨hrel, rfl⟩)
          case measure => simp [intOf]; omega
        | false =>
          have e0 := (HE.out.same X1.out.same).c0
          have HH := hid hh
          clear hh
          go_wp2
          go_quiet (fail)
          go_wp2
          go_ret2
          exact ⟨by rw [HZ.out, cost_range x HM.out HH.out]; rfl, X1.out.same.drewN _⟩
      · have hall : ∀ x ∈ xs, G.has x = true := fun x hx => HK.out x (by rw [List.take_of_length_le (by have := HN.out; omega)]; exact hx)
        have HALL := hid hall
        clear hall
        go_wp2_with fail
        refine (anyBlocked (H.out.same X1.out.same) hq0 _ xs (HRN.out.same X1.out.same) HALL.out (by rw [← HN.out]; omega)).mono ?_
        rintro r w' ⟨rfl, rfl⟩
        cases hany : xs.any (fun t => !G.free t.toNat) with
        | true =>
          have e7 := (HE.out.same X1.out.same).c7
          have HB := hid hany
          clear hany
          go_wp2
          go_quiet (fail)
          go_wp2
          go_ret2
          exact ⟨by rw [HZ.out, cost_blocked HNE.out HALL.out HB.out]; rfl, X1.out.same.drewN _⟩
        | false =>
          have HB := hid hany
          clear hany
          obtain ⟨ns, hns⟩ : ∃ ns, ns = xs.map Int.toNat := ⟨_, rfl⟩
          have hnsl : ns.length = n := by rw [hns, List.length_map, ← HN.out]
          have hnsg : ∀ (j : Nat) (hj : j < ns.length), w.cell? ⟨b, off + j, none⟩ = some (.int .i64 (ns[j] : Nat)) := by
            intro j hj
            have hjx : j < xs.length := by have := HN.out; omega
            have h1 := HC.out j hjx
            have h2 := HALL.out xs[j] (List.getElem_mem hjx)
            have h3 : 0 ≤ xs[j] ∧ xs[j] < G.fs.length := of_decide_eq_true h2
            have e : ns[j] = (xs[j]).toNat := by simp [hns]
            rw [e, h1, Int.toNat_of_nonneg h3.1]
          have hcw : z = (match G.walkC ns with | some c => (c, 0) | none => (0, 9)) := by
            rw [HZ.out, cost_walk HNE.out HALL.out HB.out, hns]
            cases G.walkC (xs.map Int.toNat) <;> rfl
          have HW := hid hcw
          have HNG := hid hnsg
          have HNL := hid hnsl
          have hw1 : G.walkC (ns.take 1) = some 0 := by
            cases ns with
            | nil => rfl
            | cons a l => simp [Gr.walkC]
          have HW1 := hid hw1
          clear HC HZ HNE HN HR HRN HALL HB HK hns hcw hnsg hnsl hw1
          by_cases hc1 : cp = 1
          · obtain rfl : n = 1 := by omega
            go_wp2_with fail
            go_loopw [8, 36] (fun sv iv wr2 => sv = .int .i64 0 ∧ iv = .int .i64 0 ∧ wr = wr2) (fun _ iv _ => 1 - (intOf iv).toNat)
            case atStart => exact ⟨rfl, rfl, rfl⟩
            case round =>
              obtain ⟨rfl, rfl, rfl⟩ := hrel
              go_wp2
              go_ret2
              have e : G.walkC ns = some 0 := by rw [← HW1.out, List.take_of_length_le (by have := HNL.out; omega)]
              exact ⟨by rw [HW.out, e]; rfl, X1.out.same⟩
          · go_wp2_with fail
            go_loopw [8, 36] (fun sv iv wr2 => ∃ (k : Nat) (s : Int), k < n ∧ iv = .int .i64 k ∧ sv = .int .i64 s ∧ 0 ≤ s ∧ s ≤ 14 * k ∧ Star w wr2 [Blk q #[.pointer (some ⟨p, 0, none⟩)] 28] ∧ G.walkC (ns.take (k + 1)) = some s) (fun _ iv _ => n - (intOf iv).toNat)
            case atStart => exact ⟨0, 0, by omega, rfl, rfl, by omega, by omega, X1.out, HW1.out⟩
            case round =>
              obtain ⟨k, s, hk, rfl, rfl, hs0, hs1, hX, hwk⟩ := hrel
              have X2 := hid hX
              have HWK := hid hwk
              clear hX hwk X1 hq0
              by_cases hkn : k < n - 1
              · have hl1 : k < ns.length := by have := HNL.out; omega
                have hl2 : k + 1 < ns.length := by have := HNL.out; omega
                have ga := X2.out.same.keep (HNG.out k hl1)
                have gb := X2.out.same.keep (HNG.out (k + 1) hl2)
                rw [show off + (k + 1) = off + 1 + k by omega] at gb
                have hka : ns[k]? = some ns[k] := List.getElem?_eq_getElem hl1
                have hkb : ns[k + 1]? = some ns[k + 1] := List.getElem?_eq_getElem hl2
                generalize ns[k] = a at *
                generalize ns[k + 1] = d at *
                have HST := hid (walkC_step (G := G) ns k a d s hka hkb HWK.out)
                clear hka hkb hl1 hl2 HWK
                have X3 := hid (X2.out.alloc #[.int .i64 d] 3)
                have hq0 := cell_of (X3.out.blk 1 rfl).1 0
                have hql := lt_of (X3.out.blk 1 rfl).1
                have hr0 := cell_of (X3.out.blk 0 rfl).1 0
                simp only [List.getElem?_toArray, List.getElem?_cons_zero] at hq0 hr0
                have ga3 : (wr.alloc (.cells #[.int .i64 d] 3)).cell? ⟨b, off + k, none⟩ = some (.int .i64 a) := ((Chg.refl wr).alloc _ : Same _ _).keep ga
                have hbl3 := World.block_lt_of_cell? _ _ ga3
                go_wp2_with fail
                clear X2 ga gb
                generalize wr.alloc _ = w3 at *
                generalize wr.heap.size = r at *
                go_region_held3 (fun w' => w'.cell? ⟨q, 0, none⟩ = some (.pointer (some ⟨p, 0, none⟩)) ∧ w'.cell? ⟨b, off + k, none⟩ = some (.int .i64 a)) (go_keep) ((go_at_call 49; refine (around_any (H.out.same (X3.out.same.drew)) a).mono ?_; rintro r' w' ⟨va, rfl, hA⟩; have XA := hid ((X3.out.go ((Chg.refl _).drew)).lift hA); have SA := hid (Chg.trans (S := fun _ => False) ((Chg.refl w3).drew) hA.same (fun _ _ f => f)); have ka := SA.out.keep ga3; have kq := SA.out.keep hq0; clear hA; obtain ⟨aa, ca, rfl, -⟩ := own_slice (XA.out.row 0 rfl).1))
                all_goals
                  clear X3 hq0 hql hr0 ga3 hbl3 ka kq
                  have hr1 := cell_of (XA.out.blk 1 rfl).1 0
                  simp only [List.getElem?_toArray, List.getElem?_cons_zero] at hr1
                  have hal := G.aroundTo_len (a : Int) 8
                  have hef := edge_find (G := G) a d
                  go_wp2_with fail
                  refine (idxTo (d : Int) hr1 _ (G.aroundI a) (Reads.of_own (XA.out.row 0 rfl).1) hal).mono ?_
                  rintro r5 w5 ⟨hcase, hs5⟩
                  have X5 := hid (XA.out.go hs5)
                  clear hs5 hr1 XA SA
                  rcases hcase with ⟨rfl, hnone⟩ | ⟨kk, st, rfl, hst, hsome⟩
                  · have e8 := (HE.out.same X5.out.same).c8
                    rw [hnone] at hef
                    have HF := hid hef
                    clear hef hnone
                    go_wp2
                    go_quiet (fail)
                    go_wp2
                    go_ret2
                    have e : G.walkC ns = none := walkC_stuck ns (k + 2) (by rw [HST.out, HF.out]; rfl)
                    exact ⟨by rw [HW.out, e]; rfl, X5.out.same.drewN _⟩
                  · rw [hsome] at hef
                    have hkk : kk < (G.aroundI a).length := (List.getElem?_eq_some_iff.1 hst).1
                    obtain ⟨gg, cg, e6⟩ := own_shape (X5.out.row 0 rfl).1 (by omega)
                    cases e6
                    have hcc := ((X5.out.row 0 rfl).1.cellAt (kk * 3 + 2) (by omega)).trans (stCs_get _ kk st hst).2.2
                    have hbnd : 0 ≤ st.c ∧ st.c ≤ 14 := edge_bound H.out.ok hef
                    have HF := hid hef
                    clear hef hsome hst
                    obtain ⟨m, hm⟩ : ∃ m, m = (G.aroundI (a : Int)).length := ⟨_, rfl⟩
                    have hw5 : IntKind.i64.wrap (s + st.c) = s + st.c := IntWalk.i64_in _ (by omega)
                    go_wp2
                    go_roundw
                    case rel =>
                      have hrel : ∃ (k' : Nat) (s' : Int), k' < n ∧ Value.int .i64 ((k : Int) + 1) = .int .i64 k' ∧ Value.int .i64 (s + st.c) = .int .i64 s' ∧ 0 ≤ s' ∧ s' ≤ 14 * (k' : Int) ∧ Star w _ [Blk q #[.pointer (some ⟨p, 0, none⟩)] 28] ∧ G.walkC (ns.take (k' + 1)) = some s' := ⟨k + 1, s + st.c, by omega, by go_num, rfl, by omega, by omega, X5.out.drop.drop, by rw [HST.out, HF.out]; rfl⟩
                      first | exact hrel | ((repeat apply Exists.intro); exact ⟨hrel, rfl⟩)
                    case measure => simp [intOf]; omega
              · have hke : k + 1 = n := by omega
                go_wp2
                go_ret2
                have e : G.walkC ns = some s := by rw [← HWK.out, List.take_of_length_le (by have := HNL.out; omega)]
                exact ⟨by rw [HW.out, e]; rfl, X2.out.same⟩
end
end Go.Proofs.YtdihnjhbopogoaaDoor.Steps
