/-
  paddockref16's Edge and Cost, by their contracts.
-/
import Derived.Test.YtdihnjhbopogoaaDoorRefGo
namespace Go.Proofs.YtdihnjhbopogoaaDoor.Steps
open Go Go.RowKit

section
variable {w : World} {p g c : Nat} {G : Gr}
theorem around_pre (t : Int) (k : Nat) : ∀ m, k ≤ m → ∃ r, G.aroundTo t m = G.aroundTo t k ++ r := by
  intro m
  induction m with
  | zero =>
    intro h
    obtain rfl : k = 0 := by omega
    exact ⟨[], by simp⟩
  | succ m ih =>
    intro h
    by_cases e : k = m + 1
    · subst e; exact ⟨[], by simp⟩
    · obtain ⟨r, hr⟩ := ih (by omega)
      cases hg : G.goI t m with
      | none => exact ⟨r, by rw [Gr.aroundTo_none hg, hr]⟩
      | some q => exact ⟨r ++ [⟨m, q.1, q.2⟩], by rw [Gr.aroundTo_some (u := q.1) (c := q.2) (by rw [hg]), hr, List.append_assoc]⟩
/-- What a step costs; -1: there is none. -/
def edgeN (G : Gr) (a b : Nat) : Int := match G.edge a b with | some c => c | none => -1
theorem edgeN_some {a b : Nat} {e : Int} (h : G.edge a b = some e) : edgeN G a b = e := by unfold edgeN; rw [h]
theorem edgeN_none {a b : Nat} (h : G.edge a b = none) : edgeN G a b = -1 := by unfold edgeN; rw [h]
theorem edge_hit {a b k : Nat} {e : Int} (hk : k < 8) (h0 : (G.aroundTo (a : Int) k).find? (fun s => (s.to : Int) == (b : Int)) = none) (hg : G.goI (a : Int) k = some (b, e)) : G.edge a b = some e := by
  rw [edge_find]
  obtain ⟨r, hr⟩ := around_pre (G := G) (a : Int) (k + 1) 8 (by omega)
  unfold Gr.aroundI
  rw [hr, Gr.aroundTo_some hg, List.find?_append, List.find?_append, h0]
  simp
theorem edge_miss {a b k : Nat} (h0 : (G.aroundTo (a : Int) k).find? (fun s => (s.to : Int) == (b : Int)) = none) (hg : ∀ e, G.goI (a : Int) k ≠ some (b, e)) : (G.aroundTo (a : Int) (k + 1)).find? (fun s => (s.to : Int) == (b : Int)) = none := by
  cases hq : G.goI (a : Int) k with
  | none => rw [Gr.aroundTo_none hq]; exact h0
  | some q =>
    obtain ⟨u, e⟩ := q
    rw [Gr.aroundTo_some hq, List.find?_append, h0]
    have : u ≠ b := fun e' => hg e (by rw [hq, e'])
    have hne : ((u : Int) == (b : Int)) = false := by rw [beq_eq_false_iff_ne]; omega
    simp [hne]

set_option maxRecDepth 100000 in
set_option maxHeartbeats 4000000 in
theorem redge_any (h : Gnd 71 w p g c G) (a b : Nat) : Calls Tryd.prog 48 #[.pointer (some ⟨p, 0, none⟩), .int .i64 a, .int .i64 b] w fun r w' => r = .returned (.int .i64 (edgeN G a b)) ∧ Same w w' := by
  have H := hid h
  obtain ⟨x, hx⟩ : ∃ x, x = edgeN G a b := ⟨_, rfl⟩
  rw [← hx]
  have HX := hid hx
  clear hx h
  go_enter Tryd.func48, Tryd.ntmps48
  go_wp2_with fail
  go_loopw [7] (fun iv wr => ∃ k : Nat, k ≤ 8 ∧ iv = .int .i64 k ∧ Same w wr ∧ (G.aroundTo (a : Int) k).find? (fun s => (s.to : Int) == (b : Int)) = none) (fun iv _ => 8 - (intOf iv).toNat)
  case atStart => exact ⟨0, by omega, rfl, Chg.refl _, rfl⟩
  case round =>
    obtain ⟨k, hk, rfl, hs, hf⟩ := hrel
    have HS := hid hs
    have HF := hid hf
    clear hs hf
    by_cases hk8 : k < 8
    · go_wp2_with fail
      refine (rgo_any (H.out.same HS.out) a k).mono ?_
      rintro r w1 ⟨rfl, hs1⟩
      have S1 := hid (HS.out.trans hs1 (fun _ _ f => f))
      clear hs1 HS
      cases hgo : G.goI (a : Int) k with
      | none =>
        have HM := hid (edge_miss HF.out (fun e => by rw [hgo]; simp))
        have hne : ((-1 : Int) == (b : Int)) = false := by rw [beq_eq_false_iff_ne]; omega
        unfold refV
        clear hgo
        go_wp2
        go_roundw
        case rel =>
          have hrel : ∃ k' : Nat, k' ≤ 8 ∧ Value.int .i64 ((k : Int) + 1) = .int .i64 k' ∧ Same w _ ∧ (G.aroundTo (a : Int) k').find? (fun s => (s.to : Int) == (b : Int)) = none := ⟨k + 1, by omega, by go_num, S1.out, HM.out⟩
          first | exact hrel | ((repeat apply Exists.intro); exact ⟨hrel, rfl⟩)
        case measure => simp [intOf]; omega
      | some q =>
        obtain ⟨u, e⟩ := q
        by_cases hub : u = b
        · subst hub
          have HE := hid (edge_hit hk8 HF.out hgo)
          unfold refV
          clear hgo
          go_wp2
          go_ret
          exact ⟨ret_int (by rw [HX.out, edgeN_some HE.out]), S1.out⟩
        · have HM := hid (edge_miss HF.out (fun e' he => by rw [hgo] at he; simp at he; exact hub he.1))
          have hne : ((u : Int) == (b : Int)) = false := by rw [beq_eq_false_iff_ne]; omega
          unfold refV
          clear hgo
          go_wp2
          go_roundw
          case rel =>
            have hrel : ∃ k' : Nat, k' ≤ 8 ∧ Value.int .i64 ((k : Int) + 1) = .int .i64 k' ∧ Same w _ ∧ (G.aroundTo (a : Int) k').find? (fun s => (s.to : Int) == (b : Int)) = none := ⟨k + 1, by omega, by go_num, S1.out, HM.out⟩
            first | exact hrel | ((repeat apply Exists.intro); exact ⟨hrel, rfl⟩)
          case measure => simp [intOf]; omega
    · obtain rfl : k = 8 := by omega
      go_wp2
      go_ret
      have he : G.edge a b = none := by rw [edge_find]; unfold Gr.aroundI; rw [HF.out]; rfl
      exact ⟨ret_int (by rw [HX.out, edgeN_none he]), HS.out⟩

set_option maxRecDepth 100000 in
set_option maxHeartbeats 8000000 in
theorem rcost_any (h : Gnd 71 w p g c G) (v : Value) (xs : List Int) (hr : Ints w v xs) (hx : xs.length ≤ 100000) :
    Calls Tryd.prog 22 #[.pointer (some ⟨p, 0, none⟩), v] w fun r w' => r = .returned (.tuple #[.int .i64 (G.cost xs).1, .int .i64 (G.cost xs).2]) ∧ Same w w' := by
  obtain ⟨a, cp, rfl⟩ := hr.slice
  have H := hid h
  obtain ⟨z, hz⟩ : ∃ z, z = G.cost xs := ⟨_, rfl⟩
  rw [← hz]
  have HZ := hid hz
  obtain ⟨n, hn⟩ : ∃ n, n = xs.length := ⟨_, rfl⟩
  have HC : Hid (∀ j (hj : j < xs.length), ∃ b off cap, Value.slice a n cp = .slice (some ⟨b, off, none⟩) n cap ∧ w.cell? ⟨b, off + j, none⟩ = some (.int .i64 xs[j])) := hid (fun j hj => by
    obtain ⟨b, off, cap, e, _, hc⟩ := hr.cells (by omega)
    rw [← hn] at e
    exact ⟨b, off, cap, e, hc j hj⟩)
  have HN := hid hn
  rw [← hn] at hx ⊢
  have c2 := h.c2
  clear hr h hz hn
  by_cases h0 : n = 0
  · have hx0 : xs = [] := List.eq_nil_of_length_eq_zero (by rw [← HN.out]; exact h0)
    have HX0 := hid hx0
    subst h0
    clear hx0
    go_enter Tryd.func22, Tryd.ntmps22
    go_wp2
    go_ret2
    exact ⟨by rw [HZ.out, HX0.out, cost_none]; rfl, Chg.refl _⟩
  · have hn0 : ((n : Int) == 0) = false := by rw [beq_eq_false_iff_ne]; omega
    have HNE : Hid (xs ≠ []) := hid (fun e => h0 (by rw [HN.out, e]; rfl))
    go_enter Tryd.func22, Tryd.ntmps22
    go_wp2_with fail
    go_loopw [7, 18] (fun _ iv wr => ∃ k : Nat, k ≤ n ∧ iv = .int .i64 k ∧ Same w wr ∧ ∀ x ∈ xs.take k, G.has x = true) (fun _ iv _ => n - (intOf iv).toNat)
    case atStart => exact ⟨0, by omega, rfl, Chg.refl _, by simp⟩
    case round =>
      obtain ⟨k, hk, rfl, hS, hA⟩ := hrel
      have S1 := hid hS
      have c2 := (H.out.same hS).c2
      have HK := hid hA
      clear hA hS
      by_cases hkn : k < n
      · obtain ⟨b, off, cap, e1, hc⟩ := HC.out k (by have := HN.out; omega)
        cases e1
        have hkx : k < xs.length := by have := HN.out; omega
        obtain ⟨x, hxe⟩ : ∃ x, x = xs[k] := ⟨_, rfl⟩
        have hts : xs.take (k + 1) = xs.take k ++ [x] := by rw [List.take_succ_eq_append_getElem hkx, hxe]
        have hmem : x ∈ xs := by rw [hxe]; exact List.getElem_mem hkx
        rw [← hxe] at hc
        replace hc := S1.out.keep hc
        have HTS := hid hts
        have HM := hid hmem
        clear hts hmem hxe
        go_wp2_with fail
        refine (rhas_any (H.out.same S1.out) x).mono ?_
        rintro r w' ⟨rfl, rfl⟩
        cases hh : G.has x with
        | true =>
          go_wp2
          go_roundw
          case rel =>
            have hA : ∀ y ∈ xs.take (k + 1), G.has y = true := by
              intro y hy
              rw [HTS.out, List.mem_append] at hy
              rcases hy with hy | hy
              · exact HK.out y hy
              · simp at hy; rw [hy]; exact hh
            have hrel : ∃ k' : Nat, k' ≤ n ∧ Value.int .i64 ((k : Int) + 1) = .int .i64 k' ∧ Same w _ ∧ ∀ x ∈ xs.take k', G.has x = true := ⟨k + 1, by omega, by go_num, S1.out, hA⟩
            first | exact hrel | ((repeat apply Exists.intro); exact ⟨hrel, rfl⟩)
          case measure => simp [intOf]; omega
        | false =>
          have HH := hid hh
          clear hh
          go_wp2
          go_ret2
          exact ⟨by rw [HZ.out, cost_range x HM.out HH.out]; rfl, S1.out⟩
      · have hall : ∀ x ∈ xs, G.has x = true := fun x hx => HK.out x (by rw [List.take_of_length_le (by have := HN.out; omega)]; exact hx)
        have HALL := hid hall
        clear hall
        go_wp2_with fail
        go_loopw [9, 29] (fun _ iv wr => ∃ k : Nat, k ≤ n ∧ iv = .int .i64 k ∧ Same w wr ∧ ∀ x ∈ xs.take k, G.free x.toNat = true) (fun _ iv _ => n - (intOf iv).toNat)
        case atStart => exact ⟨0, by omega, rfl, S1.out, by simp⟩
        case round =>
          obtain ⟨k2, hk2, rfl, hS, hA⟩ := hrel
          have S2 := hid hS
          have c2 := (H.out.same hS).c2
          have HK2 := hid hA
          clear hA hS
          by_cases hkn2 : k2 < n
          · obtain ⟨b, off, cap, e1, hc⟩ := HC.out k2 (by have := HN.out; omega)
            cases e1
            have hkx : k2 < xs.length := by have := HN.out; omega
            obtain ⟨x, hxe⟩ : ∃ x, x = xs[k2] := ⟨_, rfl⟩
            have hts : xs.take (k2 + 1) = xs.take k2 ++ [x] := by rw [List.take_succ_eq_append_getElem hkx, hxe]
            have hmem : x ∈ xs := by rw [hxe]; exact List.getElem_mem hkx
            rw [← hxe] at hc
            have hxb : 0 ≤ x ∧ x < G.fs.length := of_decide_eq_true (HALL.out x hmem)
            obtain ⟨t, rfl⟩ := Int.eq_ofNat_of_zero_le hxb.1
            replace hc := S2.out.keep hc
            have hg := (H.out.same S2.out).get t (by omega)
            have HTS := hid hts
            have HM := hid hmem
            clear hts hmem hxe
            cases hf : G.free t with
            | true =>
              rw [hf] at hg
              go_wp2
              go_roundw
              case rel =>
                have hA : ∀ y ∈ xs.take (k2 + 1), G.free y.toNat = true := by
                  intro y hy
                  rw [HTS.out, List.mem_append] at hy
                  rcases hy with hy | hy
                  · exact HK2.out y hy
                  · simp at hy; rw [hy, Int.toNat_natCast]; exact hf
                have hrel : ∃ k' : Nat, k' ≤ n ∧ Value.int .i64 ((k2 : Int) + 1) = .int .i64 k' ∧ Same w _ ∧ ∀ x ∈ xs.take k', G.free x.toNat = true := ⟨k2 + 1, by omega, by go_num, S2.out, hA⟩
                first | exact hrel | ((repeat apply Exists.intro); exact ⟨hrel, rfl⟩)
              case measure => simp [intOf]; omega
            | false =>
              rw [hf] at hg
              have HF := hid hf
              clear hf
              go_wp2
              go_ret2
              have hany : xs.any (fun t => !G.free t.toNat) = true := by rw [List.any_eq_true]; exact ⟨_, HM.out, by rw [Int.toNat_natCast, HF.out]; rfl⟩
              exact ⟨by rw [HZ.out, cost_blocked HNE.out HALL.out hany]; rfl, S2.out⟩
          · have hany : xs.any (fun t => !G.free t.toNat) = false := by
              rw [List.any_eq_false]
              intro x hx
              rw [HK2.out x (by rw [List.take_of_length_le (by have := HN.out; omega)]; exact hx)]
              simp
            obtain ⟨ns, hns⟩ : ∃ ns, ns = xs.map Int.toNat := ⟨_, rfl⟩
            have hnsl : ns.length = n := by rw [hns, List.length_map, ← HN.out]
            have hnsg : ∀ (j : Nat) (hj : j < ns.length), ∃ b off cap, Value.slice a n cp = .slice (some ⟨b, off, none⟩) n cap ∧ w.cell? ⟨b, off + j, none⟩ = some (.int .i64 (ns[j] : Nat)) := by
              intro j hj
              have hjx : j < xs.length := by have := HN.out; omega
              obtain ⟨b, off, cap, e1, hc⟩ := HC.out j hjx
              have h3 : 0 ≤ xs[j] ∧ xs[j] < G.fs.length := of_decide_eq_true (HALL.out xs[j] (List.getElem_mem hjx))
              have e : ns[j] = (xs[j]).toNat := by simp [hns]
              exact ⟨b, off, cap, e1, by rw [e, hc, Int.toNat_of_nonneg h3.1]⟩
            have hcw : z = (match G.walkC ns with | some c => (c, 0) | none => (0, 9)) := by
              rw [HZ.out, cost_walk HNE.out HALL.out hany, hns]
              cases G.walkC (xs.map Int.toNat) <;> rfl
            have HW := hid hcw
            have HNG := hid hnsg
            have HNL := hid hnsl
            have hw1 : G.walkC (ns.take 1) = some 0 := by
              cases ns with
              | nil => rfl
              | cons a l => simp [Gr.walkC]
            have HW1 := hid hw1
            clear HC HZ HNE HN HALL HK HK2 hany hns hcw hnsg hnsl hw1
            go_wp2_with fail
            go_loopw [10, 11] (fun sv iv wr2 => ∃ (k : Nat) (s : Int), k < n ∧ iv = .int .i64 ((k : Int) + 1) ∧ sv = .int .i64 s ∧ 0 ≤ s ∧ s ≤ 14 * k ∧ Same w wr2 ∧ G.walkC (ns.take (k + 1)) = some s) (fun _ iv _ => n - (intOf iv).toNat)
            case atStart => exact ⟨0, 0, by omega, rfl, rfl, by omega, by omega, S2.out, HW1.out⟩
            case round =>
              obtain ⟨k, s, hk, rfl, rfl, hs0, hs1, hS, hwk⟩ := hrel
              clear S2
              have S2 := hid hS
              have HWK := hid hwk
              clear hS hwk
              by_cases hkn : k + 1 < n
              · have hl1 : k < ns.length := by have := HNL.out; omega
                have hl2 : k + 1 < ns.length := by have := HNL.out; omega
                obtain ⟨b, off, cap, e1, ga0⟩ := HNG.out k hl1
                obtain ⟨b', off', cap', e2, gb0⟩ := HNG.out (k + 1) hl2
                cases e1
                cases e2
                have ga := S2.out.keep ga0
                have gb := S2.out.keep gb0
                have hbl := World.block_lt_of_cell? _ _ ga
                have hb1 : 0 ≤ (k : Int) ∧ (k : Int) < (n : Int) := by omega
                have hb2 : 0 ≤ (k : Int) + 1 ∧ (k : Int) + 1 < (n : Int) := by omega
                have ht1 : ((k : Int) + 1).toNat = k + 1 := by omega
                have hw1 : IntKind.i64.wrap ((k : Int) + 1) = (k : Int) + 1 := IntWalk.i64_in _ (by omega)
                have hw2 : IntKind.i64.wrap (k : Int) = (k : Int) := IntWalk.i64_in _ (by omega)
                have hw3 : (k : Int) + 1 - 1 = (k : Int) := by omega
                have hka : ns[k]? = some ns[k] := List.getElem?_eq_getElem hl1
                have hkb : ns[k + 1]? = some ns[k + 1] := List.getElem?_eq_getElem hl2
                clear ga0 gb0
                generalize ns[k] = a1 at *
                generalize ns[k + 1] = a2 at *
                have HST := hid (walkC_step (G := G) ns k a1 a2 s hka hkb HWK.out)
                clear hka hkb hl1 hl2 HWK
                go_wp2_with fail
                go_region_held3 (fun w' => w'.cell? ⟨b, off + k, none⟩ = some (.int .i64 a1) ∧ w'.cell? ⟨b, off + (k + 1), none⟩ = some (.int .i64 a2)) (go_keep) ((go_at_call 48; refine (redge_any (H.out.same (S2.out.drew)) a1 a2).mono ?_; rintro r w3 ⟨rfl, hs3⟩; have S3 := hid (Chg.trans (S := fun _ => False) (S2.out.drew) hs3 (fun _ _ f => f)); have kk := Chg.keep (Chg.trans (S := fun _ => False) ((Chg.refl wr).drew) hs3 (fun _ _ f => f)) ga; have kk2 := Chg.keep (Chg.trans (S := fun _ => False) ((Chg.refl wr).drew) hs3 (fun _ _ f => f)) gb; clear hs3))
                all_goals
                  clear ga gb kk kk2 hbl
                  cases he : G.edge a1 a2 with
                  | none =>
                    have e1 := edgeN_none he
                    rw [he] at HST
                    have e : G.walkC ns = none := walkC_stuck ns (k + 2) (by rw [HST.out]; rfl)
                    have HEE := hid e
                    clear he e
                    generalize edgeN G a1 a2 = en at *
                    subst e1
                    go_wp2
                    go_ret2
                    exact ⟨by rw [HW.out, HEE.out]; rfl, S3.out⟩
                  | some ec =>
                    have e1 := edgeN_some he
                    have hbnd : 0 ≤ ec ∧ ec ≤ 14 := edge_bound H.out.ok he
                    rw [he] at HST
                    clear he
                    generalize edgeN G a1 a2 = en at *
                    subst e1
                    have hwe : IntKind.i64.wrap (s + en) = s + en := IntWalk.i64_in _ (by omega)
                    go_wp2
                    go_roundw
                    case rel =>
                      have hrel : ∃ (k' : Nat) (s' : Int), k' < n ∧ Value.int .i64 ((k : Int) + 1 + 1) = .int .i64 ((k' : Int) + 1) ∧ Value.int .i64 (s + en) = .int .i64 s' ∧ 0 ≤ s' ∧ s' ≤ 14 * (k' : Int) ∧ Same w _ ∧ G.walkC (ns.take (k' + 1)) = some s' := ⟨k + 1, s + en, by omega, by go_num, rfl, by omega, by omega, S3.out, by rw [HST.out]; rfl⟩
                      first | exact hrel | ((repeat apply Exists.intro); exact ⟨hrel, rfl⟩)
                    case measure => simp [intOf]; omega
              · have hke : k + 1 = n := by omega
                go_wp2
                go_ret2
                have e : G.walkC ns = some s := by rw [← HWK.out, List.take_of_length_le (by have := HNL.out; omega)]
                exact ⟨by rw [HW.out, e]; rfl, S2.out⟩
end
end Go.Proofs.YtdihnjhbopogoaaDoor.Steps
