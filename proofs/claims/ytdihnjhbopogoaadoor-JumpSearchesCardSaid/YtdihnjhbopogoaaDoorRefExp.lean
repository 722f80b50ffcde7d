/-
  paddockref18's Expand.
-/
import Derived.Test.YtdihnjhbopogoaaDoorRefJump
namespace Go.Proofs.YtdihnjhbopogoaaDoor
theorem upto_in {b : Nat} : ∀ {l : List Nat} (j : Nat), l[j]? = some b → (∀ x ∈ l.take j, x ≠ b) → upto b l = some (l.take (j + 1))
  | [], j, h, _ => by simp at h
  | x :: l, 0, h, _ => by
    simp at h; subst h
    unfold upto
    rw [if_pos rfl]; simp
  | x :: l, j + 1, h, hn => by
    have hx : x ≠ b := hn x (by simp)
    unfold upto
    rw [if_neg hx, upto_in j (by simpa using h) (fun y hy => hn y (by simp [hy]))]
    simp
theorem upto_out {b : Nat} : ∀ {l : List Nat}, (∀ x ∈ l, x ≠ b) → upto b l = none
  | [], _ => rfl
  | x :: l, hn => by
    unfold upto
    rw [if_neg (hn x (by simp)), upto_out (fun y hy => hn y (by simp [hy]))]
    rfl
end Go.Proofs.YtdihnjhbopogoaaDoor
namespace Go.Proofs.YtdihnjhbopogoaaDoor.Jmp
open Go Go.RowKit Go.Proofs.YtdihnjhbopogoaaDoor.Steps Go.Proofs.YtdihnjhbopogoaaDoor.Route
theorem expT_step' {G : Gr} {ns acc : List Nat} {k a d : Nat} (ha : ns[k]? = some a) (hd : ns[k + 1]? = some d) (h : G.expT ns = (G.expT (ns.drop k)).map (acc ++ ·)) : G.expT ns = (G.along a d).bind fun m => (G.expT (ns.drop (k + 1))).map ((acc ++ m) ++ ·) := by
  obtain ⟨h1, h2⟩ := List.getElem?_eq_some_iff.1 ha
  obtain ⟨h3, h4⟩ := List.getElem?_eq_some_iff.1 hd
  rw [h, List.drop_eq_getElem_cons h1, h2, List.drop_eq_getElem_cons h3, h4]
  simp only [Gr.expT]
  cases G.along a d with
  | none => rfl
  | some m =>
    simp only [Option.bind_some]
    cases G.expT (d :: ns.drop (k + 1 + 1)) <;> simp
theorem expT_end' {G : Gr} {ns acc : List Nat} {k : Nat} (hk : k + 1 = ns.length) (h : G.expT ns = (G.expT (ns.drop k)).map (acc ++ ·)) : G.expT ns = some acc := by
  have hl : k < ns.length := by omega
  rw [h, List.drop_eq_getElem_cons hl, List.drop_eq_nil_of_le (by omega)]
  simp [Gr.expT]
/-- What the document's Expand answers. -/
def rexpA (w w' : World) (r : Ending) (z : Option (List Nat) × Int) : Prop :=
  match z.1 with
  | some l => ∃ v, r = .returned (.tuple #[v, .int .i64 z.2]) ∧ Star w w' [Row 3 1 v l.length (gC l)]
  | none => r = .returned (.tuple #[.slice none 0 0, .int .i64 z.2]) ∧ Same w w'
theorem gC_one (l : List Nat) : ∀ u ∈ gC l, u.oneCell' = true := by intro u hu; unfold gC at hu; obtain ⟨_, _, rfl⟩ := List.mem_map.1 hu; rfl
section
variable {w : World} {p pg pc : Nat} {G : Gr}
set_option maxRecDepth 100000 in
set_option maxHeartbeats 16000000 in
theorem rexpand_any (h : Gnd 71 w p pg pc G) (v : Value) (xs : List Int) (hr : Ints w v xs) (hx : xs.length ≤ 100000) :
    Calls Tryd.prog 16 #[.pointer (some ⟨p, 0, none⟩), v] w fun r w' => rexpA w w' r (G.expand xs) := by
  obtain ⟨i0, hi0, hz0, hz1, hz2⟩ := info_parts infoInt
  obtain ⟨av, cv, rfl⟩ := hr.slice
  have HR := hid hr
  have H := hid h
  obtain ⟨z, hz⟩ : ∃ z, z = G.expand xs := ⟨_, rfl⟩
  rw [← hz]
  have HZ := hid hz
  clear hr h hz
  by_cases h0 : xs.length = 0
  · have hx0 : xs = [] := List.eq_nil_of_length_eq_zero h0
    subst hx0
    go_enter Tryd.func16, Tryd.ntmps16
    go_wp2
    go_ret2
    rw [HZ.out]
    exact ⟨rfl, Chg.refl _⟩
  · obtain ⟨n, hn⟩ : ∃ n, n = xs.length := ⟨_, rfl⟩
    have HN := hid hn
    have HNE := hid (show xs ≠ [] from fun e => h0 (by rw [e]; rfl))
    obtain ⟨b, off, cap, e1, hb, hcl⟩ := HR.out.cells (by omega)
    cases e1
    have HC := hid hcl
    have hn0 : ((n : Int) == 0) = false := by rw [beq_eq_false_iff_ne]; omega
    rw [← hn] at h0 hx ⊢
    clear hcl hn
    go_enter Tryd.func16, Tryd.ntmps16
    go_wp2_with fail
    go_loopw [7, 22] (fun _ iv wr => ∃ k : Nat, k ≤ n ∧ iv = .int .i64 k ∧ Same w wr ∧ ∀ x ∈ xs.take k, G.has x = true) (fun _ iv _ => n - (intOf iv).toNat)
    case atStart => exact ⟨0, by omega, rfl, Chg.refl _, by simp⟩
    case round =>
      obtain ⟨k, hk, rfl, hS, hA⟩ := hrel
      have HK := hid hA
      have S1 := hid hS
      clear hA hS
      by_cases hkn : k < n
      · have hkx : k < xs.length := by have := HN.out; omega
        have hg := S1.out.keep (HC.out k hkx)
        have hgl := World.block_lt_of_cell? _ _ hg
        obtain ⟨x, hxe⟩ : ∃ x, x = xs[k] := ⟨_, rfl⟩
        have hts : xs.take (k + 1) = xs.take k ++ [x] := by rw [List.take_succ_eq_append_getElem hkx, hxe]
        have hmem : x ∈ xs := by rw [hxe]; exact List.getElem_mem hkx
        rw [← hxe] at hg
        have HTS := hid hts
        have HM := hid hmem
        clear hts hmem hxe
        go_wp2_with fail
        refine (rhas_any (H.out.same S1.out) x).mono ?_
        rintro r w' ⟨rfl, rfl⟩
        cases hh : G.has x with
        | true =>
          have HH := hid hh
          clear hh
          go_wp2
          go_roundw
          case rel =>
            refine ⟨k + 1, by omega, by go_num, S1.out, fun y hy => ?_⟩
            rw [HTS.out, List.mem_append] at hy
            rcases hy with hy | hy
            · exact HK.out y hy
            · simp only [List.mem_singleton] at hy; rw [hy]; exact HH.out
          case measure => simp [intOf]; omega
        | false =>
          have HA := hid (show z = (none, 1) by
            rw [HZ.out]
            unfold Gr.expand
            rw [if_neg HNE.out, if_pos]
            rw [List.all_eq_false]
            exact ⟨x, HM.out, by rw [hh]; simp⟩)
          clear hh
          go_wp2
          go_ret2
          rw [HA.out]
          exact ⟨rfl, S1.out⟩
      · have hall : ∀ x ∈ xs, G.has x = true := fun x hx => HK.out x (by rw [List.take_of_length_le (by have := HN.out; omega)]; exact hx)
        have HALL := hid hall
        clear hall HK
        go_wp2_with fail
        clear hkn
        go_loopw [9, 33] (fun _ iv wr2 => ∃ k : Nat, k ≤ n ∧ iv = .int .i64 k ∧ Same w wr2 ∧ ∀ x ∈ xs.take k, G.free x.toNat = true) (fun _ iv _ => n - (intOf iv).toNat)
        case atStart => exact ⟨0, by omega, rfl, S1.out, by simp⟩
        case round =>
          obtain ⟨k, hk, rfl, hS, hA⟩ := hrel
          have HK := hid hA
          have S2 := hid hS
          clear hA hS S1
          by_cases hkn : k < n
          · have hkx : k < xs.length := by have := HN.out; omega
            have hg := S2.out.keep (HC.out k hkx)
            have hgl := World.block_lt_of_cell? _ _ hg
            obtain ⟨x, hxe⟩ : ∃ x, x = xs[k] := ⟨_, rfl⟩
            have hts : xs.take (k + 1) = xs.take k ++ [x] := by rw [List.take_succ_eq_append_getElem hkx, hxe]
            have hmem : x ∈ xs := by rw [hxe]; exact List.getElem_mem hkx
            rw [← hxe] at hg
            have ht2 : 0 ≤ x ∧ x < G.fs.length := of_decide_eq_true (HALL.out x hmem)
            obtain ⟨t, rfl⟩ := Int.eq_ofNat_of_zero_le ht2.1
            have H2 := H.out.same S2.out
            have ht : t < G.fs.length := by omega
            have hgt := H2.get t ht
            have hgtl := World.block_lt_of_cell? _ _ hgt
            have c2 := H2.c2
            have pl := H2.pl
            have HTS := hid hts
            have HM := hid hmem
            clear hts hmem hxe H2 ht2
            cases hf : G.free t with
            | true =>
              rw [hf] at hgt
              have HF := hid hf
              clear hf
              go_wp2
              go_roundw
              case rel =>
                refine ⟨k + 1, by omega, by go_num, S2.out, fun y hy => ?_⟩
                rw [HTS.out, List.mem_append] at hy
                rcases hy with hy | hy
                · exact HK.out y hy
                · simp only [List.mem_singleton] at hy; rw [hy, Int.toNat_natCast]; exact HF.out
              case measure => simp [intOf]; omega
            | false =>
              rw [hf] at hgt
              have HA := hid (show z = (none, 9) by
                rw [HZ.out]
                unfold Gr.expand
                rw [if_neg HNE.out, if_neg (by rw [Bool.not_eq_false, List.all_eq_true]; exact HALL.out), if_pos]
                rw [List.any_eq_true]
                exact ⟨_, HM.out, by rw [Int.toNat_natCast, hf]; rfl⟩)
              clear hf
              go_wp2
              go_ret2
              rw [HA.out]
              exact ⟨rfl, S2.out⟩
          · have hfree : ∀ x ∈ xs, G.free x.toNat = true := fun x hx => HK.out x (by rw [List.take_of_length_le (by have := HN.out; omega)]; exact hx)
            have hany : xs.any (fun t => !G.free t.toNat) = false := by
              rw [List.any_eq_false]
              intro x hx
              rw [hfree x hx]; simp
            obtain ⟨ns, hns⟩ : ∃ ns, ns = xs.map Int.toNat := ⟨_, rfl⟩
            have HW := hid (show z = outE ns (G.expT ns) by
              rw [HZ.out, hns]
              unfold Gr.expand
              rw [if_neg HNE.out, if_neg (by rw [Bool.not_eq_false, List.all_eq_true]; exact HALL.out), if_neg (by rw [hany]; simp)])
            have hnsl : ns.length = n := by rw [hns, List.length_map, ← HN.out]
            have hnsg : ∀ (j : Nat) (hj : j < ns.length), w.cell? ⟨b, off + j, none⟩ = some (.int .i64 (ns[j] : Nat)) := by
              intro j hj
              have hjx : j < xs.length := by have := HN.out; omega
              have h1 := HC.out j hjx
              have h2 := HALL.out xs[j] (List.getElem_mem hjx)
              have h3 : 0 ≤ xs[j] ∧ xs[j] < G.fs.length := of_decide_eq_true h2
              have e : ns[j] = (xs[j]).toNat := by simp [hns]
              rw [e, h1, Int.toNat_of_nonneg h3.1]
            have hnin : ∀ (j : Nat) (u : Nat), ns[j]? = some u → u < G.fs.length := by
              intro j u hu
              rw [hns, List.getElem?_map] at hu
              obtain ⟨x, hx1, rfl⟩ := Option.map_eq_some_iff.1 hu
              have h3 : 0 ≤ x ∧ x < G.fs.length := of_decide_eq_true (HALL.out x (List.mem_of_getElem? hx1))
              omega
            have HNG := hid hnsg
            have HNL := hid hnsl
            have HIN := hid hnin
            obtain ⟨t0, ht0⟩ : ∃ t0, ns[0]? = some t0 := ⟨_, List.getElem?_eq_getElem (by omega)⟩
            have hhd := hid (show ns.headD 0 = t0 by cases ns with | nil => cases ht0 | cons y l => simpa using ht0)
            have g0 := S2.out.keep (HNG.out 0 (by omega))
            rw [show ns[0]'(by omega) = t0 from (List.getElem?_eq_some_iff.1 ht0).2, Nat.add_zero] at g0
            have gl0 := World.block_lt_of_cell? _ _ g0
            have X2 := hid ((((Star.new w).go S2.out).add (w' := wr.alloc (.cells #[.int .i64 t0] 3)) ((Chg.refl _).alloc _) (R := Row 3 1 (.slice (some ⟨wr.heap.size, 0, none⟩) 1 1) 1 (gC (t0 :: []))) ⟨World.ownsRow_lit wr #[.int .i64 t0] 1 (Nat.zero_le _) (by unfold maxLen; omega) rfl, rfl⟩ (fun k h => by have : wr.heap.size = k := Option.some.inj h; omega)))
            clear HC HZ HNE HN HR HALL HK hns hnsl hnsg hnin hany ht0 S2 hfree
            go_wp2_with fail
            clear g0 gl0 hkn
            go_loopw [10, 11] (fun sv iv wr2 => ∃ (k m : Nat) (acc : List Nat), k < n ∧ iv = .int .i64 ((k : Int) + 1) ∧ m = acc.length ∧ m ≤ 31 * k ∧ G.expT ns = (G.expT (ns.drop k)).map (acc ++ ·) ∧ Star w wr2 [Row 3 1 sv (m + 1) (gC (t0 :: acc))]) (fun _ iv _ => n - (intOf iv).toNat)
            case atStart => exact ⟨0, 0, [], by omega, rfl, rfl, by omega, by rw [List.drop_zero]; simp, X2.out⟩
            case round =>
              obtain ⟨k, m, acc, hk, rfl, hm, hmk, hex, hX⟩ := hrel
              have X3 := hid hX
              have HEX := hid hex
              have HM := hid hm
              obtain ⟨oa, oc, rfl, -⟩ := own_slice (hX.row 0 rfl).1
              clear hX hex X2 hm
              by_cases hkn : k + 1 < n
              · have hl1 : k < ns.length := by have := HNL.out; omega
                have hl2 : k + 1 < ns.length := by have := HNL.out; omega
                have hga := HNG.out k hl1
                have hgb := HNG.out (k + 1) hl2
                have hka : ns[k]? = some ns[k] := List.getElem?_eq_getElem hl1
                have hkb : ns[k + 1]? = some ns[k + 1] := List.getElem?_eq_getElem hl2
                generalize ns[k] = a at *
                generalize ns[k + 1] = d at *
                have HGA := hid hga
                have HGB := hid hgb
                have hal := HIN.out k a hka
                have HST := hid (expT_step' hka hkb HEX.out)
                obtain ⟨y, hy⟩ : ∃ y, y = G.along a d := ⟨_, rfl⟩
                have HY := hid hy
                have hk1 : (k : Int) + 1 < (n : Int) := by omega
                clear hka hkb hl1 hl2 HEX hy hga hgb
                go_wp2_with fail
                go_loopw [10, 12, 13] (fun sv fv dv wr2 => ∃ (e : Nat) (fd : Bool) (acc2 : List Nat) (m2 : Nat), e ≤ 8 ∧ dv = .int .i64 e ∧ fv = .bool fd ∧ m2 = acc2.length ∧ m2 ≤ 31 * k + 31 ∧ ((fd = false ∧ acc2 = acc ∧ ∀ x, x < e → G.alongD a d x = none) ∨ (fd = true ∧ ∃ mm, y = some mm ∧ acc2 = acc ++ mm ∧ mm.length ≤ 31)) ∧ Star w wr2 [Row 3 1 sv (m2 + 1) (gC (t0 :: acc2))]) (fun _ _ dv _ => 8 - (intOf dv).toNat)
                case atStart => exact ⟨0, false, acc, m, by omega, rfl, rfl, HM.out, by omega, .inl ⟨rfl, rfl, fun x hx => by omega⟩, X3.out⟩
                case round =>
                  obtain ⟨e, fd, acc2, m2, he, rfl, rfl, hm2, hm2k, hI, hX⟩ := hrel
                  have X4 := hid hX
                  have HI := hid hI
                  have HM2 := hid hm2
                  obtain ⟨oa2, oc2, rfl, -⟩ := own_slice (hX.row 0 rfl).1
                  clear hX hI X3 hm2
                  by_cases hgo : e < 8 ∧ fd = false
                  · obtain ⟨he8, rfl⟩ := hgo
                    have HN1 := hid (show acc2 = acc ∧ ∀ x, x < e → G.alongD a d x = none by rcases HI.out with h | h; exact h.2; cases h.1)
                    have ga := X4.out.same.keep HGA.out
                    have gal := World.block_lt_of_cell? _ _ ga
                    have H4 := hid (H.out.same X4.out.same)
                    clear HI
                    go_wp2_with fail
                    refine (ray_any H4.out a e hal).mono ?_
                    rintro r w5 ⟨v5, rfl, hX5⟩
                    obtain ⟨l, hl⟩ : ∃ l, l = G.ray a e := ⟨_, rfl⟩
                    rw [← hl] at hX5
                    have HL := hid hl
                    have hll : l.length ≤ 31 := by
                      have h1 := Gr.ray_len H.out.ok _ (Nat.le_refl (G.room a e))
                      have h3 := Gr.room_in H.out.ok hal e
                      rw [hl]; omega
                    have X5 := hid ((X4.out.lift hX5).swap)
                    obtain ⟨va, vc, rfl, -⟩ := own_slice (hX5.row 0 rfl).1
                    obtain ⟨q, hq⟩ : ∃ q, q = l.length := ⟨_, rfl⟩
                    have HQ := hid hq
                    rw [← hq] at X5 hll ⊢
                    clear hX5 hl X4 H4 ga gal hq
                    go_wp2_with fail
                    go_loopw [10, 12, 74] (fun sv fv iv wx => ∃ j : Nat, j ≤ q ∧ iv = .int .i64 j ∧ sv = .slice oa2 (m2 + 1) oc2 ∧ fv = .bool false ∧ (∀ x ∈ l.take j, x ≠ d) ∧ Star w wx [Row 3 1 (.slice oa2 (m2 + 1) oc2) (m2 + 1) (gC (t0 :: acc2)), Row 3 1 (.slice va q vc) q (gC l)]) (fun _ _ iv _ => q - (intOf iv).toNat)
                    case atStart => exact ⟨0, by omega, rfl, rfl, rfl, by simp, X5.out⟩
                    case round =>
                      obtain ⟨j, hj, rfl, rfl, rfl, hnd, hX⟩ := hrel
                      have X6 := hid hX
                      have HND := hid hnd
                      clear hX hnd X5
                      by_cases hjq : j < q
                      · obtain ⟨u, hu⟩ : ∃ u, l[j]? = some u := ⟨_, List.getElem?_eq_getElem (by have := HQ.out; omega)⟩
                        have hrow := (X6.out.row 1 rfl).1
                        obtain ⟨gg, cg, e3⟩ := own_shape hrow (by omega)
                        cases e3
                        have hcap := own_cap hrow
                        have u0 : wr.cell? ⟨gg, j, none⟩ = some (.int .i64 u) := (hrow.cellAt j (by omega)).trans (by unfold gC; rw [List.getElem?_map, hu]; rfl)
                        have ul := (hrow.lt gg rfl).2
                        have gb := X6.out.same.keep HGB.out
                        have gbl := World.block_lt_of_cell? _ _ gb
                        have HU := hid hu
                        clear hrow hu
                        by_cases hud : u = d
                        · subst hud
                          have HUP := hid (upto_in j HU.out HND.out)
                          have hys : y = some (l.take (j + 1)) := by
                            rw [HY.out]
                            refine Gr.along_at he8 HN1.out.2 ?_
                            unfold Gr.alongD
                            rw [← HL.out, HUP.out]
                          have HYS := hid hys
                          have hlt : (l.take (j + 1)).length = j + 1 := by rw [List.length_take]; have := HQ.out; omega
                          have HLT := hid hlt
                          have hrd := hid ((Reads.of_own (X6.out.row 1 rfl).1).head (j + 1) vc (by omega))
                          have htk := hid (show (gC l).take ((j + 1) * 1) = gC (l.take (j + 1)) by simp [gC, List.map_take])
                          have hw4 : j + 1 ≤ q := by omega
                          have hw5 : j + 1 ≤ vc := by omega
                          have hw7 : (j : Int) + 1 ≤ (q : Int) := by omega
                          have hw8 : (j : Int) + 1 ≤ (vc : Int) := by omega
                          have hacc := HN1.out.1
                          have HMM := hid (show m2 = m by rw [HM2.out, hacc, HM.out])
                          have hmb : m2 ≤ 31 * k := by rw [HMM.out]; exact hmk
                          have hrd2 := hrd.out
                          rw [htk.out] at hrd2
                          have hrd3 := hid hrd2
                          clear hys hlt hacc hrd hrd2 htk
                          go_wp2_with (at_builtin; refine wpList_app rfl (.tmp 85) (.tmp 89) 24 rfl 3 i0 (.int .i64 0) 1 8 Tryd.underlying24 hi0 hz0 hz1 hz2 rfl (by decide) _ (m2 + 1) (gC (t0 :: acc2)) rfl (X6.out.row 0 rfl).1 (some ⟨gg, 0, none⟩) (j + 1) vc (gC (l.take (j + 1))) rfl hrd3.out (gC_one _) (by omega) (by omega) ?_; intro a5 c5 w8 ho5 hg5 hn5; have X7 := hid (X6.out.grown 0 rfl ho5 hg5 hn5).swap.drop; clear ho5 hg5 hn5)
                          go_roundw
                          case rel =>
                            refine ⟨e + 1, true, acc2 ++ l.take (j + 1), m2 + (j + 1), by omega, by go_num, rfl, by rw [List.length_append, HLT.out, ← HM2.out], by omega, .inr ⟨rfl, _, HYS.out, by rw [HN1.out.1], by rw [HLT.out]; omega⟩, ?_⟩
                            rw [show gC (t0 :: (acc2 ++ l.take (j + 1))) = gC (t0 :: acc2) ++ gC (l.take (j + 1)) by simp [gC], show m2 + (j + 1) + 1 = m2 + 1 + (j + 1) by omega]
                            exact X7.out
                          case measure => simp [intOf]; omega
                        · have hub : ((u : Int) == (d : Int)) = false := by rw [beq_eq_false_iff_ne]; omega
                          have HUD := hid hud
                          clear hud
                          go_wp2
                          go_roundw
                          case rel =>
                            refine ⟨j + 1, by omega, by go_num, rfl, rfl, fun z hz => ?_, X6.out⟩
                            obtain ⟨h1, h2⟩ := List.getElem?_eq_some_iff.1 HU.out
                            rw [List.take_succ_eq_append_getElem h1, h2, List.mem_append] at hz
                            rcases hz with hz | hz
                            · exact HND.out z hz
                            · simp only [List.mem_singleton] at hz; rw [hz]; exact HUD.out
                          case measure => simp [intOf]; omega
                      · have HNO := hid (show G.alongD a d e = none by
                          unfold Gr.alongD
                          rw [← HL.out]
                          exact upto_out (fun x hx => HND.out x (by rw [List.take_of_length_le (by have := HQ.out; omega)]; exact hx)))
                        go_wp2
                        go_roundw
                        case rel =>
                          refine ⟨e + 1, false, acc2, m2, by omega, by go_num, rfl, HM2.out, by omega, .inl ⟨rfl, HN1.out.1, fun x hx => ?_⟩, X6.out.swap.drop⟩
                          by_cases hxe : x = e
                          · rw [hxe]; exact HNO.out
                          · exact HN1.out.2 x (by omega)
                        case measure => simp [intOf]; omega
                  · cases fd with
                    | true =>
                      have HYM := hid (show ∃ mm, y = some mm ∧ acc2 = acc ++ mm ∧ mm.length ≤ 31 by rcases HI.out with h | h; cases h.1; exact h.2)
                      have HNX := hid (show G.expT ns = (G.expT (ns.drop (k + 1))).map (acc2 ++ ·) by
                        obtain ⟨mm, h1, h2, _⟩ := HYM.out
                        rw [HST.out, ← HY.out, h1, h2]; rfl)
                      have hmb : m2 ≤ 31 * (k + 1) := by omega
                      clear HI hgo
                      by_cases he8 : e < 8
                      all_goals
                        go_wp2
                        go_roundw
                        case rel => exact ⟨k + 1, m2, acc2, by omega, by go_num, HM2.out, hmb, HNX.out, X4.out⟩
                        case measure => simp [intOf]; omega
                    | false =>
                      have he8 : e = 8 := by
                        by_cases h : e < 8
                        · exact absurd ⟨h, rfl⟩ hgo
                        · omega
                      subst he8
                      have HA := hid (show z = (none, 9) by
                        have hyn : y = none := by
                          rw [HY.out]
                          rcases HI.out with h | h
                          · exact Gr.along_no h.2.2
                          · cases h.1
                        rw [HW.out, HST.out, ← HY.out, hyn]; rfl)
                      clear HI hgo
                      go_wp2
                      go_ret2
                      rw [HA.out]
                      exact ⟨rfl, X4.out.same⟩
              · have e : G.expT ns = some acc := expT_end' (k := k) (by have := HNL.out; omega) HEX.out
                have HA := hid (show z = (some (t0 :: acc), 0) by rw [HW.out, e]; unfold outE; rw [hhd.out])
                have hk1 : ¬ ((k : Int) + 1 < (n : Int)) := by omega
                clear e
                go_wp2
                go_ret2
                rw [HA.out]
                exact ⟨_, rfl, by rw [List.length_cons, ← HM.out]; exact X3.out⟩
end
end Go.Proofs.YtdihnjhbopogoaaDoor.Jmp
