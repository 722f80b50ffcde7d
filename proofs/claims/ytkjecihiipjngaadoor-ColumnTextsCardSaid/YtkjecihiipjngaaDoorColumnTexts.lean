/-
  ColumnTexts answers true, whatever it is handed: the walk.
-/
import Derived.Test.YtkjecihiipjngaaDoorLaw05
import Derived.Test.YtkjecihiipjngaaDoorColS
import Derived.Test.YtkjecihiipjngaaDoorMap
namespace Go.Proofs.YtkjecihiipjngaaDoor.ColumnTexts
open Go Go.RowKit Go.Maps Go.WideMaps

/-- How often each text stands in a list, as a map's reading. -/
def cntF (ss : List ByteArray) : Lit → Int
  | .string l => ((ss.map fun s => s.data.toList).count l : Nat)
  | _ => 0

theorem cnt_nil : ∀ kl, cntF [] kl = 0 := by intro kl; cases kl <;> rfl
theorem cnt_perm {a b : List ByteArray} (h : a.Perm b) : ∀ kl, cntF a kl = cntF b kl := by
  intro kl
  cases kl with
  | string l => simp only [cntF]; rw [List.Perm.count_eq (h.map _)]
  | _ => rfl
theorem cnt_cons (s : ByteArray) (ss : List ByteArray) : ∀ kl, updI (cntF ss) (.string s.data.toList) (cntF ss (.string s.data.toList) + 1) kl = cntF (s :: ss) kl := by
  intro kl
  by_cases h : kl = .string s.data.toList
  · subst h; rw [updI_same]; simp [cntF]
  · rw [updI_other _ _ h]
    cases kl with
    | string l => simp only [cntF, List.map_cons]; rw [List.count_cons_of_ne (fun e => h (by rw [e]))]
    | _ => rfl
theorem cnt_uncons (s : ByteArray) (ss : List ByteArray) : ∀ kl, updI (cntF (s :: ss)) (.string s.data.toList) (cntF (s :: ss) (.string s.data.toList) - 1) kl = cntF ss kl := by
  intro kl
  by_cases h : kl = .string s.data.toList
  · subst h; rw [updI_same]; simp [cntF]
  · rw [updI_other _ _ h, ← cnt_cons s ss, updI_other _ _ h]
theorem cnt_le (ss : List ByteArray) (kl : Lit) : 0 ≤ cntF ss kl ∧ cntF ss kl ≤ ss.length := by
  cases kl with
  | string l => simp only [cntF]; have := List.count_le_length (a := l) (l := ss.map fun s => s.data.toList); simp at this; omega
  | _ => simp [cntF]; 

theorem KL : Keyed Tryd.prog 9 := string_keyed Tryd.underlying9
theorem zeroI : ∀ w, (zeroValue 3).run Tryd.prog w = .ok (.int .i64 0) w := by intro w; kernel_rfl

set_option maxRecDepth 100000 in
theorem walk (vw vo : Value) (ws : List ByteArray) (os : List Int) (w : World) (hw : Texts w vw ws) (hwl : ws.length ≤ 8796093021952) (hws : ∀ s ∈ ws, s.size ≤ maxLen) (ho : Ints w vo os) (hol : os.length ≤ 17592186043904)
    (T : TypeId) (u : Value) (he : w.cell? ⟨1, 0, none⟩ = some (.iface T u)) (hg : 1 < w.heap.size) :
    Calls Tryd.prog 3 #[vw, vo] w fun r w' => r = .returned (.bool true) ∧ Same w w' := by
  obtain ⟨a, c, rfl⟩ := hw.slice
  obtain ⟨a', c', rfl⟩ := ho.slice
  obtain ⟨n, hn⟩ : ∃ n, n = ws.length := ⟨_, rfl⟩
  obtain ⟨m, hm⟩ : ∃ m, m = os.length := ⟨_, rfl⟩
  rw [← hn] at hwl
  rw [← hm] at hol
  rw [← hn, ← hm]
  have HN := hid hn
  have HM := hid hm
  have HW := hid hw
  have HWS := hid hws
  have HO := hid ho
  have HE := hid he
  have hmm := @run_makeMap Tryd.prog
  clear hw ho hws he hn hm
  go_enter Tryd.func3, Tryd.ntmps3
  go_wp2_with fail
  refine (Law05.alive _).mono ?_
  rintro r w1 ⟨rfl, hs1⟩
  have S1 := hid hs1
  clear hs1
  by_cases h60 : 60 < n
  · go_wp2
    go_ret
    exact ⟨rfl, S1.out⟩
  by_cases h60' : 60 < m
  · go_wp2
    go_ret
    exact ⟨rfl, S1.out⟩
  go_wp2_with fail
  go_loop [31] (fun i => ∃ k : Nat, k ≤ n ∧ i = .int .i64 k) (fun i => n - (intOf i).toNat)
  case atStart => exact ⟨0, Nat.zero_le _, rfl⟩
  case round =>
    obtain ⟨k, hk, rfl⟩ := hrel
    by_cases hlt : k < n
    · have hk' : k < ws.length := by have := HN.out; omega
      obtain ⟨b, off, cap, e1, hb, hcl⟩ := HW.out.cells (by omega)
      cases e1
      have g1 := (S1.out.cell (p := ⟨b, off + k, none⟩) hb (fun f => f)).trans (hcl k hk')
      have hsz := HWS.out _ (List.getElem_mem hk')
      unfold maxLen at hsz
      clear hcl
      generalize ws[k] = s at *
      by_cases h200 : 200 < s.size
      · go_wp2
        go_ret
        exact ⟨rfl, S1.out⟩
      · go_wp2
        go_round
        case rel => exact ⟨k + 1, by omega, by go_num⟩
        case measure => simp [intOf]; omega
    · go_wp2_with fail
      refine (ColS.new_any _ _).mono ?_
      rintro r w2 ⟨rfl, hc2, hs2, hz2⟩
      rw [show max (60 : Int) 0 = 60 from rfl] at hc2
      have S2 := hid (S1.out.trans hs2 (fun _ _ f => f))
      have hp : w.heap.size ≤ w1.heap.size := S1.out.size
      have C2 := hid hc2
      clear hc2 hs2 S1 hz2
      generalize w1.heap.size = p at *
      go_wp2_with fail
      refine (ColS.push_ok _ _ _ (ws.map Value.string) _ a n c _ C2.out (by omega) (by rw [HN.out]; exact HW.out.same S2.out) (by simp [Value.oneCell']) (by simp; omega) (by simp; omega)).mono ?_
      rintro r w3 ⟨rfl, v3, hc3, hs3, hn3⟩
      have A3 := hid (hn3.after (After.nil w) S2.out.size)
      have S3 := hid (S2.out.new hs3 (ColS.new hp (After.nil w)))
      have C3 := hid hc3
      clear hc3 hs3 hn3 C2 S2
      go_wp2_with fail
      have M4 := hid (MapI.made (P := Tryd.prog) (K := 9) (E := 3) w3)
      have S4 := hid (S3.out.alloc (.map #[] 0))
      have C4 := hid (C3.out.chg (S := fun _ => False) ((Chg.refl w3).alloc (.map #[] 0)) (fun _ _ f => f))
      have hq : w.heap.size ≤ w3.heap.size := S3.out.size
      have hqp : ¬ ColS p v3 w3.heap.size := by
        rintro (e | e)
        · have := C3.out.lt; omega
        · have := (C3.out.own.lt _ e.symm).2; omega
      have hlt4 : w3.heap.size < (w3.alloc (.map #[] 0)).heap.size := by simp
      clear C3 S3
      generalize w3.alloc (.map #[] 0) = w4 at *
      generalize w3.heap.size = q at *
      have HQP := hid hqp
      clear hqp
      go_loopw [51] (fun i wr => ∃ (k j : Nat), k ≤ n ∧ i = .int .i64 k ∧ j ≤ k ∧ MapI Tryd.prog 9 3 wr q j (cntF (ws.take k)) ∧ Chg (fun x => x = q) w4 wr) (fun i _ => n - (intOf i).toNat)
      case atStart => exact ⟨0, 0, Nat.zero_le _, rfl, Nat.le_refl _, M4.out.congr (fun kl => by rw [List.take_zero, cnt_nil]), Chg.refl _⟩
      case round =>
        obtain ⟨k2, j, hk2, rfl, hj, hm, hcr⟩ := hrel
        have HMr := hid hm
        have HCR := hid hcr
        clear hm hcr
        by_cases hlt2 : k2 < n
        · have hk' : k2 < ws.length := by have := HN.out; omega
          obtain ⟨b, off, cap, e1, hb, hcl⟩ := HW.out.cells (by omega)
          cases e1
          have g1 := (HCR.out.cell (p := ⟨b, off + k2, none⟩) (Nat.lt_of_lt_of_le hb S4.out.size) (fun e => by have : b = q := e; omega)).trans ((S4.out.cell (p := ⟨b, off + k2, none⟩) hb (fun f => f)).trans (hcl k2 hk'))
          have HKY := hid (keyOf_string_mk Tryd.underlying9 (HWS.out _ (List.getElem_mem hk')))
          have HTK := hid (show (ws[k2] :: ws.take k2).Perm (ws.take (k2 + 1)) by rw [List.take_succ_eq_append_getElem hk']; exact (List.perm_append_comm (l₁ := [ws[k2]])))
          clear hcl
          generalize ws[k2] = s at *
          have hcb := cnt_le (ws.take k2) (.string s.data.toList)
          obtain ⟨x, hx⟩ : ∃ x, x = cntF (ws.take k2) (.string s.data.toList) := ⟨_, rfl⟩
          rw [← hx, List.length_take] at hcb
          have hx0 : 0 ≤ x := hcb.1
          have hx1 : x ≤ 60 := by omega
          have HX := hid hx
          clear hcb hx
          go_wp2_with (first
            | (at_lookup; refine wpList_lookI rfl _ _ rfl KL Tryd.underlying30 Tryd.underlying3 zeroI rfl HMr.out _ _ rfl HKY.out ?_; rw [← HX.out])
            | (at_mapUpdate; refine wpList_storeI rfl _ _ _ rfl KL Tryd.underlying30 Tryd.underlying3 rfl HMr.out (by omega) _ _ _ rfl rfl HKY.out (by omega) ?_))
          intro w5 hm5 hc5
          have M5 := hid (hm5.congr (g := cntF (ws.take (k2 + 1))) (fun kl => by rw [HX.out, cnt_cons]; exact cnt_perm HTK.out kl))
          have C5 := hid (HCR.out.trans hc5 (fun _ _ h => h))
          clear hm5 hc5
          go_wp2
          go_roundw
          case rel => exact ⟨k2 + 1, j + 1, by omega, by go_num, by omega, M5.out, C5.out⟩
          case measure => simp [intOf]; omega
        · go_wp2_with fail
          have hkn : k2 = n := by omega
          have C6 := hid (C4.out.chg HCR.out (fun x hx e => HQP.out (e ▸ hx)))
          have S6 := hid (S4.out.new HCR.out (fun i e => e ▸ hq))
          have M6 := hid (HMr.out.congr (g := cntF ws) (fun kl => by rw [List.take_of_length_le (by have := HN.out; omega)]))
          clear HMr HCR C4 S4 M4 hkn
          go_loopw [62] (fun i wr => ∃ (k j : Nat) (v : Value) (ss : List ByteArray), k ≤ m ∧ i = .int .i64 k ∧ j ≤ 60 + k ∧ ss.length ≤ 60 ∧ (∀ s ∈ ss, s.size ≤ maxLen) ∧ Col 85 9 wr p v (ss.map Value.string) 60 ∧ MapI Tryd.prog 9 3 wr q j (cntF ss) ∧ After w v ∧ ¬ ColS p v q ∧ Same w wr) (fun i _ => m - (intOf i).toNat)
          case atStart => exact ⟨0, j, v3, ws, Nat.zero_le _, rfl, by omega, by have := HN.out; omega, HWS.out, by simpa using C6.out, M6.out, A3.out, HQP.out, S6.out⟩
          case round =>
            obtain ⟨k3, j3, v, ss, hk3, rfl, hj3, hl3, hsz3, hc3, hm3, ha3, hqp3, hs3⟩ := hrel
            have HSZ := hid hsz3
            have HC := hid hc3
            have HMm := hid hm3
            have HA := hid ha3
            have HQ := hid hqp3
            have HSR := hid hs3
            clear hsz3 hc3 hm3 ha3 hqp3 hs3 HQP A3 S6 M6 C6
            by_cases hlt3 : k3 < m
            · have hk' : k3 < os.length := by have := HM.out; omega
              obtain ⟨b, off, cap, e1, hb, hcl⟩ := HO.out.cells (by omega)
              cases e1
              have g1 := (HSR.out.cell (p := ⟨b, off + k3, none⟩) hb (fun f => f)).trans (hcl k3 hk')
              clear hcl
              generalize os[k3] = x at *
              by_cases hin : 0 ≤ x ∧ x < ss.length
              · obtain ⟨i, rfl⟩ := Int.eq_ofNat_of_zero_le hin.1
                have hi : i < ss.length := by omega
                have hgi : (ss.map Value.string)[i]? = some (.string ss[i]) := by simp [hi]
                have HGI := hid hgi
                have HPM := hid (takeOut_perm ss i ss[i] (by simp [hi]))
                have HKY := hid (keyOf_string_mk Tryd.underlying9 (HSZ.out _ (List.getElem_mem hi)))
                clear hgi
                generalize ss[i] = s at *
                go_wp2_with fail
                refine (ColS.take_in _ _ _ _ i _ HC.out _ HGI.out (by intro u hu; obtain ⟨y, _, rfl⟩ := List.mem_map.1 hu; exact ⟨y, rfl⟩)).mono ?_
                rintro r w7 ⟨rfl, v7, hc7, hs7, hn7⟩
                rw [takeOut_map] at hc7
                have S7 := hid (HSR.out.new hs7 (ColS.new hp HA.out))
                have M7 := hid (HMm.out.chg hs7 HQ.out)
                have A7 := hid (show After w v7 from fun k hk => HA.out k (hn7 ▸ hk))
                have Q7 := hid (show ¬ ColS p v7 q by unfold ColS; rw [hn7]; exact HQ.out)
                have C7 := hid hc7
                have L7 := hid (show (takeOut ss i).length + 1 = ss.length from by have := HPM.out.length_eq; simpa using this)
                have Z7 := hid (show ∀ s ∈ takeOut ss i, s.size ≤ maxLen from fun s hs => HSZ.out s (HPM.out.subset (List.mem_cons_of_mem _ hs)))
                clear hc7 hs7 hn7 HC HMm HA HQ HSR
                have hcb := cnt_le ss (.string s.data.toList)
                obtain ⟨x, hx⟩ : ∃ x, x = cntF ss (.string s.data.toList) := ⟨_, rfl⟩
                rw [← hx] at hcb
                have hx0 : 0 ≤ x := hcb.1
                have hx1 : x ≤ 60 := by omega
                have HX := hid hx
                clear hcb hx
                go_wp2_with (first
                  | (at_lookup; refine wpList_lookI rfl _ _ rfl KL Tryd.underlying30 Tryd.underlying3 zeroI rfl M7.out _ _ rfl HKY.out ?_; rw [← HX.out])
                  | (at_mapUpdate; refine wpList_storeI rfl _ _ _ rfl KL Tryd.underlying30 Tryd.underlying3 rfl M7.out (by omega) _ _ _ rfl rfl HKY.out (by omega) ?_))
                intro w8 hm8 hc8
                have M8 := hid (hm8.congr (g := cntF (takeOut ss i)) (fun kl => by
                  rw [HX.out, ← cnt_uncons s (takeOut ss i) kl]
                  unfold updI
                  rw [cnt_perm HPM.out, cnt_perm HPM.out kl]))
                have C8 := hid (C7.out.chg hc8 (fun x hx e => Q7.out (e ▸ hx)))
                have S8 := hid (S7.out.new hc8 (fun i e => e ▸ hq))
                clear hm8 hc8 C7 S7 M7
                go_wp2
                go_roundw
                case rel => exact ⟨k3 + 1, j3 + 1, v7, takeOut ss i, by omega, by go_num, by omega, by have := L7.out; omega, Z7.out, C8.out, M8.out, A7.out, Q7.out, S8.out⟩
                case measure => simp [intOf]; omega
              · have gr := (HSR.out.cell (p := ⟨1, 0, none⟩) hg (fun f => f)).trans HE.out
                have hlm : (ss.map Value.string).length = ss.length := by simp
                have HLM := hid hlm
                clear hlm
                go_wp2_with fail
                refine (ColS.take_out _ _ _ _ _ _ HC.out (by rw [HLM.out]; omega) _ gr ⟨_, _, rfl⟩).mono ?_
                rintro r w7 ⟨rfl, hs7⟩
                have S7 := hid (HSR.out.trans hs7 (fun _ _ f => f))
                have C7 := hid (HC.out.chg hs7 (fun _ _ f => f))
                have M7 := hid (HMm.out.chg hs7 (fun f => f))
                clear hs7
                by_cases hx0 : 0 ≤ x
                · have hxl : ¬ x < ss.length := by omega
                  go_wp2_with (go_at_call 17; refine (ColS.len_any _ _ _ _ _ C7.out).mono ?_; rintro r w' ⟨rfl, rfl⟩; rw [HLM.out])
                  go_roundw
                  case rel => exact ⟨k3 + 1, j3, v, ss, by omega, by go_num, by omega, by omega, HSZ.out, C7.out, M7.out, HA.out, HQ.out, S7.out⟩
                  case measure => simp [intOf]; omega
                · go_wp2
                  go_roundw
                  case rel => exact ⟨k3 + 1, j3, v, ss, by omega, by go_num, by omega, by omega, HSZ.out, C7.out, M7.out, HA.out, HQ.out, S7.out⟩
                  case measure => simp [intOf]; omega
            · go_wp2_with fail
              refine (ColS.all_any _ _ _ _ _ HC.out (by simp [Value.oneCell']) (by simp; omega)).mono ?_
              rintro r w9 ⟨v9, rfl, hf9, hs9⟩
              have hlm : (ss.map Value.string).length = ss.length := by simp
              rw [hlm] at hf9
              obtain ⟨a9, c9, rfl, _⟩ := own_slice hf9.1
              have R9 := hid (show Texts w9 (.slice a9 ss.length c9) ss from Reads.of_own hf9.1)
              have N9 := hid (show ∀ b, (Value.slice a9 ss.length c9).ownBlock = some b → wr.heap.size ≤ b from hf9.2)
              have S9 := hid (HSR.out.trans hs9 (fun _ _ f => f))
              have M9 := hid (HMm.out.chg hs9 (fun f => f))
              have hqr : q < wr.heap.size := HMm.out.lt
              clear hf9 hs9 hlm HC HMm HSR
              obtain ⟨l, hl⟩ : ∃ l, l = ss.length := ⟨_, rfl⟩
              rw [← hl] at hl3
              rw [← hl]
              have HL := hid hl
              clear hl
              go_wp2_with fail
              go_loopw [90] (fun i wx => ∃ (k j : Nat), k ≤ l ∧ i = .int .i64 k ∧ j ≤ 120 + k ∧ MapI Tryd.prog 9 3 wx q j (cntF (ss.drop k)) ∧ Chg (fun x => x = q) w9 wx) (fun i _ => l - (intOf i).toNat)
              case atStart => exact ⟨0, j3, Nat.zero_le _, rfl, by omega, by simpa using M9.out, Chg.refl _⟩
              case round =>
                obtain ⟨k4, j4, hk4, rfl, hj4, hm4, hc4⟩ := hrel
                have HM4 := hid hm4
                have HC4 := hid hc4
                clear hm4 hc4
                by_cases hlt4 : k4 < l
                · have hk' : k4 < ss.length := by have := HL.out; omega
                  obtain ⟨b, off, cap, e1, hb, hcl⟩ := R9.out.cells (by omega)
                  cases e1
                  have hbq : ¬ b = q := fun e => by have := N9.out b rfl; omega
                  have g1 := (HC4.out.cell (p := ⟨b, off + k4, none⟩) hb hbq).trans (hcl k4 hk')
                  have HKY := hid (keyOf_string_mk Tryd.underlying9 (HSZ.out _ (List.getElem_mem hk')))
                  have HDR := hid (show ss.drop k4 = ss[k4] :: ss.drop (k4 + 1) from List.drop_eq_getElem_cons hk')
                  clear hcl
                  generalize ss[k4] = s at *
                  have hcb := cnt_le (ss.drop k4) (.string s.data.toList)
                  obtain ⟨x, hx⟩ : ∃ x, x = cntF (ss.drop k4) (.string s.data.toList) := ⟨_, rfl⟩
                  rw [← hx, List.length_drop] at hcb
                  have hx0 : 0 ≤ x := hcb.1
                  have hx1 : x ≤ 60 := by have := HL.out; omega
                  have HX := hid hx
                  clear hcb hx
                  go_wp2_with (first
                    | (at_lookup; refine wpList_lookI rfl _ _ rfl KL Tryd.underlying30 Tryd.underlying3 zeroI rfl HM4.out _ _ rfl HKY.out ?_; rw [← HX.out])
                    | (at_mapUpdate; refine wpList_storeI rfl _ _ _ rfl KL Tryd.underlying30 Tryd.underlying3 rfl HM4.out (by omega) _ _ _ rfl rfl HKY.out (by omega) ?_))
                  intro w8 hm8 hc8
                  have M8 := hid (hm8.congr (g := cntF (ss.drop (k4 + 1))) (fun kl => by
                    rw [HX.out, HDR.out]
                    exact cnt_uncons s _ kl))
                  have C8 := hid (HC4.out.trans hc8 (fun _ _ h => h))
                  clear hm8 hc8
                  go_wp2
                  go_roundw
                  case rel => exact ⟨k4 + 1, j4 + 1, by omega, by go_num, by omega, M8.out, C8.out⟩
                  case measure => simp [intOf]; omega
                · have S10 := hid (S9.out.new HC4.out (fun i e => e ▸ hq))
                  have M10 := hid (HM4.out.congr (g := fun _ => 0) (fun kl => by rw [List.drop_of_length_le (by have := HL.out; omega), cnt_nil]))
                  clear HM4 HC4 S9 M9
                  go_wp2_with (at_range; refine wpList_rangeI rfl _ rfl KL Tryd.underlying30 rfl M10.out ?_)
                  intro w11 cnt hr11 hs11
                  have S11 := hid (S10.out.trans hs11 (fun _ _ f => f))
                  have hr : w.heap.size ≤ wr.heap.size := S10.out.size
                  have R11 := hid hr11
                  clear hs11 hr11 S10 M10
                  generalize wr.heap.size = r at *
                  go_wp2_with fail
                  go_loopw [18] (fun _ wy => ∃ cnt, RangeI Tryd.prog 9 3 wy q r j4 (fun _ => 0) cnt ∧ Same w wy) (fun _ wy => wy.rangeLeft q r)
                  case atStart => exact ⟨cnt, R11.out, S11.out⟩
                  case round =>
                    obtain ⟨cn, hr5, hs5⟩ := hrel
                    have HR5 := hid hr5
                    have HS5 := hid hs5
                    clear hr5 hs5
                    go_wp2_with (at_next; refine wpList_nextI rfl _ rfl KL Tryd.underlying3 rfl HR5.out ?_ ?_)
                    · go_wp2
                      go_ret
                      exact ⟨rfl, HS5.out⟩
                    · intro x kl w12 cnt' hk hr12 hlt12 hc12 hen
                      have S12 := hid (HS5.out.new hc12 (fun i e => e ▸ hr))
                      have R12 := hid hr12
                      have L12 := hid hlt12
                      clear hr12 hlt12 hc12 hk
                      go_wp2
                      go_roundw
                      case rel => exact ⟨cnt', R12.out, S12.out⟩
                      case measure => rw [R12.out.left, HR5.out.left]; exact L12.out
end Go.Proofs.YtkjecihiipjngaaDoor.ColumnTexts
