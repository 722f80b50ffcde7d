/-
  The document's word on slots and free places: Form.
-/
import Derived.Test.YtminjgfobcnmhaaDoorPoolFrom
import Derived.Test.YtminjgfobcnmhaaDoorNumIn
import Derived.Test.YtminjgfobcnmhaaDoorPart
namespace Go.Proofs.YtminjgfobcnmhaaDoor.Pool
open Go Go.RowKit

/-- What Form answers. -/
def FormA (S : List Slot) (fs : List Int) (w w' : World) (r : Ending) : Prop := ∃ B : Bool, r = .returned (.bool B) ∧ (B = true ↔ Form S fs) ∧ Same w w'
theorem FormA.no {S : List Slot} {fs : List Int} {w w' : World} (h : ¬ Form S fs) (hs : Same w w') : FormA S fs w w' (.returned (.bool false)) := ⟨false, rfl, by simp [h], hs⟩
theorem FormA.yes {S : List Slot} {fs : List Int} {w w' : World} (h : Form S fs) (hs : Same w w') : FormA S fs w w' (.returned (.bool true)) := ⟨true, rfl, by simp [h], hs⟩
/-- The first k free places are right. -/
def FreeTo (S : List Slot) (fs : List Int) (k : Nat) : Prop := (∀ x ∈ fs.take k, freeOk S x) ∧ (fs.take k).Nodup
theorem FreeTo.step {S : List Slot} {fs : List Int} {k : Nat} {x : Int} (h : FreeTo S fs k) (hx : fs[k]? = some x) (hf : freeOk S x) (hn : x ∉ fs.take k) : FreeTo S fs (k + 1) := by
  obtain ⟨hl, rfl⟩ := List.getElem?_eq_some_iff.1 hx
  unfold FreeTo
  rw [List.take_succ_eq_append_getElem hl]
  refine ⟨fun y hy => ?_, ?_⟩
  · rcases List.mem_append.1 hy with hy | hy
    · exact h.1 y hy
    · simp only [List.mem_singleton] at hy; subst hy; exact hf
  · rw [List.nodup_append]
    exact ⟨h.2, by simp, fun a ha b hb => by simp only [List.mem_singleton] at hb; subst hb; exact fun e => hn (e ▸ ha)⟩
theorem nodup_at {fs : List Int} (h : fs.Nodup) {k : Nat} {x : Int} (hx : fs[k]? = some x) : x ∉ fs.take k := by
  obtain ⟨hl, rfl⟩ := List.getElem?_eq_some_iff.1 hx
  have h2 := h
  rw [← List.take_append_drop k fs, List.nodup_append] at h2
  intro hm
  exact h2.2.2 _ hm _ (by rw [List.drop_eq_getElem_cons hl]; exact List.mem_cons_self) rfl
def SlotTo (S : List Slot) (fs : List Int) (k : Nat) : Prop := ∀ (i : Nat) (s : Slot), i < k → S[i]? = some s → slotOk S fs i s
theorem SlotTo.step {S : List Slot} {fs : List Int} {k : Nat} {s : Slot} (h : SlotTo S fs k) (hs : S[k]? = some s) (ho : slotOk S fs k s) : SlotTo S fs (k + 1) := by
  intro i t hi ht
  by_cases e : i = k
  · subst e; rw [hs] at ht; cases ht; exact ho
  · exact h i t (by omega) ht

set_option maxRecDepth 100000 in
set_option maxHeartbeats 4000000 in
theorem form_any (S : List Slot) (fs : List Int) (vs vf : Value) (w : World) (hrs : Reads w vs S.length 2 (S.flatMap sl)) (hrf : Ints w vf fs) (hls : S.length ≤ 300) (hlf : fs.length ≤ 300) (hcp : ∀ a n c, vf = .slice a n c → n ≤ c) :
    Calls Tryd.prog 36 #[vs, vf] w fun r w' => FormA S fs w w' r := by
  obtain ⟨as0, cs0, rfl⟩ := hrs.slice
  obtain ⟨af0, cf0, rfl⟩ := hrf.slice
  have hcap := hcp _ _ _ rfl
  have HRS := hid hrs
  have HRF := hid hrf
  obtain ⟨n, hn⟩ : ∃ n, n = S.length := ⟨_, rfl⟩
  obtain ⟨l, hl⟩ : ∃ l, l = fs.length := ⟨_, rfl⟩
  rw [← hn] at hls
  rw [← hl] at hlf hcap
  have HRF2 : Hid (Reads w (.slice af0 l cf0) l 1 (fs.map (Value.int .i64))) := hid (by have h := HRF.out; unfold Ints at h; rw [← hl] at h; exact h)
  have HI0 : Hid (∀ {w'}, Same w w' → Ints w' (.slice af0 l cf0) fs) := hid (fun s => by have h := hrf.same s; rw [hl]; exact h)
  simp only [← hn, ← hl] at HRS ⊢
  have HN := hid hn
  have HL := hid hl
  clear hrs hrf hn hl hcp HRF
  go_enter Tryd.func36, Tryd.ntmps36
  by_cases h128 : 128 < n
  · go_wp2
    go_ret
    exact FormA.no (fun h => by have := h.len; have := HN.out; omega) (Chg.refl _)
  have hn128 : n ≤ 128 := by omega
  clear h128
  go_wp2
  go_loopw [5, 6, 14] (fun _ _ iv wr => ∃ k : Nat, k ≤ l ∧ iv = .int .i64 k ∧ FreeTo S fs k ∧ Hid (w = wr)) (fun _ _ iv _ => l - (intOf iv).toNat)
  case atStart => exact ⟨0, by omega, rfl, ⟨by simp, by simp⟩, hid rfl⟩
  case round =>
    obtain ⟨k, hk, rfl, hf, hw⟩ := hrel
    have FT := hid hf
    have hw' := hw.out
    clear hf
    by_cases hkl : k < l
    · obtain ⟨x, hx⟩ : ∃ x, fs[k]? = some x := ⟨_, List.getElem?_eq_getElem (by have := HL.out; omega)⟩
      obtain ⟨b, off, cap, e1, hb, hcl⟩ := HRF2.out.open (by omega)
      cases e1
      have g0 := hcl k (.int .i64 x) (by simp [hx])
      rw [hw'] at g0
      have HX := hid hx
      have hmem : x ∈ fs := List.mem_of_getElem? hx
      have HM := hid hmem
      clear hx hcl hmem hw'
      by_cases hx0 : x < 0
      · go_wp2
        go_ret
        exact FormA.no (fun h => by have := (h.free x HM.out).1; omega) (by rw [hw.out]; exact Chg.refl _)
      by_cases hxn : (n : Int) ≤ x
      · have hx0' : (x < 0) = False := by simpa using hx0
        go_wp2
        go_ret
        refine FormA.no (fun h => ?_) (by rw [hw.out]; exact Chg.refl _)
        obtain ⟨_, g, hg⟩ := h.free x HM.out
        have := (List.getElem?_eq_some_iff.1 hg).1
        have := HN.out
        omega
      obtain ⟨i, rfl⟩ : ∃ i : Nat, x = (i : Int) := ⟨x.toNat, by omega⟩
      have hin : i < n := by omega
      obtain ⟨⟨g, b2⟩, hs⟩ : ∃ s, S[i]? = some s := ⟨_, List.getElem?_eq_getElem (by have := HN.out; omega)⟩
      obtain ⟨bs, os, cps, e2, hbs, hcs⟩ := HRS.out.open (by omega)
      cases e2
      have s1 := hcs (i * 2 + 1) _ ((rows_get sl sl_len S i 1 _ hs (by omega)).trans rfl)
      rw [← Nat.add_assoc, hw.out] at s1
      have HS := hid hs
      clear hs hcs hx0 hxn
      cases b2 with
      | true =>
        go_wp2
        go_ret
        refine FormA.no (fun h => ?_) (by rw [hw.out]; exact Chg.refl _)
        obtain ⟨_, g', hg⟩ := h.free _ HM.out
        rw [Int.toNat_natCast, HS.out] at hg
        simp at hg
      | false =>
        have HI := hid (show Ints wr (.slice (some ⟨b, off, none⟩) k cf0) (fs.take k) from by
          have h := (HRF2.out.head k cf0 (by omega))
          rw [Nat.mul_one, ← List.map_take] at h
          unfold Ints
          rw [show (fs.take k).length = k by rw [List.length_take, ← HL.out]; omega, ← hw.out]
          exact h)
        go_wp2_with fail
        refine (Num.in_any _ (fs.take k) i _ HI.out (by rw [List.length_take, ← HL.out]; omega)).mono ?_
        rintro r w1 ⟨rfl, hw1⟩
        have hw1' := hid hw1
        by_cases hm : (i : Int) ∈ fs.take k
        · rw [decide_eq_true hm]
          have HMM := hid hm
          clear hm hw1
          go_wp2
          go_ret
          exact FormA.no (fun h => nodup_at h.nodup HX.out HMM.out) (by rw [hw.out, hw1'.out]; exact Chg.refl _)
        · rw [decide_eq_false hm]
          have HMM := hid hm
          clear hm hw1
          go_wp2
          go_roundw
          case rel =>
            have hrel : ∃ k' : Nat, k' ≤ l ∧ Value.int .i64 ((k : Int) + 1) = .int .i64 k' ∧ FreeTo S fs k' ∧ Hid (w = w1) := ⟨k + 1, by omega, by go_num, FT.out.step HX.out ⟨by omega, g, by rw [Int.toNat_natCast]; exact HS.out⟩ HMM.out, hid (hw.out.trans hw1'.out)⟩
            first | exact hrel | ((repeat apply Exists.intro); exact ⟨hrel, rfl⟩)
          case measure => simp [intOf]; omega
    · have hkl' : k = l := by omega
      subst hkl'
      have FA := hid (show (∀ x ∈ fs, freeOk S x) ∧ fs.Nodup from by
        have h := FT.out
        unfold FreeTo at h
        rw [List.take_of_length_le (by rw [← HL.out]; omega)] at h
        exact h)
      clear FT hw'
      go_wp2_with fail
      go_loopw [7, 44] (fun _ iv wx => ∃ j : Nat, j ≤ n ∧ iv = .int .i64 j ∧ SlotTo S fs j ∧ Same w wx) (fun _ iv _ => n - (intOf iv).toNat)
      case atStart => exact ⟨0, by omega, rfl, fun i s hi => by omega, by rw [hw.out]; exact Chg.refl _⟩
      case round =>
        rename_i wz
        obtain ⟨j, hj, rfl, hst, hsm⟩ := hrel
        have ST := hid hst
        have SM := hid hsm
        clear hst hsm
        by_cases hjn : j < n
        · obtain ⟨⟨g, b2⟩, hs⟩ : ∃ s, S[j]? = some s := ⟨_, List.getElem?_eq_getElem (by have := HN.out; omega)⟩
          obtain ⟨bs, os, cps, e2, hbs, hcs⟩ := HRS.out.open (by omega)
          cases e2
          have s0 := SM.out.keep (hcs (j * 2 + 0) _ ((rows_get sl sl_len S j 0 _ hs (by omega)).trans rfl))
          have s1 := SM.out.keep (hcs (j * 2 + 1) _ ((rows_get sl sl_len S j 1 _ hs (by omega)).trans rfl))
          rw [Nat.add_zero] at s0
          rw [← Nat.add_assoc] at s1
          have HS := hid hs
          clear hs hcs
          have SM2 := hid (SM.out.alloc (.cells #[.int .i64 g, .bool b2] 58))
          by_cases hg1 : g < 1
          · go_wp2
            go_ret
            exact FormA.no (fun h => by have := (h.slot j _ HS.out).1; simp only at this; omega) SM2.out
          by_cases hg2 : 1073741824 < g
          · go_wp2
            go_ret
            exact FormA.no (fun h => by have := (h.slot j _ HS.out).2.1; simp only at this; omega) SM2.out
          cases b2 with
          | true =>
            go_wp2
            go_roundw
            case rel => exact ⟨j + 1, by omega, by go_num, ST.out.step HS.out ⟨by simp only; omega, by simp only; omega, fun h => by cases h⟩, SM2.out⟩
            case measure => simp [intOf]; omega
          | false =>
            by_cases hg3 : g < 1073741824
            · go_wp2_with fail
              refine (Num.in_any _ fs j _ (HI0.out SM2.out) (by rw [← HL.out]; omega)).mono ?_
              rintro r w1 ⟨rfl, hw1⟩
              subst hw1
              by_cases hm : (j : Int) ∈ fs
              · rw [decide_eq_true hm]
                have HMM := hid hm
                clear hm
                go_wp2
                go_roundw
                case rel => exact ⟨j + 1, by omega, by go_num, ST.out.step HS.out ⟨by simp only; omega, by simp only; omega, fun _ _ => HMM.out⟩, SM2.out⟩
                case measure => simp [intOf]; omega
              · rw [decide_eq_false hm]
                have HMM := hid hm
                clear hm
                go_wp2
                go_ret
                exact FormA.no (fun h => HMM.out ((h.slot j _ HS.out).2.2 rfl hg3)) SM2.out
            · go_wp2
              go_roundw
              case rel => exact ⟨j + 1, by omega, by go_num, ST.out.step HS.out ⟨by simp only; omega, by simp only; omega, fun _ h => by simp only at h; omega⟩, SM2.out⟩
              case measure => simp [intOf]; omega
        · go_wp2
          go_ret
          exact FormA.yes ⟨by rw [← HN.out]; exact hn128, FA.out.2, FA.out.1, fun i s hs => ST.out i s (by have := (List.getElem?_eq_some_iff.1 hs).1; have := HN.out; omega) hs⟩ SM.out
end Go.Proofs.YtminjgfobcnmhaaDoor.Pool
