/-
  Package handles: From.
-/
import Derived.Test.YtminjgfobcnmhaaDoorPoolPlain
namespace Go.Proofs.YtminjgfobcnmhaaDoor.Pool
open Go Go.RowKit

def slotOk (S : List Slot) (fs : List Int) (i : Nat) (s : Slot) : Prop := 1 ≤ s.1 ∧ s.1 ≤ 1073741824 ∧ (s.2 = false → s.1 < 1073741824 → (i : Int) ∈ fs)
def freeOk (S : List Slot) (x : Int) : Prop := 0 ≤ x ∧ ∃ g, S[x.toNat]? = some (g, false)
/-- Are these a pool's slots and free places? -/
structure Form (S : List Slot) (fs : List Int) : Prop where
  len : S.length ≤ 128
  nodup : fs.Nodup
  free : ∀ x ∈ fs, freeOk S x
  slot : ∀ (i : Nat) (s : Slot), S[i]? = some s → slotOk S fs i s
theorem castL_toNat {fs : List Int} (h : ∀ x ∈ fs, 0 ≤ x) : (fs.map Int.toNat).map nv = fs.map (Value.int .i64) := by
  rw [List.map_map]
  apply List.map_congr_left
  intro x hx
  have := h x hx
  simp only [Function.comp, nv]
  congr 1
  omega
theorem Form.ok {S : List Slot} {fs : List Int} (h : Form S fs) : Ok S (fs.map Int.toNat) (S.countP (·.2)) := by
  have h0 : ∀ x ∈ fs, 0 ≤ x := fun x hx => (h.free x hx).1
  refine ⟨h.len, ?_, ?_, ?_, ?_, rfl⟩
  · have hn := h.nodup
    clear h
    induction fs with
    | nil => simp
    | cons x fs ih =>
      rw [List.nodup_cons] at hn
      rw [List.map_cons, List.nodup_cons]
      refine ⟨fun hm => ?_, ih (fun y hy => h0 y (List.mem_cons_of_mem _ hy)) hn.2⟩
      obtain ⟨y, hy, e⟩ := List.mem_map.1 hm
      have h1 := h0 y (List.mem_cons_of_mem _ hy)
      have h2 := h0 x List.mem_cons_self
      have : y = x := by omega
      exact hn.1 (this ▸ hy)
  · intro i hi
    obtain ⟨x, hx, rfl⟩ := List.mem_map.1 hi
    exact (h.free x hx).2
  · intro s hs
    obtain ⟨i, hi⟩ := List.getElem?_of_mem hs
    have := h.slot i s hi
    exact ⟨this.1, this.2.1⟩
  · intro i g hi hg
    have := (h.slot i _ hi).2.2 rfl hg
    exact List.mem_map.2 ⟨_, this, by simp⟩
theorem Ok.form {S : List Slot} {f : List Nat} {c : Int} (h : Ok S f c) : Form S (f.map (fun i : Nat => (i : Int))) := by
  refine ⟨h.len, ?_, ?_, ?_⟩
  · have hn := h.nodup
    clear h
    induction f with
    | nil => simp
    | cons x f ih =>
      rw [List.nodup_cons] at hn
      rw [List.map_cons, List.nodup_cons]
      refine ⟨fun hm => ?_, ih hn.2⟩
      obtain ⟨y, hy, e⟩ := List.mem_map.1 hm
      have : y = x := by omega
      exact hn.1 (this ▸ hy)
  · intro x hx
    obtain ⟨i, hi, rfl⟩ := List.mem_map.1 hx
    obtain ⟨g, hg⟩ := h.free i hi
    exact ⟨by omega, g, by simpa using hg⟩
  · intro i s hs
    have hg := h.gen s (List.mem_of_getElem? hs)
    refine ⟨hg.1, hg.2, fun hd hl => ?_⟩
    obtain ⟨g, b⟩ := s
    simp only at hd hl
    subst hd
    exact List.mem_map.2 ⟨i, h.dead i g hs hl, rfl⟩
theorem Form.flen {S : List Slot} {fs : List Int} (h : Form S fs) : fs.length ≤ S.length := by
  have h1 := h.ok
  have := nodup_len h1.nodup (n := S.length) (fun i hi => by obtain ⟨g, hg⟩ := h1.free i hi; exact (List.getElem?_eq_some_iff.1 hg).1)
  simpa using this

/-- What From answers. -/
def FromR (w w' : World) (S : List Slot) (fs : List Int) (e : Value) (r : Ending) : Prop :=
  (Form S fs ∧ ∃ p, r = .returned (.tuple #[.pointer (some ⟨p, 0, none⟩), .nilIface]) ∧ Star w w' [PoolR p S (fs.map Int.toNat) (S.countP (·.2))]) ∨ (¬ Form S fs ∧ r = .returned (.tuple #[.pointer none, e]) ∧ Same w w')

def isF (S : List Slot) (fs : List Int) : List Value := (List.range S.length).map (fun i : Nat => Value.bool (decide ((i : Int) ∈ fs)))
theorem isF_get (S : List Slot) (fs : List Int) (i : Nat) (h : i < S.length) : (isF S fs)[i]? = some (.bool (decide ((i : Int) ∈ fs))) := by simp [isF, h]
theorem isF_snoc (S : List Slot) (fs : List Int) (i : Nat) : (isF S fs).set i (.bool true) = isF S (fs ++ [(i : Int)]) := by
  unfold isF
  apply List.ext_getElem
  · simp
  · intro j h1 h2
    simp only [List.getElem_set, List.getElem_map, List.getElem_range, List.mem_append, List.mem_singleton]
    by_cases e : i = j
    · subst e; simp
    · have : ¬ (j : Int) = (i : Int) := by omega
      simp [e, this]
theorem isF_nil (S : List Slot) : isF S [] = List.replicate S.length (.bool false) := by
  apply List.ext_getElem
  · simp [isF]
  · intro j h1 h2; simp [isF]
theorem infoB : (Tryd.prog.info? 4).map (fun i => (i.zero, i.size, i.bytes)) = some (some (.bool false), 1, 1) := by kernel_rfl
theorem made_bools (n : Nat) : (madeCells (Value.bool false).cells (n * 1)).toList = List.replicate n (.bool false) := by
  apply List.ext_getElem
  · simp [madeCells]
  · intro j h1 h2; simp [madeCells, Value.cells, Nat.mod_one]

set_option maxRecDepth 100000 in
set_option maxHeartbeats 4000000 in
theorem from_any (S : List Slot) (fs : List Int) (vs vf : Value) (w : World) (hrs : Reads w vs S.length 2 (S.flatMap sl)) (hrf : Ints w vf fs) (hls : S.length ≤ 9223372036854775807) (hlf : fs.length ≤ 9223372036854775807) (e : Value) (he : w.cell? ⟨6, 0, none⟩ = some e) :
    Calls Tryd.prog 34 #[vs, vf] w fun r w' => FromR w w' S fs e r := by
  obtain ⟨b0, hb0, hz0, hz1, hz2⟩ := info_parts infoB
  obtain ⟨as0, cs0, rfl⟩ := hrs.slice
  obtain ⟨af0, cf0, rfl⟩ := hrf.slice
  have HRS := hid hrs
  have HRF := hid hrf
  have HE := hid he
  obtain ⟨n, hn⟩ : ∃ n, n = S.length := ⟨_, rfl⟩
  obtain ⟨l, hl⟩ : ∃ l, l = fs.length := ⟨_, rfl⟩
  rw [← hn] at hls
  rw [← hl] at hlf
  simp only [← hn, ← hl] at HRS HRF ⊢
  have HN := hid hn
  have HL := hid hl
  clear hrs hrf he hn hl
  go_enter Tryd.func34, Tryd.ntmps34
  by_cases h128 : 128 < n
  · have hE := HE.out
    go_wp2
    go_quiet (fail)
    go_wp2
    go_ret2
    exact .inr ⟨fun h => by have := h.len; have := HN.out; omega, rfl, (Chg.refl _).drewN _⟩
  by_cases hfl : n < l
  · have hE := HE.out
    go_wp2
    go_quiet (fail)
    go_wp2
    go_ret2
    exact .inr ⟨fun h => by have := h.flen; have := HN.out; have := HL.out; omega, rfl, (Chg.refl _).drewN _⟩
  have hn128 : n ≤ 128 := by omega
  have hl128 : l ≤ n := by omega
  have hb1 : b0.bytes * n ≤ 281474976710656 := by rw [hz2]; omega
  go_wp2_with (first
    | (go_at_call 47; refine (CloneS.clone_any _ n (S.flatMap sl) _ (by rw [HN.out]; have := HRS.out; rwa [HN.out] at this) (rows_one sl sl_one S) (by omega)).mono ?_; rintro r wa ⟨va, rfl, hfa, hsa⟩; obtain ⟨aa, ca, rfl, -⟩ := own_slice hfa.1; have XA := hid ((Star.new w).fresh hfa hsa); clear hfa hsa)
    | (go_at_call 48; refine (CloneI.clone_any _ l (fs.map (Value.int .i64)) _ (XA.out.reads (by have := HRF.out; unfold Ints at this; rwa [← HL.out] at this)) (by intro u hu; simp at hu; obtain ⟨i, _, rfl⟩ := hu; rfl) (by omega)).mono ?_; rintro r wb ⟨vb, rfl, hfb, hsb⟩; obtain ⟨ab, cb, rfl, -⟩ := own_slice hfb.1; have XB := hid ((XA.out.fresh hfb hsb).alloc #[.slice aa n ca, .slice ab l cb, .int .i64 0] 91); clear hfb hsb)
    | (at_make; refine wpList_make_full _ rfl _ _ 36 rfl 0 4 b0 (.bool false) 1 Tryd.underlying36 hb0 hz0 hz1 _ _ _ _ n rfl rfl rfl rfl hb1 (by unfold maxLen; omega) (Nat.zero_le _) ?_; intro wc hoc hgc; have XC := hid (XB.out.add (w' := wc) ((Chg.refl _).grown hgc (fun k e _ => by cases e)) (R := Row 4 1 (.slice (some ⟨_, 0, none⟩) n n) n (List.replicate n (.bool false))) ⟨by rw [made_bools] at hoc; exact hoc, rfl⟩ (fun k h => by have h' := Option.some.inj h; rw [← h']; exact Nat.le_refl _)); clear hoc hgc))
  have hrep : List.replicate n (Value.bool false) = isF S (fs.take 0) := by rw [HN.out]; exact (isF_nil S).symm
  rw [hrep] at XC
  clear hrep XA XB
  rw [World.size_alloc] at XC
  generalize wb.heap.size = p at *
  go_loopw [34] (fun iv wr => ∃ k : Nat, k ≤ l ∧ iv = .int .i64 k ∧ (∀ x ∈ fs.take k, freeOk S x) ∧ (fs.take k).Nodup ∧ Star w wr [Row 4 1 (.slice (some ⟨(p + 1), 0, none⟩) n n) n (isF S (fs.take k)), Blk p #[.slice aa n ca, .slice ab l cb, .int .i64 0] 91, Row 3 1 (.slice ab l cb) l (fs.map (Value.int .i64)), Row 58 2 (.slice aa n ca) n (S.flatMap sl)]) (fun iv _ => l - (intOf iv).toNat)
  case atStart => exact ⟨0, by omega, rfl, by simp, by simp, XC.out⟩
  case round =>
    obtain ⟨k, hk, rfl, hfree, hnd, hX⟩ := hrel
    have X := hid hX
    have FR := hid hfree
    have ND := hid hnd
    have hE := hX.keepCell HE.out
    clear hX hfree hnd XC
    by_cases hkl : k < l
    · obtain ⟨bx, off, cap, e1, hbx, hcl⟩ := HRF.out.open (by have := HL.out; omega)
      have hkx : k < fs.length := by have := HL.out; omega
      have g0 := X.out.keepCell (hcl k (.int .i64 fs[k]) (by simp [hkx]))
      have HM := hid (List.getElem_mem hkx)
      have TK := hid (List.take_succ_eq_append_getElem hkx)
      have ND2 := hid (show ∀ x, fs[k] = x → (fs.Nodup → x ∉ fs.take k) by
        rintro x rfl hn hm
        have h1 : fs.take (k + 1) = fs.take k ++ [fs[k]] := List.take_succ_eq_append_getElem hkx
        have h2 : (fs.take (k + 1)).Nodup := List.Nodup.sublist (List.take_sublist _ _) hn
        rw [h1, List.nodup_append] at h2
        exact h2.2.2 _ hm _ (by simp) rfl)
      have FX := hid (ND2.out _ rfl)
      cases e1
      clear hcl ND2
      generalize fs[k] = x at *
      by_cases hx0 : x < 0
      · go_wp2
        go_quiet (fail)
        go_wp2
        go_ret2
        exact .inr ⟨fun h => by have := (h.free x HM.out).1; omega, rfl, X.out.same.drewN _⟩
      obtain ⟨y, rfl⟩ := Int.eq_ofNat_of_zero_le (show 0 ≤ x by omega)
      by_cases hxn : n ≤ y
      · go_wp2
        go_quiet (fail)
        go_wp2
        go_ret2
        exact .inr ⟨fun h => by
          obtain ⟨_, g, hg⟩ := h.free _ HM.out
          have := (List.getElem?_eq_some_iff.1 hg).1
          have := HN.out
          simp at *
          omega, rfl, X.out.same.drewN _⟩
      have hyn : y < n := by omega
      have hyS : y < S.length := by have := HN.out; omega
      obtain ⟨⟨sg, sb⟩, hs⟩ : ∃ s, S[y]? = some s := ⟨_, List.getElem?_eq_getElem hyS⟩
      obtain ⟨bs, offs, caps, e2, hbs, hcs⟩ := HRS.out.open (by omega)
      have s1 := X.out.keepCell (hcs (y * 2 + 1) _ ((rows_get sl sl_len S y 1 _ hs (by omega)).trans rfl))
      rw [← Nat.add_assoc] at s1
      cases e2
      clear hcs
      have HS := hid hs
      clear hs
      cases sb with
      | true =>
        go_wp2
        go_quiet (fail)
        go_wp2
        go_ret2
        exact .inr ⟨fun h => by
          obtain ⟨_, g, hg⟩ := h.free _ HM.out
          simp only [Int.toNat_natCast] at hg
          have := HS.out
          rw [hg] at this
          simp at this, rfl, X.out.same.drewN _⟩
      | false =>
        have hrow := X.out.row 0 rfl
        have f0 : wr.cell? ⟨(p + 1), y, none⟩ = some (.bool (decide ((y : Int) ∈ fs.take k))) := (hrow.1.cellAt y (by omega)).trans (isF_get S _ y hyS)
        have f0f := hrow.1.frozenAt y
        have hql := (hrow.1.lt (p + 1) rfl).2
        clear hrow
        by_cases hin : (y : Int) ∈ fs.take k
        · rw [decide_eq_true hin] at f0
          go_wp2
          go_quiet (fail)
          go_wp2
          go_ret2
          exact .inr ⟨fun h => FX.out h.nodup hin, rfl, X.out.same.drewN _⟩
        · rw [decide_eq_false hin] at f0
          have HI := hid hin
          clear hin
          go_wp2
          go_roundw
          case rel =>
            have h := X.out.store 0 rfl y (.bool true)
            have e3 : (isF S (fs.take k)).set y (.bool true) = isF S (fs.take (k + 1)) := by rw [isF_snoc, TK.out]
            rw [e3] at h
            refine ⟨k + 1, by omega, by go_num, ?_, ?_, h⟩
            · intro z hz
              rw [TK.out] at hz
              rcases List.mem_append.1 hz with hz | hz
              · exact FR.out z hz
              · simp at hz; subst hz
                exact ⟨by omega, sg, by simpa using HS.out⟩
            · rw [TK.out, List.nodup_append]
              exact ⟨ND.out, by simp, fun z hz z' hz' => by simp at hz'; subst hz'; exact fun e => HI.out (e ▸ hz)⟩
          case measure => simp [intOf]; omega
    · have htk : fs.take k = fs := List.take_of_length_le (by have := HL.out; omega)
      have FR' := FR.out
      have ND' := ND.out
      have X' := X.out
      rw [htk] at FR' ND' X'
      have FA := hid FR'
      have NA := hid ND'
      have XD := hid X'
      have X0 : Hid (Star w wr [Row 4 1 (.slice (some ⟨(p + 1), 0, none⟩) n n) n (isF S fs), Blk p #[.slice aa n ca, .slice ab l cb, .int .i64 ((S.take 0).countP (·.2))] 91, Row 3 1 (.slice ab l cb) l (fs.map (Value.int .i64)), Row 58 2 (.slice aa n ca) n (S.flatMap sl)]) := XD
      clear FR' ND' X' htk FR ND X hE XD
      go_wp2
      go_loopw [66] (fun iv wx => ∃ j : Nat, j ≤ n ∧ iv = .int .i64 j ∧ (∀ (i : Nat) (s : Slot), i < j → S[i]? = some s → slotOk S fs i s) ∧ Star w wx [Row 4 1 (.slice (some ⟨(p + 1), 0, none⟩) n n) n (isF S fs), Blk p #[.slice aa n ca, .slice ab l cb, .int .i64 ((S.take j).countP (·.2))] 91, Row 3 1 (.slice ab l cb) l (fs.map (Value.int .i64)), Row 58 2 (.slice aa n ca) n (S.flatMap sl)]) (fun iv _ => n - (intOf iv).toNat)
      case atStart => exact ⟨0, by omega, rfl, fun i s h => by omega, X0.out⟩
      case round =>
        obtain ⟨j, hj, rfl, hso, hX⟩ := hrel
        have X := hid hX
        have SO := hid hso
        have hE := hX.keepCell HE.out
        have hEl := World.block_lt_of_cell? _ _ hE
        clear hX hso X0
        by_cases hjn : j < n
        · have hjS : j < S.length := by have := HN.out; omega
          obtain ⟨⟨sg, sb⟩, hs⟩ : ∃ s, S[j]? = some s := ⟨_, List.getElem?_eq_getElem hjS⟩
          obtain ⟨bs, offs, caps, e2, hbs, hcs⟩ := HRS.out.open (by omega)
          have s0 := X.out.keepCell (hcs (j * 2 + 0) _ ((rows_get sl sl_len S j 0 _ hs (by omega)).trans rfl))
          have s1 := X.out.keepCell (hcs (j * 2 + 1) _ ((rows_get sl sl_len S j 1 _ hs (by omega)).trans rfl))
          rw [Nat.add_zero] at s0
          rw [← Nat.add_assoc] at s1
          have s0' : wr.cell? ⟨bs, offs + j * 2, none⟩ = some (.int .i64 sg) := s0
          have s1' : wr.cell? ⟨bs, offs + j * 2 + 1, none⟩ = some (.bool sb) := s1
          cases e2
          have HS := hid hs
          have hrow := X.out.row 0 rfl
          have f0 : wr.cell? ⟨(p + 1), j, none⟩ = some (.bool (decide ((j : Int) ∈ fs))) := (hrow.1.cellAt j (by omega)).trans (isF_get S _ j hjS)
          have hql := (hrow.1.lt (p + 1) rfl).2
          have hbp := X.out.blk 1 rfl
          have p2 : wr.cell? ⟨p, 2, none⟩ = some (.int .i64 ((S.take j).countP (·.2))) := cell_of hbp.1 2
          have p2f := free_of hbp.1 2
          have hpl := lt_of hbp.1
          have TC := hid (show ((S.take (j + 1)).countP (·.2) : Int) = (S.take j).countP (·.2) + if sb then 1 else 0 by
            obtain ⟨hk, e⟩ := List.getElem?_eq_some_iff.1 hs
            rw [List.take_succ_eq_append_getElem hk, e, List.countP_append]
            cases sb <;> simp)
          have hcb : (S.take j).countP (·.2) ≤ 128 := by
            have h1 := List.countP_le_length (p := fun s : Slot => s.2) (l := S.take j)
            rw [List.length_take] at h1
            omega
          clear hcs s0 s1 hs hrow hbp
          generalize (S.take j).countP (·.2) = cj at *
          by_cases hg1 : sg < 1
          · go_wp2
            go_quiet (fail)
            go_wp2
            go_ret2
            exact .inr ⟨fun h => by have := (h.slot j _ HS.out).1; simp at this; omega, rfl, (X.out.same.alloc _).drewN _⟩
          by_cases hg2 : 1073741824 < sg
          · go_wp2
            go_quiet (fail)
            go_wp2
            go_ret2
            exact .inr ⟨fun h => by have := (h.slot j _ HS.out).2.1; simp at this; omega, rfl, (X.out.same.alloc _).drewN _⟩
          cases sb with
          | true =>
            go_wp2
            go_roundw
            case rel =>
              have h := (X.out.put 1 rfl 2 (.int .i64 (cj + 1))).go (w' := (wr.setCell ⟨p, 2, none⟩ (.int .i64 (cj + 1))).alloc (.cells #[.int .i64 sg, .bool true] 58)) ((Chg.refl _).alloc _)
              have e3 := TC.out
              simp only [if_true] at e3
              refine ⟨j + 1, by omega, by go_num, fun i s hi hs => ?_, by rw [e3]; exact h⟩
              by_cases e : i < j
              · exact SO.out i s e hs
              · have : i = j := by omega
                subst this
                rw [HS.out] at hs
                simp at hs; subst hs
                exact ⟨by simp; omega, by simp; omega, fun h => by cases h⟩
            case measure => simp [intOf]; omega
          | false =>
            by_cases hin : (j : Int) ∈ fs
            · rw [decide_eq_true hin] at f0
              have HI := hid hin
              clear hin
              go_wp2
              go_roundw
              case rel =>
                have h := (X.out.go (w' := wr.alloc (.cells #[.int .i64 sg, .bool false] 58)) ((Chg.refl _).alloc _))
                have e3 := TC.out
                simp only [Bool.false_eq_true, if_false, Int.add_zero] at e3
                refine ⟨j + 1, by omega, by go_num, fun i s hi hs => ?_, by rw [e3]; exact h⟩
                by_cases e : i < j
                · exact SO.out i s e hs
                · have : i = j := by omega
                  subst this
                  rw [HS.out] at hs
                  simp at hs; subst hs
                  exact ⟨by simp; omega, by simp; omega, fun _ _ => HI.out⟩
              case measure => simp [intOf]; omega
            · rw [decide_eq_false hin] at f0
              have HI := hid hin
              clear hin
              by_cases hg3 : sg < 1073741824
              · go_wp2
                go_quiet (fail)
                go_wp2
                go_ret2
                exact .inr ⟨fun h => HI.out ((h.slot j _ HS.out).2.2 rfl hg3), rfl, (X.out.same.alloc _).drewN _⟩
              · go_wp2
                go_roundw
                case rel =>
                  have h := (X.out.go (w' := wr.alloc (.cells #[.int .i64 sg, .bool false] 58)) ((Chg.refl _).alloc _))
                  have e3 := TC.out
                  simp only [Bool.false_eq_true, if_false, Int.add_zero] at e3
                  refine ⟨j + 1, by omega, by go_num, fun i s hi hs => ?_, by rw [e3]; exact h⟩
                  by_cases e : i < j
                  · exact SO.out i s e hs
                  · have : i = j := by omega
                    subst this
                    rw [HS.out] at hs
                    simp at hs; subst hs
                    exact ⟨by simp; omega, by simp; omega, fun _ hl => by simp at hl; omega⟩
                case measure => simp [intOf]; omega
        · have hjn' : j = n := by omega
          subst hjn'
          go_wp2
          go_ret2
          have hform : Form S fs := ⟨by have := HN.out; omega, NA.out, FA.out, fun i s hs => SO.out i s (by have := (List.getElem?_eq_some_iff.1 hs).1; have := HN.out; omega) hs⟩
          refine .inl ⟨hform, p, rfl, ?_⟩
          have h := X.out.drop
          have e4 : S.take j = S := List.take_of_length_le (by have := HN.out; omega)
          rw [e4] at h
          have e5 : fs.map (Value.int .i64) = (fs.map Int.toNat).map nv := (castL_toNat (fun x hx => (hform.free x hx).1)).symm
          rw [e5] at h
          have e6 : l = (fs.map Int.toNat).length := by rw [List.length_map]; exact HL.out
          have e7 := HN.out
          generalize hl' : fs.map Int.toNat = f' at *
          subst e6 e7
          exact PoolR.close ((h.pull 2 rfl).swap)
end Go.Proofs.YtminjgfobcnmhaaDoor.Pool
