/-
  Package fields: Read (a cell of an open field); Ground.
-/
import Derived.Test.YtilobedihjkpjaaDoorFsNew
import Derived.Test.YtilobedihjkpjaaDoorStepSet
import Derived.Test.YtilobedihjkpjaaDoorAlive20
namespace Go.Proofs.YtilobedihjkpjaaDoor.Fs
open Go Go.RowKit Go.Maps Go.Proofs.YtilobedihjkpjaaDoor.Err Go.Proofs.YtilobedihjkpjaaDoor.Steps Go.Proofs.YtilobedihjkpjaaDoor.Ord Go.Proofs.YtilobedihjkpjaaDoor.Route Go.Proofs.YtilobedihjkpjaaDoor.Fld
/-- A ground of which some tiles are freed or blocked, and whether one of them changed. -/
def turn (b : Bool) (p : Gr × Bool) (t : Int) : Gr × Bool := (p.1.set t.toNat b, p.2 || (p.1.free t.toNat != b))
def turns (G : Gr) (b : Bool) (l : List Int) : Gr × Bool := l.foldl (turn b) (G, false)
theorem turns_snoc (G : Gr) (b : Bool) (l : List Int) (t : Int) : turns G b (l ++ [t]) = turn b (turns G b l) t := by simp [turns, List.foldl_append]
theorem turnsFrom_len (b : Bool) : ∀ (l : List Int) (p : Gr × Bool), (l.foldl (turn b) p).1.fs.length = p.1.fs.length
  | [], _ => rfl
  | t :: l, p => by rw [List.foldl_cons, turnsFrom_len b l]; simp [turn, Gr.set]
theorem turns_len (G : Gr) (b : Bool) (l : List Int) : (turns G b l).1.fs.length = G.fs.length := turnsFrom_len b l (G, false)
theorem turnsFrom_ok (b : Bool) : ∀ (l : List Int) (p : Gr × Bool), p.1.Ok → (l.foldl (turn b) p).1.Ok
  | [], _, h => h
  | t :: l, p, h => by rw [List.foldl_cons]; exact turnsFrom_ok b l _ (Gr.set_ok h _ _)
theorem turns_ok {G : Gr} (h : G.Ok) (b : Bool) (l : List Int) : (turns G b l).1.Ok := turnsFrom_ok b l (G, false) h
theorem set_id {G : Gr} {t : Nat} {b : Bool} (ht : t < G.fs.length) (h : G.free t = b) : G.set t b = G := by
  unfold Gr.free at h
  unfold Gr.set
  have : G.fs.set t b = G.fs := by
    apply List.ext_getElem
    · simp
    · intro i h1 h2
      rw [List.getElem_set]
      by_cases e : t = i
      · subst e
        rw [if_pos rfl, ← h]
        simp [List.getD_eq_getElem?_getD, ht]
      · rw [if_neg e]
  rw [this]
theorem turnsFrom_true (b : Bool) : ∀ (l : List Int) (p : Gr × Bool), p.2 = true → (l.foldl (turn b) p).2 = true
  | [], _, h => h
  | t :: l, p, h => by rw [List.foldl_cons]; exact turnsFrom_true b l _ (by simp [turn, h])
theorem turnsFrom_still (b : Bool) : ∀ (l : List Int) (p : Gr × Bool), (∀ t ∈ l, 0 ≤ t ∧ t < p.1.fs.length) → (l.foldl (turn b) p).2 = false → (l.foldl (turn b) p).1 = p.1
  | [], _, _, _ => rfl
  | t :: l, p, hin, h => by
    rw [List.foldl_cons] at h ⊢
    have h2 : (turn b p t).2 = false := by
      cases e : (turn b p t).2 with
      | false => rfl
      | true => rw [turnsFrom_true b l _ e] at h; cases h
    have h3 : p.1.free t.toNat = b := by
      simp only [turn, Bool.or_eq_false_iff] at h2
      simpa using h2.2
    have h4 := hin t List.mem_cons_self
    have e : (turn b p t).1 = p.1 := set_id (by omega) h3
    rw [turnsFrom_still b l _ (fun y hy => by rw [e]; exact hin y (List.mem_cons_of_mem _ hy)) h, e]
/-- Where none changed the ground is the same. -/
theorem turns_still {G : Gr} {b : Bool} {l : List Int} (hin : ∀ t ∈ l, 0 ≤ t ∧ t < G.fs.length) (h : (turns G b l).2 = false) : (turns G b l).1 = G := turnsFrom_still b l (G, false) hin h
/-- The version behind it. -/
def verOf (G : Gr) (b : Bool) (l : List Int) (V : Int) : Int := if (turns G b l).2 then V + 1 else V
theorem SOk.turn {G : Gr} {V : Int} {st : Nat → Option Slot} (h : SOk G V st) (b : Bool) (l : List Int) (hin : ∀ t ∈ l, 0 ≤ t ∧ t < G.fs.length) : SOk (turns G b l).1 (verOf G b l V) st := by
  refine ⟨turns_ok h.ok b l, ?_, h.few, h.fok, fun k x hx hv => ?_, fun k x hx => ?_, fun k x hx => by rw [turns_len]; exact h.len k x hx⟩
  · have := h.lo; unfold verOf; split <;> omega
  · unfold verOf at hv
    cases e : (turns G b l).2 with
    | false =>
      rw [turns_still hin e]
      rw [e] at hv
      exact h.now k x hx hv
    | true =>
      rw [e] at hv
      have := h.old k x hx
      simp only [if_true] at hv
      omega
  · have := h.old k x hx
    unfold verOf; split <;> omega
section
variable {w0 w : World} {L : List Res} {s gp mb : Nat} {G : Gr} {V : Int} {st : Nat → Option Slot} {R : Res}
theorem gndFirst {A B : Res} {M : List Res} (X : Star w0 w (A :: B :: gndR 92 gp G :: M)) : Star w0 w (gndR 92 gp G :: A :: B :: M) := X.pull 2 rfl
theorem gndBack {A B : Res} {M : List Res} (X : Star w0 w (gndR 92 gp G :: A :: B :: M)) : Star w0 w (A :: B :: gndR 92 gp G :: M) := (X.pull 2 rfl).pull 2 rfl
set_option maxRecDepth 100000 in
set_option maxHeartbeats 8000000 in
theorem change_any (X : Star w0 w (R :: setL s gp mb G V st L)) (hV : 0 ≤ V ∧ V < 4611686018427387904) (b : Bool) (v : Value) (ts : List Int) (hr : ∀ {w' : World} {M : List Res}, Star w0 w' (R :: M) → Ints w' v ts) (hb : ts.length ≤ 9223372036854775807) (e : Value) (he : w0.cell? ⟨1, 0, none⟩ = some e) :
    Calls Tryd.prog 21 #[.pointer (some ⟨s, 0, none⟩), .bool b, v] w fun r w' =>
      ((∀ t ∈ ts, 0 ≤ t ∧ t < (G.fs.length : Int)) ∧ r = .returned .nilIface ∧ Star w0 w' (R :: setL s gp mb (turns G b ts).1 (verOf G b ts V) st L)) ∨
      ((∃ t ∈ ts, ¬ (0 ≤ t ∧ t < (G.fs.length : Int))) ∧ r = .returned e ∧ Star w0 w' (R :: setL s gp mb G V st L)) := by
  obtain ⟨av, cv, rfl⟩ := (hr X).slice
  have Y := hid X
  have HE := hid he
  obtain ⟨l, hl⟩ : ∃ l, l = ts.length := ⟨_, rfl⟩
  have HN := hid hl
  rw [← hl] at hb ⊢
  have HC : Hid (∀ {w' : World} {M : List Res}, Star w0 w' (R :: M) → ∀ (j : Nat) (t : Int), ts[j]? = some t → ∃ b off cap, Value.slice av l cv = .slice (some ⟨b, off, none⟩) l cap ∧ w'.cell? ⟨b, off + j, none⟩ = some (.int .i64 t)) := hid (fun XX j t ht => by
    obtain ⟨hj, e2⟩ := (List.getElem?_eq_some_iff.1 ht)
    obtain ⟨b, off, cap, e, _, hc⟩ := (hr XX).cells (by omega)
    rw [← hl] at e
    exact ⟨b, off, cap, e, by rw [← e2]; exact hc j hj⟩)
  have hbk := (X.blk 1 rfl).1
  have d0 := cell_of hbk 0
  have dl := lt_of hbk
  simp only [List.getElem?_toArray, List.getElem?_cons_zero, List.getElem?_cons_succ] at d0
  obtain ⟨pg, pc, hG, -⟩ := gnd_at X 2 rfl
  have HG := hid hG
  have S := hid X.same
  clear X he hr hl hbk hG
  go_enter Tryd.func21, Tryd.ntmps21
  go_wp2_with fail
  go_loop [15] (fun iv => ∃ j : Nat, j ≤ l ∧ iv = .int .i64 j ∧ ∀ t ∈ ts.take j, 0 ≤ t ∧ t < (G.fs.length : Int)) (fun iv => l - (intOf iv).toNat)
  case atStart => exact ⟨0, by omega, rfl, by simp⟩
  case round =>
    obtain ⟨j, hj, rfl, hall⟩ := hrel
    have HA := hid hall
    clear hall
    by_cases hjl : j < l
    · obtain ⟨t, ht⟩ : ∃ t, ts[j]? = some t := ⟨_, List.getElem?_eq_getElem (by have := HN.out; omega)⟩
      obtain ⟨b1, off, cap, e1, hc⟩ := HC.out Y.out j t ht
      cases e1
      have hc1 := hc
      have hbl := World.block_lt_of_cell? _ _ hc1
      have HT := hid ht
      have hE := S.out.keep HE.out
      have hEl := World.block_lt_of_cell? _ _ hE
      clear hc ht
      by_cases h0 : t < 0
      · go_wp2_with fail
        go_ret
        exact .inr ⟨⟨t, List.mem_of_getElem? HT.out, fun h => by omega⟩, rfl, Y.out⟩
      · by_cases h1 : (G.fs.length : Int) ≤ t
        · go_wp2_with fail
          refine (len_any HG.out).mono ?_
          rintro r w' ⟨rfl, rfl⟩
          go_wp2_with fail
          go_ret
          exact .inr ⟨⟨t, List.mem_of_getElem? HT.out, fun h => by omega⟩, rfl, Y.out⟩
        · clear hE hEl
          go_wp2_with fail
          refine (len_any HG.out).mono ?_
          rintro r w' ⟨rfl, rfl⟩
          go_wp2
          go_round
          case rel =>
            refine ⟨j + 1, by omega, by go_num, fun y hy => ?_⟩
            obtain ⟨h2, h3⟩ := List.getElem?_eq_some_iff.1 HT.out
            rw [List.take_succ_eq_append_getElem h2, h3, List.mem_append] at hy
            rcases hy with hy | hy
            · exact HA.out y hy
            · simp only [List.mem_singleton] at hy; subst hy; omega
          case measure => simp [intOf]; omega
    · have HALL := hid (show ∀ t ∈ ts, 0 ≤ t ∧ t < (G.fs.length : Int) from fun t ht => HA.out t (by rw [List.take_of_length_le (by have := HN.out; omega)]; exact ht))
      clear HA d0 dl HG
      go_wp2_with fail
      go_loopw [9, 34] (fun cv iv wr => ∃ j : Nat, j ≤ l ∧ iv = .int .i64 j ∧ cv = .bool (turns G b (ts.take j)).2 ∧ Star w0 wr (R :: setL s gp mb (turns G b (ts.take j)).1 V st L)) (fun _ iv _ => l - (intOf iv).toNat)
      case atStart => exact ⟨0, by omega, rfl, rfl, Y.out⟩
      case round =>
        obtain ⟨j, hj, rfl, rfl, hX⟩ := hrel
        have X := hid hX
        have hbk := (hX.blk 1 rfl).1
        have d0 := cell_of hbk 0
        have d2 := cell_of hbk 2
        have df := free_of hbk 2
        have dl := lt_of hbk
        simp only [List.getElem?_toArray, List.getElem?_cons_zero, List.getElem?_cons_succ] at d0 d2
        obtain ⟨pg2, pc2, hG, -⟩ := gnd_at hX 2 rfl
        have HG := hid hG
        clear hX hbk hG
        by_cases hjl : j < l
        · obtain ⟨t, ht⟩ : ∃ t, ts[j]? = some t := ⟨_, List.getElem?_eq_getElem (by have := HN.out; omega)⟩
          obtain ⟨b1, off, cap, e1, hc⟩ := HC.out X.out j t ht
          cases e1
          have hc1 := hc
          have hbl := World.block_lt_of_cell? _ _ hc1
          obtain ⟨ht0, htl⟩ := HALL.out t (List.mem_of_getElem? ht)
          obtain ⟨k, rfl⟩ := Int.eq_ofNat_of_zero_le ht0
          simp only [Int.ofNat_eq_natCast] at *
          have hsn : turns G b (ts.take (j + 1)) = ((turns G b (ts.take j)).1.set k b, (turns G b (ts.take j)).2 || ((turns G b (ts.take j)).1.free k != b)) := by
            obtain ⟨h2, h3⟩ := List.getElem?_eq_some_iff.1 ht
            rw [List.take_succ_eq_append_getElem h2, h3, turns_snoc]
            rfl
          have hlk : k < (turns G b (ts.take j)).1.fs.length := by rw [turns_len]; omega
          have HSN := hid hsn
          have HLK := hid hlk
          clear hc ht hsn hlk ht0 htl
          obtain ⟨p, hp⟩ : ∃ p, p = turns G b (ts.take j) := ⟨_, rfl⟩
          rw [← hp] at HSN HLK HG X ⊢
          clear hp
          obtain ⟨GG, ch⟩ := p
          dsimp only at HSN HLK HG X ⊢
          have XG := hid (gndFirst X.out)
          cases ch with
          | true =>
            clear X HG
            go_wp2_with fail
            refine (set_in XG.out k b HLK.out).mono ?_
            rintro r w2 ⟨rfl, hX2⟩
            have X2 := hid (gndBack hX2)
            clear hX2 XG
            go_wp2
            go_roundw
            case rel => exact ⟨j + 1, by omega, by go_num, by rw [HSN.out]; rfl, by rw [HSN.out]; exact X2.out⟩
            case measure => simp [intOf]; omega
          | false =>
            clear X
            go_wp2_with fail
            refine (free_any HG.out _).mono ?_
            rintro r w' ⟨rfl, rfl⟩
            rw [Gr.freeI_nat]
            obtain ⟨fr, hfr⟩ : ∃ fr, fr = GG.free k := ⟨_, rfl⟩
            rw [← hfr] at HSN ⊢
            clear hfr HG
            go_wp2_with fail
            refine (set_in XG.out k b HLK.out).mono ?_
            rintro r w2 ⟨rfl, hX2⟩
            have X2 := hid (gndBack hX2)
            clear hX2 XG
            go_wp2
            go_roundw
            case rel => exact ⟨j + 1, by omega, by go_num, by rw [HSN.out]; cases fr <;> cases b <;> rfl, by rw [HSN.out]; exact X2.out⟩
            case measure => simp [intOf]; omega
        · have HX := X.out
          rw [List.take_of_length_le (by have := HN.out; omega)] at HX
          have hv : verOf G b ts V = if (turns G b ts).2 then V + 1 else V := rfl
          have X9 := hid HX
          have HVV := hid hv
          rw [List.take_of_length_le (by have := HN.out; omega)]
          clear X HG HX hv HC
          cases hch : (turns G b ts).2 with
          | true =>
            rw [hch] at HVV
            have X5 := hid (X9.out.put 1 rfl 2 (.int .i64 (V + 1)))
            clear X9
            go_wp2
            go_ret
            refine .inl ⟨HALL.out, rfl, ?_⟩
            rw [HVV.out]
            exact X5.out
          | false =>
            rw [hch] at HVV
            go_wp2
            go_ret
            refine .inl ⟨HALL.out, rfl, ?_⟩
            rw [HVV.out]
            exact X9.out
end
end Go.Proofs.YtilobedihjkpjaaDoor.Fs
namespace Go.Proofs.YtilobedihjkpjaaDoor.Fs
open Go Go.RowKit Go.Maps Go.Proofs.YtilobedihjkpjaaDoor.Err Go.Proofs.YtilobedihjkpjaaDoor.Steps Go.Proofs.YtilobedihjkpjaaDoor.Ord Go.Proofs.YtilobedihjkpjaaDoor.Route Go.Proofs.YtilobedihjkpjaaDoor.Fld
theorem rise_eq {a b : List Int} (ha : a.Pairwise (· < ·)) (hb : b.Pairwise (· < ·)) (h : ∀ x, x ∈ a ↔ x ∈ b) : a = b := by
  have hp : a.Perm b := (List.perm_ext_iff_of_nodup (ha.imp (fun h e => by omega)) (hb.imp (fun h e => by omega))).2 h
  exact List.Perm.eq_of_pairwise (le := fun x y : Int => x < y) (fun x y _ _ h1 h2 => by omega) ha hb hp
/-- The goals of each open field are in order. -/
def Rises (st : Nat → Option Slot) : Prop := ∀ k x, st k = some x → x.gl.Pairwise (· < ·)
theorem Rises.put {st : Nat → Option Slot} (h : Rises st) (k : Nat) {x : Slot} (hx : x.gl.Pairwise (· < ·)) : Rises (upd st k (some x)) := by
  intro i y hy
  by_cases e : i = k
  · subst e
    rw [upd_same] at hy
    cases hy
    exact hx
  · rw [upd_other _ _ e] at hy
    exact h i y hy
theorem Rises.cut {st : Nat → Option Slot} (h : Rises st) (k : Nat) : Rises (upd st k none) := by
  intro i y hy
  by_cases e : i = k
  · subst e
    rw [upd_same] at hy
    cases hy
  · rw [upd_other _ _ e] at hy
    exact h i y hy
theorem upd_id {st : Nat → Option Slot} {k : Nat} {o : Option Slot} (h : st k = o) : upd st k o = st := by
  funext i
  by_cases e : i = k
  · subst e; rw [upd_same, h]
  · rw [upd_other _ _ e]
theorem mapF_keep {st : Nat → Option Slot} {k : Nat} {o : Option Slot} (h : (st k).map Slot.a = o.map Slot.a) : mapF (upd st k o) = mapF st := by
  funext kl
  rw [← mapF_upd]
  by_cases e : kl = .int .i64 (k : Int)
  · subst e; rw [updO_same, mapF_nat, h]
  · rw [updO_other _ _ e]
theorem cnt_keep {st : Nat → Option Slot} {k : Nat} (hk : k < 4) {x y : Slot} (h : st k = some x) : cnt (upd st k (some y)) = cnt st := by
  rw [cnt_put _ _ hk, mapF_nat, h]
  rfl
section
variable {w0 w : World} {L : List Res} {s gp mb : Nat} {G : Gr} {V : Int} {st : Nat → Option Slot}
set_option maxRecDepth 100000 in
set_option maxHeartbeats 4000000 in
theorem fresh_no (X : Star w0 w (setL s gp mb G V st L)) (n : Int) (h1 : -9223372036854775808 ≤ n) (h2 : n ≤ 9223372036854775807) (hn : mapF st (.int .i64 n) = none) (e : Value) (he : w0.cell? ⟨3, 0, none⟩ = some e) :
    Calls Tryd.prog 76 #[.pointer (some ⟨s, 0, none⟩), .int .i64 n] w fun r w' => r = .returned (.tuple #[.pointer none, e]) ∧ Star w0 w' (setL s gp mb G V st L) := by
  have hb := (X.blk 0 rfl).1
  have d1 := cell_of hb 1
  have dl := lt_of hb
  simp only [List.getElem?_toArray, List.getElem?_cons_zero, List.getElem?_cons_succ] at d1
  have M := hid (X.map 2 rfl).1
  have KY := hid (keyI n h1 h2)
  have HN := hid hn
  have hE := X.same.keep he
  have hEl := World.block_lt_of_cell? _ _ hE
  have X0 := hid X
  clear X hb he hn
  go_enter Tryd.func76, Tryd.ntmps76
  go_wp2_with (at_lookup; refine wpList_lookOk rfl _ _ rfl keyed Tryd.underlying97 (.pointer none) zeroP rfl M.out (.int .i64 n) (.int .i64 n) rfl KY.out (.pointer none) false (by rw [HN.out]; rfl) (by rw [HN.out]; rfl) ?_)
  go_quiet (fail)
  go_wp2
  go_ret2
  exact ⟨rfl, X0.out.go ((Chg.refl _).drewN _)⟩
set_option maxRecDepth 100000 in
set_option maxHeartbeats 8000000 in
theorem fresh_yes (X : Star w0 w (setL s gp mb G V st L)) (ok : SOk G V st) (hR : Rises st) (k : Nat) (x : Slot) (hx : st k = some x) :
    Calls Tryd.prog 76 #[.pointer (some ⟨s, 0, none⟩), .int .i64 k] w fun r w' =>
      ∃ x' : Slot, x'.a = x.a ∧ x'.G = G ∧ x'.gl = x.gl ∧ x'.v = V ∧ FOk G x.gl x'.c ∧ r = .returned (.tuple #[.pointer (some ⟨x'.f, 0, none⟩), .nilIface]) ∧ Star w0 w' (setL s gp mb G V (upd st k (some x')) L) := by
  have hk := ok.few k x hx
  obtain ⟨a, f, g, gc, gl, G', c, v⟩ := x
  have OK := hid ok
  have HX := hid hx
  have HR := hid (hR k _ hx)
  have hF := ok.fok k _ hx
  have hlen := ok.len k _ hx
  dsimp only at hF hlen HR ⊢
  have HF := hid hF
  have HLEN := hid hlen
  have Y := hid (slotOpen (x := ⟨a, f, g, gc, gl, G', c, v⟩) (hx ▸ slotFirst hk X))
  have HN := hid (show mapF st (.int .i64 (k : Int)) = some a by rw [mapF_nat, hx]; rfl)
  have KY := hid (keyI k (by omega) (by omega))
  have X0 := hid X
  have hb := (Y.out.blk 3 rfl).1
  have d0 := cell_of hb 0
  have d1 := cell_of hb 1
  have d2 := cell_of hb 2
  have dl := lt_of hb
  have ha := (Y.out.blk 0 rfl).1
  have a0 := cell_of ha 0
  have a1 := cell_of ha 1
  have a2 := cell_of ha 2
  have al := lt_of ha
  simp only [List.getElem?_toArray, List.getElem?_cons_zero, List.getElem?_cons_succ] at d0 d1 d2 a0 a1 a2
  have M := hid (X.map 2 rfl).1
  have HK := hid hk
  clear X hb ha hx ok hR hF hlen hk
  go_enter Tryd.func76, Tryd.ntmps76
  go_wp2_with (at_lookup; refine wpList_lookOk rfl _ _ rfl keyed Tryd.underlying97 (.pointer none) zeroP rfl M.out (.int .i64 k) (.int .i64 k) rfl KY.out (.pointer (some ⟨a, 0, none⟩)) true (by rw [HN.out]; rfl) (by rw [HN.out]; rfl) ?_)
  by_cases hv : v = V
  · subst hv
    go_quiet (fail)
    go_wp2
    go_ret2
    refine ⟨⟨a, f, g, gc, gl, G', c, v⟩, rfl, OK.out.now k _ HX.out rfl, rfl, rfl, ?_, rfl, ?_⟩
    · have h := OK.out.now k _ HX.out rfl
      dsimp only at h
      exact h ▸ HF.out
    · rw [upd_id HX.out]
      exact X0.out.go ((Chg.refl _).drewN _)
  · have hv1 : (v != V) = true := by simpa using hv
    have HV := hid hv
    clear hv
    go_quiet (fail)
    go_wp2
    obtain ⟨pg, pc, hG, -⟩ := gnd_at Y.out 4 rfl
    have HG := hid hG
    have HGL := hid (Reads.of_own (Y.out.row 2 rfl).1)
    have HIN := hid (show ∀ y ∈ gl, 0 ≤ y ∧ y < (G.fs.length : Int) from fun y hy => by rw [← HLEN.out]; exact HF.out.ins y hy)
    obtain ⟨c2, hc2⟩ := Least.exists G (goalsOf gl)
    have HC := hid hc2
    clear hG hc2
    go_region_with (go_at_call 11; refine (new_ok (HG.out.same (by repeat (first | exact Chg.refl _ | exact (Chg.refl _).drewN _ | refine Chg.drew ?_))) gl _ (HGL.out.same (by repeat (first | exact Chg.refl _ | exact (Chg.refl _).drewN _ | refine Chg.drew ?_))) HF.out.pos HF.out.le HIN.out).mono ?_; rintro r w5 ⟨f2, gl2, ho, rfl, hX5⟩; obtain rfl : gl = gl2 := rise_eq HR.out ho.rise (fun y => (ho.mem y).symm); have X5 := hid ((Y.out.go (by repeat (first | exact Chg.refl _ | exact (Chg.refl _).drewN _ | refine Chg.drew ?_))).lift (hX5 c2)); clear hX5 ho)
    all_goals
      have hb := (X5.out.blk 4 rfl).1
      have b2 := cell_of hb 2
      have bl := lt_of hb
      have ha := (X5.out.blk 1 rfl).1
      have e0 := cell_of ha 0
      have e1 := cell_of ha 1
      have e2 := cell_of ha 2
      have el := lt_of ha
      have ef0 := free_of ha 0
      have ef2 := free_of ha 2
      simp only [List.getElem?_toArray, List.getElem?_cons_zero, List.getElem?_cons_succ] at b2 e0 e1 e2
      clear hb ha d0 d1 d2 dl a0 a1 a2 al M
      have X6 := hid ((X5.out.put 1 rfl 0 (.pointer (some ⟨f2, 0, none⟩))).put 1 rfl 2 (.int .i64 V))
      go_wp2
      go_ret2
      refine ⟨⟨a, f2, g, gc, gl, G, c2, V⟩, rfl, rfl, rfl, rfl, ⟨OK.out.ok, HC.out, HF.out.pos, HF.out.le, HIN.out⟩, rfl, ?_⟩
      have h0 : Star w0 _ (fldR f2 G gl c2 :: Blk a (opC f2 g gl.length gc V) 103 :: fldR f G' gl c :: numR g gl.length gc gl :: setB s gp mb V :: gndR 92 gp G :: mapB mb st :: ((slots st).eraseIdx k ++ L)) := X6.out
      have h3 := slotShut (x := ⟨a, f2, g, gc, gl, G, c2, V⟩) ((((h0.pull 2 rfl).drop).pull 1 rfl))
      have e : mapB mb st = mapB mb (upd st k (some ⟨a, f2, g, gc, gl, G, c2, V⟩)) := by
        unfold mapB
        rw [mapF_keep (by rw [HX.out]; rfl), cnt_keep HK.out HX.out]
      rw [e] at h3
      exact slotBack HK.out h3
end
end Go.Proofs.YtilobedihjkpjaaDoor.Fs
namespace Go.Proofs.YtilobedihjkpjaaDoor.Fs
open Go Go.RowKit Go.Maps Go.Proofs.YtilobedihjkpjaaDoor.Err Go.Proofs.YtilobedihjkpjaaDoor.Steps Go.Proofs.YtilobedihjkpjaaDoor.Ord Go.Proofs.YtilobedihjkpjaaDoor.Route Go.Proofs.YtilobedihjkpjaaDoor.Fld
section
variable {w0 w : World} {L : List Res} {s gp mb : Nat} {G : Gr} {V : Int} {st : Nat → Option Slot}
/-- An open field's field comes first, and goes back. -/
theorem fieldFirst {k : Nat} (hk : k < 4) {x : Slot} (hx : st k = some x) (X : Star w0 w (setL s gp mb G V st L)) :
    Star w0 w (fldR x.f x.G x.gl x.c :: Blk x.a (opC x.f x.g x.gl.length x.gc x.v) 103 :: numR x.g x.gl.length x.gc x.gl :: setB s gp mb V :: gndR 92 gp G :: mapB mb st :: ((slots st).eraseIdx k ++ L)) :=
  (slotOpen (x := x) (hx ▸ slotFirst hk X)).pull 1 rfl
theorem fieldBack {k : Nat} (hk : k < 4) {x : Slot} (hx : st k = some x)
    (X : Star w0 w (fldR x.f x.G x.gl x.c :: Blk x.a (opC x.f x.g x.gl.length x.gc x.v) 103 :: numR x.g x.gl.length x.gc x.gl :: setB s gp mb V :: gndR 92 gp G :: mapB mb st :: ((slots st).eraseIdx k ++ L))) : Star w0 w (setL s gp mb G V st L) := by
  have h := slotBack hk (slotShut (x := x) (X.pull 1 rfl))
  rw [upd_id hx] at h
  exact h
theorem fieldBackR {R : Res} {k : Nat} (hk : k < 4) {x : Slot} (hx : st k = some x)
    (X : Star w0 w (R :: fldR x.f x.G x.gl x.c :: Blk x.a (opC x.f x.g x.gl.length x.gc x.v) 103 :: numR x.g x.gl.length x.gc x.gl :: setB s gp mb V :: gndR 92 gp G :: mapB mb st :: ((slots st).eraseIdx k ++ L))) : Star w0 w (R :: setL s gp mb G V st L) :=
  setOut (fieldBack hk hx (X.perm (List.perm_middle (l₁ := fldR x.f x.G x.gl x.c :: Blk x.a (opC x.f x.g x.gl.length x.gc x.v) 103 :: numR x.g x.gl.length x.gc x.gl :: setB s gp mb V :: gndR 92 gp G :: mapB mb st :: (slots st).eraseIdx k)).symm))
set_option maxRecDepth 100000 in
theorem flat1 {f : Nat} {gl c : List Int} (X : Star w0 w (fldR f G gl c :: L)) (hF : FOk G gl c) :
    Calls Tryd.prog 56 #[.pointer (some ⟨f, 0, none⟩)] w fun r w' => ∃ v, r = .returned (.tuple #[v, .nilIface]) ∧ Star w0 w' (Row 3 1 v (flatI (G.cells c G.fs.length)).length ((flatI (G.cells c G.fs.length)).map (Value.int .i64)) :: fldR f G gl c :: L) := by
  have HF := hid hF
  have X0 := hid X
  clear X hF
  go_enter Tryd.func56, Tryd.ntmps56
  go_wp2_with fail
  refine (flat_any X0.out HF.out).mono ?_
  rintro r w1 ⟨v, rfl, hX⟩
  have X1 := hid hX
  clear hX X0
  go_wp2
  go_ret2
  exact ⟨v, rfl, X1.out⟩
set_option maxRecDepth 100000 in
set_option maxHeartbeats 8000000 in
theorem of_flat (X : Star w0 w (setL s gp mb G V st L)) (ok : SOk G V st) (hR : Rises st) (k : Nat) (x : Slot) (hx : st k = some x) :
    Calls Tryd.prog 55 #[.pointer (some ⟨s, 0, none⟩), .int .i64 k, .func (.func 56) #[] #[]] w fun r w' =>
      ∃ (x' : Slot) (v : Value), x'.a = x.a ∧ x'.G = G ∧ x'.gl = x.gl ∧ x'.v = V ∧ FOk G x.gl x'.c ∧ r = .returned (.tuple #[v, .nilIface]) ∧ Star w0 w' (Row 3 1 v (flatI (G.cells x'.c G.fs.length)).length ((flatI (G.cells x'.c G.fs.length)).map (Value.int .i64)) :: setL s gp mb G V (upd st k (some x')) L) := by
  have OK := hid ok
  have HR := hid hR
  have HX := hid hx
  have X0 := hid X
  have hk := ok.few k x hx
  clear X ok hR hx
  go_enter Tryd.func55, Tryd.ntmps55
  go_wp2_with fail
  refine (fresh_yes X0.out OK.out HR.out k x HX.out).mono ?_
  rintro r w1 ⟨x', ha, hG, hgl, hv, hF, rfl, hX⟩
  have HX1 := hid (show upd st k (some x') k = some x' from upd_same _ _ _)
  have X1 := hid (fieldFirst hk HX1.out hX)
  have HH := hid (show x'.a = x.a ∧ x'.G = G ∧ x'.gl = x.gl ∧ x'.v = V ∧ FOk G x.gl x'.c from ⟨ha, hG, hgl, hv, hF⟩)
  have HF := hid (show FOk x'.G x'.gl x'.c from by rw [hG, hgl]; exact hF)
  have HG := hid hG
  clear hX ha hG hgl hv hF X0
  go_wp2_with fail
  refine (flat1 X1.out HF.out).mono ?_
  rintro r w2 ⟨v, rfl, hX⟩
  have X3 := hid (fieldBackR hk HX1.out hX)
  clear hX X1
  go_wp2
  go_ret2
  refine ⟨x', v, HH.out.1, HH.out.2.1, HH.out.2.2.1, HH.out.2.2.2.1, HH.out.2.2.2.2, rfl, ?_⟩
  have h := X3.out
  rw [HG.out] at h
  exact h
set_option maxRecDepth 100000 in
theorem flat_yes (X : Star w0 w (setL s gp mb G V st L)) (ok : SOk G V st) (hR : Rises st) (k : Nat) (x : Slot) (hx : st k = some x) :
    Calls Tryd.prog 25 #[.pointer (some ⟨s, 0, none⟩), .int .i64 k] w fun r w' =>
      ∃ (x' : Slot) (v : Value), x'.a = x.a ∧ x'.G = G ∧ x'.gl = x.gl ∧ x'.v = V ∧ FOk G x.gl x'.c ∧ r = .returned (.tuple #[v, .nilIface]) ∧ Star w0 w' (Row 3 1 v (flatI (G.cells x'.c G.fs.length)).length ((flatI (G.cells x'.c G.fs.length)).map (Value.int .i64)) :: setL s gp mb G V (upd st k (some x')) L) := by
  have OK := hid ok
  have HR := hid hR
  have HX := hid hx
  have X0 := hid X
  clear X ok hR hx
  go_enter Tryd.func25, Tryd.ntmps25
  go_wp2_with fail
  refine (of_flat X0.out OK.out HR.out k x HX.out).mono ?_
  rintro r w1 ⟨x', v, ha, hG, hgl, hv, hF, rfl, hX⟩
  have X1 := hid hX
  have HH := hid (show x'.a = x.a ∧ x'.G = G ∧ x'.gl = x.gl ∧ x'.v = V ∧ FOk G x.gl x'.c from ⟨ha, hG, hgl, hv, hF⟩)
  clear hX ha hG hgl hv hF X0
  go_wp2
  go_ret2
  exact ⟨x', v, HH.out.1, HH.out.2.1, HH.out.2.2.1, HH.out.2.2.2.1, HH.out.2.2.2.2, rfl, X1.out⟩
end
end Go.Proofs.YtilobedihjkpjaaDoor.Fs
namespace Go.Proofs.YtilobedihjkpjaaDoor.Fs
open Go Go.RowKit Go.Maps Go.Proofs.YtilobedihjkpjaaDoor.Err Go.Proofs.YtilobedihjkpjaaDoor.Steps Go.Proofs.YtilobedihjkpjaaDoor.Ord Go.Proofs.YtilobedihjkpjaaDoor.Route Go.Proofs.YtilobedihjkpjaaDoor.Fld
section
variable {w0 w : World} {L : List Res} {s gp mb : Nat} {G : Gr} {V : Int} {st : Nat → Option Slot}
set_option maxRecDepth 100000 in
set_option maxHeartbeats 4000000 in
theorem ground_any (X : Star w0 w (setL s gp mb G V st L)) : Calls Tryd.prog 24 #[.pointer (some ⟨s, 0, none⟩)] w fun r w' => ∃ q, r = .returned (.pointer (some ⟨q, 0, none⟩)) ∧ Star w0 w' (gndR 92 q G :: setL s gp mb G V st L) := by
  have hbk := (X.blk 0 rfl).1
  have d0 := cell_of hbk 0
  have dl := lt_of hbk
  simp only [List.getElem?_toArray, List.getElem?_cons_zero, List.getElem?_cons_succ] at d0
  obtain ⟨pg, pc, hG, -⟩ := gnd_at X 1 rfl
  have HG := hid hG
  have X0 := hid X
  clear X hbk hG
  go_enter Tryd.func24, Tryd.ntmps24
  go_wp2_with fail
  refine (clone_gnd HG.out).mono ?_
  rintro r w1 ⟨q, rfl, hX1⟩
  have X1 := hid (X0.out.lift hX1)
  clear hX1 X0
  go_wp2
  go_ret
  exact ⟨q, rfl, X1.out⟩
set_option maxRecDepth 100000 in
set_option maxHeartbeats 8000000 in
/-- The closure of Read: a tile of the ground. -/
theorem cell1_in {f q : Nat} {gl c : List Int} {t : Nat} (X : Star w0 w (fldR f G gl c :: Blk q #[.int .i64 t] 3 :: L)) (hF : FOk G gl c) (ht : t < G.fs.length) :
    Calls Tryd.prog 53 #[.pointer (some ⟨f, 0, none⟩), .pointer (some ⟨q, 0, none⟩)] w fun r w' => r = .returned (.tuple #[.agg #[.int .i64 (cAt c t), .int .i64 (G.dirOf c t)], .nilIface]) ∧ Star w0 w' (fldR f G gl c :: Blk q #[.int .i64 t] 3 :: L) := by
  have HF := hid hF
  have HT := hid ht
  have X0 := hid (X.alloc #[.int .i64 0, .int .i64 0] 41).swap
  have hbk := (X0.out.blk 2 rfl).1
  have e0 := cell_of hbk 0
  have el := lt_of hbk
  simp only [List.getElem?_toArray, List.getElem?_cons_zero, List.getElem?_cons_succ] at e0
  have hbk1 := (X.blk 1 rfl).1
  have f0 := cell_of hbk1 0
  have fl := lt_of hbk1
  simp only [List.getElem?_toArray, List.getElem?_cons_zero, List.getElem?_cons_succ] at f0
  clear X hF ht hbk hbk1
  go_enter Tryd.func53, Tryd.ntmps53
  go_wp2_with fail
  refine (cell_in X0.out HF.out t HT.out).mono ?_
  rintro r w1 ⟨rfl, x, hX⟩
  have X1 := hid (openL.shut HF.out.ok.max.2 hX)
  have hbc := (X1.out.blk 1 rfl).1
  have g0 := cell_of hbc 0
  have g1 := cell_of hbc 1
  have gf0 := free_of hbc 0
  have gf1 := free_of hbc 1
  have gcl := lt_of hbc
  simp only [List.getElem?_toArray, List.getElem?_cons_zero, List.getElem?_cons_succ] at g0 g1
  generalize w.heap.size = p at *
  have X8 := hid (((X1.out.put 1 rfl 0 (.int .i64 (cAt c t))).put 1 rfl 1 (.int .i64 (G.dirOf c t))).pull 1 rfl)
  clear hX X0 X1 e0 el f0 fl hbc
  go_wp2
  refine bodyPost_ret (v := .tuple #[.agg #[.int .i64 (cAt c t), .int .i64 (G.dirOf c t)], .nilIface]) (results_cell_tmp Tryd.results53 _ _ p _ _ _ _ rfl (X8.out.blk 0 rfl).1 Tryd.underlying41 rfl (cellSize _ _) _ rfl) rfl ⟨rfl, X8.out.drop⟩
theorem setIn2 {A R : Res} (Y : Star w0 w (A :: R :: setL s gp mb G V st L)) : Star w0 w (A :: setL s gp mb G V st (R :: L)) :=
  Y.perm ((List.perm_middle (l₁ := setB s gp mb V :: gndR 92 gp G :: mapB mb st :: slots st) (a := R) (l₂ := L)).symm.cons A)
theorem setOut2 {A R : Res} (Y : Star w0 w (A :: setL s gp mb G V st (R :: L))) : Star w0 w (A :: R :: setL s gp mb G V st L) :=
  Y.perm ((List.perm_middle (l₁ := setB s gp mb V :: gndR 92 gp G :: mapB mb st :: slots st) (a := R) (l₂ := L)).cons A)
theorem midFirst {A R : Res} {Z M : List Res} (X : Star w0 w (A :: (Z ++ (R :: M)))) : Star w0 w (A :: R :: (Z ++ M)) := X.perm (List.perm_middle.cons A)
set_option maxRecDepth 100000 in
set_option maxHeartbeats 8000000 in
theorem of_cell_in {q : Nat} (t : Nat) (X : Star w0 w (Blk q #[.int .i64 t] 3 :: setL s gp mb G V st L)) (ok : SOk G V st) (hR : Rises st) (k : Nat) (x : Slot) (hx : st k = some x) (ht : t < G.fs.length) :
    Calls Tryd.prog 52 #[.pointer (some ⟨s, 0, none⟩), .int .i64 k, .func (.func 53) #[] #[.pointer (some ⟨q, 0, none⟩)]] w fun r w' =>
      ∃ x' : Slot, x'.a = x.a ∧ x'.G = G ∧ x'.gl = x.gl ∧ x'.v = V ∧ FOk G x.gl x'.c ∧ r = .returned (.tuple #[.agg #[.int .i64 (cAt x'.c t), .int .i64 (G.dirOf x'.c t)], .nilIface]) ∧ Star w0 w' (Blk q #[.int .i64 t] 3 :: setL s gp mb G V (upd st k (some x')) L) := by
  have OK := hid ok
  have HR := hid hR
  have HX := hid hx
  have HT := hid ht
  have hk := ok.few k x hx
  have X0 := hid (setIn ((setIn X).alloc #[.int .i64 0, .int .i64 0] 41))
  clear X ok hR hx ht
  go_enter Tryd.func52, Tryd.ntmps52
  go_wp2_with fail
  generalize w.heap.size = p at *
  refine (fresh_yes X0.out OK.out HR.out k x HX.out).mono ?_
  rintro r w1 ⟨x', ha, hG, hgl, hv, hF, rfl, hX⟩
  have HX1 := hid (show upd st k (some x') k = some x' from upd_same _ _ _)
  have hf := fieldFirst hk HX1.out hX
  have X1 := hid (midFirst (Z := Blk p #[.int .i64 0, .int .i64 0] 41 :: Blk x'.a (opC x'.f x'.g x'.gl.length x'.gc x'.v) 103 :: numR x'.g x'.gl.length x'.gc x'.gl :: setB s gp mb V :: gndR 92 gp G :: mapB mb (upd st k (some x')) :: (slots (upd st k (some x'))).eraseIdx k) (midFirst (Z := Blk x'.a (opC x'.f x'.g x'.gl.length x'.gc x'.v) 103 :: numR x'.g x'.gl.length x'.gc x'.gl :: setB s gp mb V :: gndR 92 gp G :: mapB mb (upd st k (some x')) :: (slots (upd st k (some x'))).eraseIdx k) hf))
  have HH := hid (show x'.a = x.a ∧ x'.G = G ∧ x'.gl = x.gl ∧ x'.v = V ∧ FOk G x.gl x'.c from ⟨ha, hG, hgl, hv, hF⟩)
  have HF := hid (show FOk x'.G x'.gl x'.c from by rw [hG, hgl]; exact hF)
  have HG := hid hG
  clear hX ha hG hgl hv hF X0 hf
  go_wp2_with fail
  refine (cell1_in X1.out HF.out (by rw [HG.out]; exact HT.out)).mono ?_
  rintro r w2 ⟨rfl, hX⟩
  have hbc := (hX.blk 2 rfl).1
  have g0 := cell_of hbc 0
  have g1 := cell_of hbc 1
  have gf0 := free_of hbc 0
  have gf1 := free_of hbc 1
  have gcl := lt_of hbc
  simp only [List.getElem?_toArray, List.getElem?_cons_zero, List.getElem?_cons_succ] at g0 g1
  rw [HG.out]
  have X8 := hid ((((hX.put 2 rfl 0 (.int .i64 (cAt x'.c t))).put 2 rfl 1 (.int .i64 (G.dirOf x'.c t))).pull 1 rfl).pull 2 rfl)
  clear hX hbc X1
  go_wp2
  refine bodyPost_ret (v := .tuple #[.agg #[.int .i64 (cAt x'.c t), .int .i64 (G.dirOf x'.c t)], .nilIface]) (results_cell_tmp Tryd.results52 _ _ p _ _ _ _ rfl (X8.out.blk 0 rfl).1 Tryd.underlying41 rfl (cellSize _ _) _ rfl) rfl ⟨x', HH.out.1, HH.out.2.1, HH.out.2.2.1, HH.out.2.2.2.1, HH.out.2.2.2.2, rfl, fieldBackR hk HX1.out X8.out.drop⟩
set_option maxRecDepth 100000 in
set_option maxHeartbeats 8000000 in
theorem read_yes (t : Nat) (X : Star w0 w (setL s gp mb G V st L)) (ok : SOk G V st) (hR : Rises st) (k : Nat) (x : Slot) (hx : st k = some x) (ht : t < G.fs.length) :
    Calls Tryd.prog 22 #[.pointer (some ⟨s, 0, none⟩), .int .i64 k, .int .i64 t] w fun r w' =>
      ∃ x' : Slot, x'.a = x.a ∧ x'.G = G ∧ x'.gl = x.gl ∧ x'.v = V ∧ FOk G x.gl x'.c ∧ r = .returned (.tuple #[.agg #[.int .i64 (cAt x'.c t), .int .i64 (G.dirOf x'.c t)], .nilIface]) ∧ Star w0 w' (setL s gp mb G V (upd st k (some x')) L) := by
  have OK := hid ok
  have HR := hid hR
  have HX := hid hx
  have HT := hid ht
  have X0 := hid (((X.alloc #[.int .i64 t] 3).alloc #[.int .i64 0, .int .i64 0] 41).swap)
  have X00 := hid (show Star w0 _ (Blk w.heap.size #[.int .i64 t] 3 :: setL s gp mb G V st (Blk (w.heap.size + 1) #[.int .i64 0, .int .i64 0] 41 :: L)) from by
    have h := X0.out
    rw [show (w.alloc (.cells #[.int .i64 t] 3)).heap.size = w.heap.size + 1 by simp] at h
    exact setIn2 h)
  clear X ok hR hx ht X0
  go_enter Tryd.func22, Tryd.ntmps22
  go_wp2_with fail
  generalize w.heap.size = q at *
  refine (of_cell_in t X00.out OK.out HR.out k x HX.out HT.out).mono ?_
  rintro r w2 ⟨x', ha, hG, hgl, hv, hF, rfl, hX⟩
  have X1 := hid ((setOut2 hX).swap)
  have HH := hid (show x'.a = x.a ∧ x'.G = G ∧ x'.gl = x.gl ∧ x'.v = V ∧ FOk G x.gl x'.c from ⟨ha, hG, hgl, hv, hF⟩)
  have hbc := (X1.out.blk 0 rfl).1
  have g0 := cell_of hbc 0
  have g1 := cell_of hbc 1
  have gf0 := free_of hbc 0
  have gf1 := free_of hbc 1
  have gcl := lt_of hbc
  simp only [List.getElem?_toArray, List.getElem?_cons_zero, List.getElem?_cons_succ] at g0 g1
  have X8 := hid ((X1.out.put 0 rfl 0 (.int .i64 (cAt x'.c t))).put 0 rfl 1 (.int .i64 (G.dirOf x'.c t)))
  clear hX hbc X1 ha hG hgl hv hF X00
  go_wp2
  refine bodyPost_ret (v := .tuple #[.agg #[.int .i64 (cAt x'.c t), .int .i64 (G.dirOf x'.c t)], .nilIface]) (results_cell_tmp Tryd.results22 _ _ (q + 1) _ _ _ _ rfl (X8.out.blk 0 rfl).1 Tryd.underlying41 rfl (cellSize _ _) _ rfl) rfl ⟨x', HH.out.1, HH.out.2.1, HH.out.2.2.1, HH.out.2.2.2.1, HH.out.2.2.2.2, rfl, X8.out.drop.drop⟩
end
end Go.Proofs.YtilobedihjkpjaaDoor.Fs
