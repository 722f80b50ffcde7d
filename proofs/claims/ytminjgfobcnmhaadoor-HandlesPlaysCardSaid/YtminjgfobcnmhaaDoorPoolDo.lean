/-
  One call on a pool and on the document's: they answer alike.
-/
import Derived.Deep.CutBlock
import Derived.Deep.DeepCutAuto
import Derived.Test.YtminjgfobcnmhaaDoorRefList
import Derived.Test.YtminjgfobcnmhaaDoorPoolRun
import Derived.Test.YtminjgfobcnmhaaDoorErr
namespace Go.Proofs.YtminjgfobcnmhaaDoor.Pool
open Go Go.RowKit

section
variable {w0 w : World} {L : List Res} {p q : Nat} {S : List Slot} {f : List Nat} {c : Int}
theorem next_some (X : Star w0 w (PoolR p S f c :: L)) (ok : Ok S f c) {h : Hand} {S' : List Slot} {f' : List Nat} (ht : takeM S f = some (h, S', f')) :
    Calls Tryd.prog 46 #[.pointer (some ⟨p, 0, none⟩)] w fun r w' => r = .returned (.tuple #[hv h, .nilIface]) ∧ Star w0 w' (PoolR p S f c :: L) := by
  obtain ⟨_, ⟨i, rfl, h1, h2, rfl⟩ | ⟨rfl, rfl, hl, rfl, rfl⟩⟩ := ok.take ht
  · obtain ⟨x, g⟩ := h
    simp only at h1 h2
    subst h1
    exact next_free X f' i rfl (g, false) h2
  · exact next_new X hl
theorem next_none (X : Star w0 w (PoolR p S f c :: L)) (ok : Ok S f c) (ht : takeM S f = none) (e : Value) (he : w0.cell? ⟨0, 0, none⟩ = some e) :
    Calls Tryd.prog 46 #[.pointer (some ⟨p, 0, none⟩)] w fun r w' => r = .returned (.tuple #[hv (0, 0), e]) ∧ Star w0 w' (PoolR p S f c :: L) := by
  obtain ⟨rfl, hl⟩ := ok.take_none ht
  exact next_full X (by omega) e he
theorem rtake_some (X : Star w0 w (RefR p S f :: L)) (ok : Ok S f c) {h : Hand} {S' : List Slot} {f' : List Nat} (ht : takeM S f = some (h, S', f')) :
    Calls Tryd.prog 52 #[.pointer (some ⟨p, 0, none⟩)] w fun r w' => r = .returned (.tuple #[hv h, .int .i64 0]) ∧ Star w0 w' (RefR p S' f' :: L) := by
  rcases rtake_any X ok with ⟨h1, S1, f1, e, hc⟩ | ⟨e, _⟩
  · rw [ht] at e; cases e; exact hc
  · rw [ht] at e; cases e
theorem rtake_none (X : Star w0 w (RefR p S f :: L)) (ok : Ok S f c) (ht : takeM S f = none) :
    Calls Tryd.prog 52 #[.pointer (some ⟨p, 0, none⟩)] w fun r w' => r = .returned (.tuple #[hv (0, 0), .int .i64 2]) ∧ Star w0 w' (RefR p S f :: L) := by
  rcases rtake_any X ok with ⟨h1, S1, f1, e, hc⟩ | ⟨_, hc⟩
  · rw [ht] at e; cases e
  · exact hc
end

/-- What taking gives: the handle, the error's number, what is left. -/
def TakeA (S : List Slot) (f : List Nat) (c : Int) (h : Hand) (k : Nat) (S' : List Slot) (f' : List Nat) (c' : Int) : Prop :=
  (k = 0 ∧ takeM S f = some (h, S', f') ∧ c' = c + 1) ∨ (k = 2 ∧ takeM S f = none ∧ h = (0, 0) ∧ S' = S ∧ f' = f ∧ c' = c)
theorem takeA_ex (S : List Slot) (f : List Nat) (c : Int) : ∃ h k S' f' c', TakeA S f c h k S' f' c' := by
  cases ht : takeM S f with
  | none => exact ⟨(0, 0), 2, S, f, c, .inr ⟨rfl, ht, rfl, rfl, rfl, rfl⟩⟩
  | some x => exact ⟨x.1, 0, x.2.1, x.2.2, c + 1, .inl ⟨rfl, ht, rfl⟩⟩
section
variable {w0 w : World} {L : List Res} {p q : Nat} {S : List Slot} {f : List Nat} {c : Int} {h : Hand} {k : Nat} {S' : List Slot} {f' : List Nat} {c' : Int}
theorem TakeA.ok (t : TakeA S f c h k S' f' c') (ok : Ok S f c) : Ok S' f' c' := by
  rcases t with ⟨_, ht, rfl⟩ | ⟨_, _, _, rfl, rfl, rfl⟩
  · exact (ok.take ht).1
  · exact ok
theorem TakeA.k10 (t : TakeA S f c h k S' f' c') : k ≤ 10 := by
  rcases t with ⟨rfl, _⟩ | ⟨rfl, _⟩ <;> omega
theorem next_a (t : TakeA S f c h k S' f' c') (X : Star w0 w (PoolR p S f c :: L)) (ok : Ok S f c) (ad : Nat → Addr) (hE : Err.Errs w0 ad) :
    Calls Tryd.prog 46 #[.pointer (some ⟨p, 0, none⟩)] w fun r w' => r = .returned (.tuple #[hv h, Err.errV ad k]) ∧ Star w0 w' (PoolR p S f c :: L) := by
  rcases t with ⟨rfl, ht, rfl⟩ | ⟨rfl, ht, rfl, rfl, rfl, rfl⟩
  · exact next_some X ok ht
  · exact next_none X ok ht _ hE.c1
theorem take_a (t : TakeA S f c h k S' f' c') (X : Star w0 w (PoolR p S f c :: L)) (ok : Ok S f c) (ad : Nat → Addr) (hE : Err.Errs w0 ad) :
    Calls Tryd.prog 23 #[.pointer (some ⟨p, 0, none⟩)] w fun r w' => r = .returned (.tuple #[hv h, Err.errV ad k]) ∧ Star w0 w' (PoolR p S' f' c' :: L) := by
  rcases t with ⟨rfl, ht, rfl⟩ | ⟨rfl, ht, rfl, rfl, rfl, rfl⟩
  · exact take_some X ok ht
  · exact take_none X ok ht _ hE.c1 ⟨_, _, rfl⟩
theorem rtake_a (t : TakeA S f c h k S' f' c') (X : Star w0 w (RefR p S f :: L)) (ok : Ok S f c) :
    Calls Tryd.prog 52 #[.pointer (some ⟨p, 0, none⟩)] w fun r w' => r = .returned (.tuple #[hv h, .int .i64 k]) ∧ Star w0 w' (RefR p S' f' :: L) := by
  rcases t with ⟨rfl, ht, rfl⟩ | ⟨rfl, ht, rfl, rfl, rfl, rfl⟩
  · exact rtake_some X ok ht
  · exact rtake_none X ok ht
end

/-- A pool and the document's that hold alike. -/
def Twin (w0 w' : World) (p q : Nat) (L : List Res) : Prop := ∃ (S : List Slot) (f : List Nat) (c : Int), Ok S f c ∧ Star w0 w' (PoolR p S f c :: RefR q S f :: L)

section
variable {w0 w : World} {L : List Res} {p q : Nat} {S : List Slot} {f : List Nat} {c : Int}
set_option maxRecDepth 100000 in
set_option maxHeartbeats 4000000 in
theorem do_any (X : Star w0 w (PoolR p S f c :: RefR q S f :: L)) (ok : Ok S f c) (kind on oi og : Int) (ad : Nat → Addr) (hE : Err.Errs w0 ad) :
    Calls Tryd.prog 39 #[.pointer (some ⟨p, 0, none⟩), .pointer (some ⟨q, 0, none⟩), .agg #[.int .i64 kind, .int .i64 on, .int .i64 oi, .int .i64 og]] w fun r w' => r = .returned (.bool true) ∧ Twin w0 w' p q L := by
  have X0 : Hid (Star w0 (w.alloc (.cells #[.int .i64 kind, .int .i64 on, .int .i64 oi, .int .i64 og] 44)) (PoolR p S f c :: RefR q S f :: Blk w.heap.size #[.int .i64 kind, .int .i64 on, .int .i64 oi, .int .i64 og] 44 :: L)) := hid ((((X.alloc #[.int .i64 kind, .int .i64 on, .int .i64 oi, .int .i64 og] 44).pull 2 rfl).pull 2 rfl))
  have OK := hid ok
  have HE := hid hE
  have hb0 := (X0.out.blk 2 rfl).1
  have o0 : (w.alloc (.cells #[.int .i64 kind, .int .i64 on, .int .i64 oi, .int .i64 og] 44)).cell? ⟨w.heap.size, 0, none⟩ = some (.int .i64 kind) := cell_of hb0 0
  have o1 : (w.alloc (.cells #[.int .i64 kind, .int .i64 on, .int .i64 oi, .int .i64 og] 44)).cell? ⟨w.heap.size, 1, none⟩ = some (.int .i64 on) := cell_of hb0 1
  have o2 : (w.alloc (.cells #[.int .i64 kind, .int .i64 on, .int .i64 oi, .int .i64 og] 44)).cell? ⟨w.heap.size, 2, none⟩ = some (.int .i64 oi) := cell_of hb0 2
  have o3 : (w.alloc (.cells #[.int .i64 kind, .int .i64 on, .int .i64 oi, .int .i64 og] 44)).cell? ⟨w.heap.size, 3, none⟩ = some (.int .i64 og) := cell_of hb0 3
  have ol := lt_of hb0
  clear X ok hE hb0
  obtain ⟨m140, hm140, hmod⟩ := mod_small on 140 (by omega) (by omega)
  have hmod2 : wrap64 ((IntKind.u64.wrap on).tmod 140) = (m140 : Int) := hmod
  clear hmod
  go_enter Tryd.func39, Tryd.ntmps39
  go_upto_block 0 with (fail)
  generalize hww : w.alloc _ = w1 at *
  generalize w.heap.size = q5 at *
  clear hww
  go_cut [7] (fun s7 wx => ∃ tm : Nat, tm ≤ 140 ∧ s7 = .int .i64 tm ∧ wx = w1)
  case first =>
    by_cases k3 : kind = 3
    · subst k3
      go_wp2_with fail
      go_meet
      exact ⟨m140, by omega, by first | rw [hmod2] | rfl, rfl⟩
    by_cases k2 : kind = 2
    · subst k2
      clear hmod2
      have hcase : livesB S (oi, og) = false ∨ ∃ i : Nat, oi = (i : Int) ∧ S[i]? = some (og, true) := by
        cases hl : livesB S (oi, og) with
        | false => exact .inl rfl
        | true =>
          unfold livesB at hl
          simp only [Bool.and_eq_true, decide_eq_true_eq, beq_iff_eq] at hl
          exact .inr ⟨oi.toNat, by omega, hl.2⟩
      rcases hcase with hn | ⟨i, rfl, hi⟩
      · have HN := hid hn
        clear hn
        go_wp2_with fail
        go_region_held3 (fun w' => w'.cell? ⟨q5, 2, none⟩ = some (.int .i64 oi) ∧ w'.cell? ⟨q5, 3, none⟩ = some (.int .i64 og)) (go_keep) (first
          | (go_at_call 22; refine (free_no (X0.out.go (w' := w1.drew) ((Chg.refl _).drew)) (oi, og) HN.out _ HE.out.c2).mono ?_; rintro r wa ⟨rfl, hs⟩; have XA := hid ((X0.out.go (w' := w1.drew) ((Chg.refl _).drew)).go hs); have a2 := cell_of (XA.out.blk 2 rfl).1 2; have a3 := cell_of (XA.out.blk 2 rfl).1 3; have al := lt_of (XA.out.blk 2 rfl).1; simp only [List.getElem?_toArray, List.getElem?_cons_zero, List.getElem?_cons_succ] at a2 a3; clear hs)
          | (go_at_call 29; refine (Err.num ad 3 (by omega) _ (HE.out.same XA.out.same)).mono ?_; rintro r wb ⟨rfl, hs⟩; have XB := hid (XA.out.go hs); have b2 := cell_of (XB.out.blk 2 rfl).1 2; have b3 := cell_of (XB.out.blk 2 rfl).1 3; have bl := lt_of (XB.out.blk 2 rfl).1; simp only [List.getElem?_toArray, List.getElem?_cons_zero, List.getElem?_cons_succ] at b2 b3; clear hs)
          | (go_at_call 51; refine (rrelease_no (XB.out.pull 1 rfl) (oi, og) HN.out).mono ?_; rintro r wc ⟨rfl, hs⟩; have XC := hid (XB.out.go hs); have c2 := cell_of (XC.out.blk 2 rfl).1 2; have c3 := cell_of (XC.out.blk 2 rfl).1 3; have cl := lt_of (XC.out.blk 2 rfl).1; simp only [List.getElem?_toArray, List.getElem?_cons_zero, List.getElem?_cons_succ] at c2 c3; clear hs))
        all_goals
          go_wp2
          go_ret
          exact ⟨rfl, _, _, _, OK.out, (XC.out.pull 2 rfl).drop⟩
      · have HI := hid hi
        clear hi
        go_wp2_with fail
        go_region_held3 (fun w' => w'.cell? ⟨q5, 2, none⟩ = some (.int .i64 i) ∧ w'.cell? ⟨q5, 3, none⟩ = some (.int .i64 og)) (go_keep) (first
          | (go_at_call 22; refine (free_live (X0.out.go (w' := w1.drew) ((Chg.refl _).drew)) OK.out HI.out).mono ?_; rintro r wa ⟨rfl, hs⟩; have XA := hid hs; have a2 := cell_of (XA.out.blk 2 rfl).1 2; have a3 := cell_of (XA.out.blk 2 rfl).1 3; have al := lt_of (XA.out.blk 2 rfl).1; simp only [List.getElem?_toArray, List.getElem?_cons_zero, List.getElem?_cons_succ] at a2 a3; clear hs)
          | (go_at_call 29; refine (Err.num ad 0 (by omega) _ (HE.out.same XA.out.same)).mono ?_; rintro r wb ⟨rfl, hs⟩; have XB := hid (XA.out.go hs); have b2 := cell_of (XB.out.blk 2 rfl).1 2; have b3 := cell_of (XB.out.blk 2 rfl).1 3; have bl := lt_of (XB.out.blk 2 rfl).1; simp only [List.getElem?_toArray, List.getElem?_cons_zero, List.getElem?_cons_succ] at b2 b3; clear hs)
          | (go_at_call 51; refine (rrelease_live (XB.out.pull 1 rfl) i og HI.out (OK.out.gen _ (List.mem_of_getElem? HI.out)) (by have := OK.out.flen; omega)).mono ?_; rintro r wc ⟨rfl, hs⟩; have XC := hid hs.swap; have c2 := cell_of (XC.out.blk 2 rfl).1 2; have c3 := cell_of (XC.out.blk 2 rfl).1 3; have cl := lt_of (XC.out.blk 2 rfl).1; simp only [List.getElem?_toArray, List.getElem?_cons_zero, List.getElem?_cons_succ] at c2 c3; clear hs))
        all_goals
          go_wp2
          go_ret
          exact ⟨rfl, _, _, _, OK.out.free' HI.out, (XC.out.pull 2 rfl).drop⟩
    by_cases k1 : kind = 1
    · subst k1
      go_wp2_with fail
      go_meet
      exact ⟨1, by omega, rfl, rfl⟩
    · have k1' : (kind == 1) = false := by simpa using k1
      have k2' : (kind == 2) = false := by simpa using k2
      have k3' : (kind == 3) = false := by simpa using k3
      clear k1 k2 k3 hmod2
      go_wp2
      go_ret
      exact ⟨rfl, _, _, _, OK.out, ((X0.out.pull 2 rfl).drop)⟩
  case rest =>
    obtain ⟨tm, htm, rfl, rfl⟩ := hcut
    go_wp2_with fail
    go_loopw [38] (fun iv wx => ∃ (i : Nat) (S : List Slot) (f : List Nat) (c : Int), i ≤ tm ∧ iv = .int .i64 i ∧ Ok S f c ∧ Star w0 wx (PoolR p S f c :: RefR q S f :: L)) (fun iv _ => tm - (intOf iv).toNat)
    case atStart => exact ⟨0, S, f, c, by omega, rfl, OK.out, (X0.out.pull 2 rfl).drop⟩
    case round =>
      obtain ⟨i, S, f, c, hi, rfl, hok, hX⟩ := hrel
      have X := hid hX
      have OK := hid hok
      clear hX hok X0 o0 o1 o2 o3 ol hmod2
      by_cases hit : i < tm
      · obtain ⟨h, k, S', f', c', ht⟩ := takeA_ex S f c
        obtain ⟨hx, hg⟩ := h
        have T := hid ht
        clear ht
        go_wp2_with fail
        refine (next_a T.out X.out OK.out ad HE.out).mono ?_
        rintro r w2 ⟨rfl, hX⟩
        have X2 := hid (hX.alloc #[.int .i64 hx, .int .i64 hg] 42).swap
        clear hX X
        go_wp2_with fail
        generalize w2.heap.size = q8 at *
        refine (take_a T.out X2.out OK.out ad HE.out).mono ?_
        rintro r w3 ⟨rfl, hX⟩
        have X3 := hid ((hX.alloc #[.int .i64 hx, .int .i64 hg] 42).pull 3 rfl)
        clear hX X2
        go_wp2_with fail
        generalize w3.heap.size = q10 at *
        refine (rtake_a T.out X3.out OK.out).mono ?_
        rintro r w4 ⟨rfl, hX⟩
        have X4 : Hid (Star w0 (w4.alloc (.cells #[.int .i64 hx, .int .i64 hg] 42)) (Blk w4.heap.size #[.int .i64 hx, .int .i64 hg] 42 :: RefR q S' f' :: Blk q10 #[.int .i64 hx, .int .i64 hg] 42 :: PoolR p S' f' c' :: Blk q8 #[.int .i64 hx, .int .i64 hg] 42 :: L)) := hid (hX.alloc #[.int .i64 hx, .int .i64 hg] 42)
        clear hX X3
        have hb10 := (X4.out.blk 2 rfl).1
        have hb8 := (X4.out.blk 4 rfl).1
        have a0 : (w4.alloc (.cells #[.int .i64 hx, .int .i64 hg] 42)).cell? ⟨q10, 0, none⟩ = some (.int .i64 hx) := cell_of hb10 0
        have a1 : (w4.alloc (.cells #[.int .i64 hx, .int .i64 hg] 42)).cell? ⟨q10, 1, none⟩ = some (.int .i64 hg) := cell_of hb10 1
        have al := lt_of hb10
        have b0 : (w4.alloc (.cells #[.int .i64 hx, .int .i64 hg] 42)).cell? ⟨q8, 0, none⟩ = some (.int .i64 hx) := cell_of hb8 0
        have b1 : (w4.alloc (.cells #[.int .i64 hx, .int .i64 hg] 42)).cell? ⟨q8, 1, none⟩ = some (.int .i64 hg) := cell_of hb8 1
        have bl := lt_of hb8
        clear hb10 hb8
        go_wp2_with fail
        refine (Err.num ad k T.out.k10 _ (HE.out.same X4.out.same)).mono ?_
        rintro r w8 ⟨rfl, hs8⟩
        have X5 := hid (X4.out.go hs8)
        clear hs8 X4 a0 a1 al b0 b1 bl
        go_wp2_with fail
        refine (Err.num ad k T.out.k10 _ (HE.out.same X5.out.same)).mono ?_
        rintro r w9 ⟨rfl, hs9⟩
        have X6 := hid (X5.out.go hs9)
        clear hs9 X5
        go_wp2
        go_roundw
        case rel =>
          have hrel : ∃ (i' : Nat) (S : List Slot) (f : List Nat) (c : Int), i' ≤ tm ∧ Value.int .i64 ((i : Int) + 1) = .int .i64 i' ∧ Ok S f c ∧ Star w0 w9 (PoolR p S f c :: RefR q S f :: L) := ⟨i + 1, S', f', c', by omega, by go_num, T.out.ok OK.out, (((((X6.out.drop).pull 2 rfl).pull 2 rfl).drop.pull 2 rfl).drop)⟩
          first | exact hrel | ((repeat apply Exists.intro); exact ⟨hrel, rfl⟩)
        case measure => simp [intOf]; omega
      · go_wp2
        go_ret
        exact ⟨rfl, S, f, c, OK.out, X.out⟩
end
end Go.Proofs.YtminjgfobcnmhaaDoor.Pool
