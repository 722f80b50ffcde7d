/-
  A column among things: column.Column[int], and paddockref05's column beside it.
-/
import Derived.Test.YtkjecihiipjngaaDoorColI
import Derived.Test.YtkjecihiipjngaaDoorStar
namespace Go.Proofs.YtkjecihiipjngaaDoor.ColR
open Go Go.RowKit

def iv (xs : List Int) : List Value := xs.map (Value.int .i64)
theorem iv_len (xs : List Int) : (iv xs).length = xs.length := by simp [iv]
theorem iv_one (xs : List Int) : ∀ u ∈ iv xs, u.oneCell' = true := by intro u hu; simp [iv] at hu; obtain ⟨i, _, rfl⟩ := hu; rfl
theorem iv_int (xs : List Int) : ∀ u ∈ iv xs, ∃ s, u = Value.int .i64 s := by intro u hu; simp [iv] at hu; obtain ⟨i, _, rfl⟩ := hu; exact ⟨_, rfl⟩
theorem iv_get (xs : List Int) (i : Nat) (x : Int) (h : xs[i]? = some x) : (iv xs)[i]? = some (.int .i64 x) := by simp [iv, h]
theorem iv_append (xs ys : List Int) : iv (xs ++ ys) = iv xs ++ iv ys := by simp [iv]
theorem iv_set (xs : List Int) (i : Nat) (x : Int) : (iv xs).set i (.int .i64 x) = iv (xs.set i x) := by simp [iv, List.map_set]
theorem iv_take (xs : List Int) (i : Nat) : takeOut (iv xs) i = iv (takeOut xs i) := by
  unfold takeOut iv
  rw [List.getLast?_map]
  cases xs.getLast? with
  | none => rfl
  | some y => simp [List.map_set, List.map_dropLast]

/-- A column (its block, and the row that its slice owns). -/
def colR (T p : Nat) (xs : List Int) (m : Int) : Res where
  rel w F := ∃ v, Col T 3 w p v (iv xs) m ∧ F = ColS p v
  here := by
    rintro w F ⟨v, h, rfl⟩ k hk
    rcases hk with rfl | hk
    · exact h.lt
    · exact (h.own.lt k hk.symm).2
  keep := by
    rintro w w' F ⟨v, h, rfl⟩ hk
    refine ⟨v, ⟨(hk p (.inl rfl)).trans h.blk, ⟨h.own.1, ?_⟩, h.ne⟩, rfl⟩
    rcases h.own.2 with hn' | ⟨g, cap, cur, rfl, hb, hg, r⟩
    · exact .inl hn'
    · exact .inr ⟨g, cap, cur, rfl, hb, (hk g (.inr rfl)).trans hg, r⟩

section
variable {w0 w : World} {L : List Res} {T p : Nat} {xs : List Int} {m : Int}
/-- What a step of the column's own leaves. -/
theorem colR_step (X : Star w0 w (colR T p xs m :: L)) : ∃ v, Col T 3 w p v (iv xs) m ∧ (∀ k, ColS p v k → w0.heap.size ≤ k) ∧
    ∀ (w' : World) (v' : Value) (xs' : List Int) (m' : Int), Col T 3 w' p v' (iv xs') m' → Chg (ColS p v) w w' → NewOr w v v' → Star w0 w' (colR T p xs' m' :: L) := by
  obtain ⟨F, ⟨v, h, rfl⟩, h2, h3⟩ := X.at 0 rfl
  refine ⟨v, h, h2, fun w' v' xs' m' hc hch hn => ?_⟩
  refine h3 w' (colR T p xs' m') _ ⟨v', hc, rfl⟩ hch (fun k f => ?_)
  rcases f with rfl | f
  · exact .inl (.inl rfl)
  · rcases hn with e | e
    · exact .inl (.inr (f.trans e))
    · exact .inr (e k f.symm)
theorem colR_max (X : Star w0 w (colR T p xs m :: L)) : xs.length ≤ 9223372036854775807 := by
  obtain ⟨v, h, _⟩ := colR_step X
  have := h.max
  rwa [iv_len] at this
theorem colR_cell (X : Star w0 w (colR T p xs m :: L)) (i : Nat) (x : Int) (hx : xs[i]? = some x) : ∃ g c, w.cell? ⟨p, 0, none⟩ = some (.slice (some ⟨g, 0, none⟩) xs.length c) ∧ w.cell? ⟨g, i, none⟩ = some (.int .i64 x) ∧ w.frozen? ⟨g, i, none⟩ = false ∧ g < w.heap.size ∧ p < w.heap.size ∧
    ∀ y : Int, Star w0 (w.setCell ⟨g, i, none⟩ (.int .i64 y)) (colR T p (xs.set i y) m :: L) := by
  obtain ⟨v, h, -, h3⟩ := colR_step X
  have hi : i < (iv xs).length := by rw [iv_len]; exact (List.getElem?_eq_some_iff.1 hx).1
  obtain ⟨g, cp, rfl⟩ := own_shape h.own (by omega)
  have hc := (h.own.cellAt i (by omega)).trans (iv_get xs i x hx)
  refine ⟨g, cp, by rw [← iv_len xs]; exact h.c0, hc, h.own.frozenAt i, (h.own.lt g rfl).2, h.lt, fun y => ?_⟩
  have hst := (h.own.stored i (Value.int .i64 y)).1
  rw [iv_set] at hst
  refine h3 _ (.slice (some ⟨g, 0, none⟩) (iv xs).length cp) _ _ ⟨?_, ?_, h.ne⟩ (by refine Chg.setCell _ _ (Chg.refl _) ?_; exact fun _ => .inr rfl) (.inl rfl)
  · rw [set_other]
    · exact h.blk
    · intro e; exact h.ne (by simp [Value.ownBlock, e])
  · have e : (iv (xs.set i y)).length = (iv xs).length := by simp [iv]
    rw [e]
    exact hst
theorem colR_put {w1 : World} {v' : Value} {xs' : List Int} (X : Star w0 w (colR T p xs m :: L)) (hs : Same w w1) (ho : w1.ownsRow 0 3 1 v' xs'.length (iv xs')) (hv : After w v') : w1.frozen? ⟨p, 0, none⟩ = false ∧ Star w0 (w1.setCell ⟨p, 0, none⟩ v') (colR T p xs' m :: L) := by
  obtain ⟨v, h, -, h3⟩ := colR_step X
  have hst := h.store (v' := v') (xs' := iv xs') (hs.mono (fun _ _ f => f.elim)) (by rw [iv_len]; exact ho) (.inr hv)
  exact ⟨free_of (hs.heap h.blk (fun f => f)) 0, h3 _ _ _ _ hst.1 hst.2 (.inr hv)⟩
theorem colR_new {w' : World} {v : Value} (X : Star w0 w L) (h : Col T 3 w' p v (iv xs) m) (hs : Same w w') (hn : ∀ k, ColS p v k → w.heap.size ≤ k) : Star w0 w' (colR T p xs m :: L) :=
  X.add hs ⟨v, h, rfl⟩ hn
end

section
variable {w0 w : World} {L : List Res} {p : Nat} {xs : List Int} {m : Int}
theorem new_any (X : Star w0 w L) (m : Int) : Calls Tryd.prog 38 #[.int .i64 m] w fun r w' => ∃ p, r = .returned (.pointer (some ⟨p, 0, none⟩)) ∧ Star w0 w' (colR 94 p [] (max m 0) :: L) :=
  (ColI.new_any m w).mono fun r w' ⟨h1, h2, h3, _⟩ => ⟨_, h1, colR_new X h2 h3 (by rintro k (rfl | h); exact Nat.le_refl _; simp [Value.ownBlock] at h)⟩
theorem most_any (X : Star w0 w (colR 94 p xs m :: L)) : Calls Tryd.prog 45 #[.pointer (some ⟨p, 0, none⟩)] w fun r w' => r = .returned (.int .i64 m) ∧ w = w' := by
  obtain ⟨v, h, _⟩ := colR_step X
  exact ColI.most_any p v _ m w h
theorem len_any (X : Star w0 w (colR 94 p xs m :: L)) : Calls Tryd.prog 41 #[.pointer (some ⟨p, 0, none⟩)] w fun r w' => r = .returned (.int .i64 xs.length) ∧ w = w' := by
  obtain ⟨v, h, _⟩ := colR_step X
  have := ColI.len_any p v _ m w h
  rwa [iv_len] at this
theorem push_full (X : Star w0 w (colR 94 p xs m :: L)) (ad : Option Addr) (n c : Nat) (hm : 0 ≤ m ∧ m ≤ 9223372036854775807) (hn : n ≤ 9223372036854775807) (hf : m - xs.length < n) (e : Value) (he : w.cell? ⟨0, 0, none⟩ = some e) :
    Calls Tryd.prog 39 #[.pointer (some ⟨p, 0, none⟩), .slice ad n c] w fun r w' => r = .returned e ∧ Star w0 w' (colR 94 p xs m :: L) := by
  obtain ⟨v, h, _⟩ := colR_step X
  exact (ColI.push_full p v _ m ad n c w h hm hn (by rw [iv_len]; exact hf) e he).mono fun r w' ⟨h1, h2⟩ => ⟨h1, X.go h2⟩
theorem push_ok (X : Star w0 w (colR 94 p xs m :: L)) (v : Value) (ys : List Int) (hr : Ints w v ys) (hm : 0 ≤ m ∧ m ≤ 9223372036854775807) (hf : (ys.length : Int) ≤ m - xs.length) (hb : (xs.length + ys.length) * 8 ≤ 140737488355328) :
    Calls Tryd.prog 39 #[.pointer (some ⟨p, 0, none⟩), v] w fun r w' => r = .returned .nilIface ∧ Star w0 w' (colR 94 p (xs ++ ys) m :: L) := by
  obtain ⟨ad, c, rfl⟩ := hr.slice
  obtain ⟨v, h, _, h3⟩ := colR_step X
  refine (ColI.push_ok p v (iv xs) (iv ys) m ad ys.length c w h hm hr (iv_one ys) (by rw [iv_len]; exact hf) (by rw [iv_len]; exact hb)).mono ?_
  rintro r w' ⟨h1, v', h4, h5, h6⟩
  rw [← iv_append] at h4
  exact ⟨h1, h3 _ _ _ _ h4 h5 h6⟩
theorem get_out (X : Star w0 w (colR 94 p xs m :: L)) (i : Int) (hi : i < 0 ∨ xs.length ≤ i) (e : Value) (he : w.cell? ⟨1, 0, none⟩ = some e) :
    Calls Tryd.prog 49 #[.pointer (some ⟨p, 0, none⟩), .int .i64 i] w fun r w' => r = .returned (.tuple #[(.int .i64 0), e]) ∧ Star w0 w' (colR 94 p xs m :: L) := by
  obtain ⟨v, h, _⟩ := colR_step X
  exact (ColI.get_out p v _ m i w h (by rwa [iv_len]) e he).mono fun r w' ⟨h1, h2⟩ => ⟨h1, X.go h2⟩
theorem get_in (X : Star w0 w (colR 94 p xs m :: L)) (i : Nat) (x : Int) (hi : xs[i]? = some x) :
    Calls Tryd.prog 49 #[.pointer (some ⟨p, 0, none⟩), .int .i64 i] w fun r w' => r = .returned (.tuple #[.int .i64 x, .nilIface]) ∧ Star w0 w' (colR 94 p xs m :: L) := by
  obtain ⟨v, h, _⟩ := colR_step X
  exact (ColI.get_in p v _ m i w h _ (iv_get xs i x hi)).mono fun r w' ⟨h1, h2⟩ => ⟨h1, X.go h2⟩
theorem set_out (X : Star w0 w (colR 94 p xs m :: L)) (i x : Int) (hi : i < 0 ∨ xs.length ≤ i) (e : Value) (he : w.cell? ⟨1, 0, none⟩ = some e) :
    Calls Tryd.prog 51 #[.pointer (some ⟨p, 0, none⟩), .int .i64 i, .int .i64 x] w fun r w' => r = .returned e ∧ Star w0 w' (colR 94 p xs m :: L) := by
  obtain ⟨v, h, _⟩ := colR_step X
  exact (ColI.set_out p v _ m i _ w h (by rwa [iv_len]) e he).mono fun r w' ⟨h1, h2⟩ => ⟨h1, X.go h2⟩
theorem set_in (X : Star w0 w (colR 94 p xs m :: L)) (i : Nat) (x : Int) (hi : i < xs.length) :
    Calls Tryd.prog 51 #[.pointer (some ⟨p, 0, none⟩), .int .i64 i, .int .i64 x] w fun r w' => r = .returned .nilIface ∧ Star w0 w' (colR 94 p (xs.set i x) m :: L) := by
  obtain ⟨v, h, _, h3⟩ := colR_step X
  refine (ColI.set_in p v _ m i x w h (by rwa [iv_len])).mono ?_
  rintro r w' ⟨h1, h4, h5⟩
  rw [iv_set] at h4
  exact ⟨h1, h3 _ _ _ _ h4 h5 (.inl rfl)⟩
theorem take_out (X : Star w0 w (colR 94 p xs m :: L)) (i : Int) (hi : i < 0 ∨ xs.length ≤ i) (e : Value) (he : w.cell? ⟨1, 0, none⟩ = some e) (hen : ∃ T u, e = .iface T u) :
    Calls Tryd.prog 40 #[.pointer (some ⟨p, 0, none⟩), .int .i64 i] w fun r w' => r = .returned (.tuple #[(.int .i64 0), e]) ∧ Star w0 w' (colR 94 p xs m :: L) := by
  obtain ⟨v, h, _⟩ := colR_step X
  exact (ColI.take_out p v _ m i w h (by rwa [iv_len]) e he hen).mono fun r w' ⟨h1, h2⟩ => ⟨h1, X.go h2⟩
theorem take_in (X : Star w0 w (colR 94 p xs m :: L)) (i : Nat) (x : Int) (hi : xs[i]? = some x) :
    Calls Tryd.prog 40 #[.pointer (some ⟨p, 0, none⟩), .int .i64 i] w fun r w' => r = .returned (.tuple #[.int .i64 x, .nilIface]) ∧ Star w0 w' (colR 94 p (takeOut xs i) m :: L) := by
  obtain ⟨v, h, _, h3⟩ := colR_step X
  refine (ColI.take_in p v _ m i w h _ (iv_get xs i x hi) (iv_int xs)).mono ?_
  rintro r w' ⟨h1, v', h4, h5, h6⟩
  rw [iv_take] at h4
  exact ⟨h1, h3 _ _ _ _ h4 h5 (.inl h6)⟩
theorem all_any (X : Star w0 w (colR 94 p xs m :: L)) (hb : xs.length * 8 ≤ 140737488355328) :
    Calls Tryd.prog 54 #[.pointer (some ⟨p, 0, none⟩)] w fun r w' => ∃ v', r = .returned v' ∧ Star w0 w' (Row 3 1 v' xs.length (iv xs) :: colR 94 p xs m :: L) ∧ Same w w' := by
  obtain ⟨v, h, _⟩ := colR_step X
  refine (ColI.all_any p v _ m w h (iv_one xs) (by rwa [iv_len])).mono ?_
  rintro r w' ⟨v', h1, h2, h3⟩
  rw [iv_len] at h2
  exact ⟨v', h1, X.fresh h2 h3, h3⟩
theorem clone_any (X : Star w0 w (colR 94 p xs m :: L)) (hb : xs.length * 8 ≤ 140737488355328) :
    Calls Tryd.prog 53 #[.pointer (some ⟨p, 0, none⟩)] w fun r w' => ∃ q, r = .returned (.pointer (some ⟨q, 0, none⟩)) ∧ Star w0 w' (colR 94 q xs m :: colR 94 p xs m :: L) := by
  obtain ⟨v, h, _⟩ := colR_step X
  refine (ColI.cloneCol_any p v _ m w h (iv_one xs) (by rwa [iv_len])).mono ?_
  rintro r w' ⟨q, v', h1, h2, h3, h4⟩
  exact ⟨q, h1, colR_new X h2 h3 h4⟩
end

section
variable {w0 w : World} {L : List Res} {p : Nat} {xs : List Int} {m : Int}
theorem ref_facts (X : Star w0 w (colR 71 p xs m :: L)) : ∃ a c, w.cell? ⟨p, 0, none⟩ = some (.slice a xs.length c) ∧ w.cell? ⟨p, 1, none⟩ = some (.int .i64 m) ∧ (∀ j, w.frozen? ⟨p, j, none⟩ = false) ∧ p < w.heap.size ∧ Ints w (.slice a xs.length c) xs ∧ xs.length ≤ 9223372036854775807 := by
  obtain ⟨v, h, _⟩ := colR_step X
  obtain ⟨a, c, e⟩ := h.shape
  have h1 := h.max
  rw [iv_len] at e h1
  subst e
  exact ⟨a, c, h.c0, h.c1, h.f, h.lt, by have := Reads.of_own h.own; rw [iv_len] at this; exact this, h1⟩

/-- Has. -/
def has (xs : List Int) (i : Int) : Bool := decide (0 ≤ i ∧ i < xs.length)
set_option maxRecDepth 100000 in
theorem has_any (X : Star w0 w (colR 71 p xs m :: L)) (i : Int) : Calls Tryd.prog 50 #[.pointer (some ⟨p, 0, none⟩), .int .i64 i] w fun r w' => r = .returned (.bool (has xs i)) ∧ w = w' := by
  obtain ⟨a, c, c0, c1, -, hl, -, -⟩ := ref_facts X
  clear X
  go_enter Tryd.func50, Tryd.ntmps50
  by_cases h0 : 0 ≤ i
  · by_cases h1 : i < xs.length
    · go_wp2
      go_ret
      exact ⟨by rw [show has xs i = true from decide_eq_true (by omega)]; rfl, rfl⟩
    · go_wp2
      go_ret
      exact ⟨by rw [show has xs i = false from decide_eq_false (by omega)]; rfl, rfl⟩
  · go_wp2
    go_ret
    exact ⟨by rw [show has xs i = false from decide_eq_false (by omega)]; rfl, rfl⟩

set_option maxRecDepth 100000 in
set_option maxHeartbeats 1000000 in
theorem refpush_full (X : Star w0 w (colR 71 p xs m :: L)) (v : Value) (ys : List Int) (hr : Ints w v ys) (hm : 0 ≤ m ∧ m ≤ 9223372036854775807) (hy : ys.length ≤ 1000) (hx : xs.length ≤ 1000000) (hfull : m - xs.length < ys.length) :
    Calls Tryd.prog 47 #[.pointer (some ⟨p, 0, none⟩), v] w fun r w' => r = .returned (.int .i64 2) ∧ Star w0 w' (colR 71 p xs m :: L) := by
  obtain ⟨i0, hi, hz0, hz1, hz2⟩ := info_parts ColI.info
  obtain ⟨av, cv, rfl⟩ := hr.slice
  obtain ⟨a, c, c0, c1, cf, hl, hi0, -⟩ := ref_facts X
  have HI : Hid (Reads w (.slice a xs.length c) xs.length 1 (iv xs)) := hid hi0
  have HR : Hid (Reads w (.slice av ys.length cv) ys.length 1 (iv ys)) := hid hr
  have H := hid X
  have hf0 := cf 0
  obtain ⟨n, hn⟩ : ∃ n, n = xs.length := ⟨_, rfl⟩
  obtain ⟨l, hl'⟩ : ∃ l, l = ys.length := ⟨_, rfl⟩
  simp only [← hn, ← hl'] at HI HR c0 hy hx hfull ⊢
  have HN := hid hn
  have HL := hid hl'
  clear X hr hi0 hn hl' cf
  go_enter Tryd.func47, Tryd.ntmps47
  have hw : IntKind.i64.wrap (m - (n : Int)) = m - (n : Int) := IntWalk.i64_in _ (by omega)
  have hd : decide (m - (n : Int) < (l : Int)) = true := by simpa using hfull
  go_wp2
  go_quiet (fail)
  go_wp2
  go_ret
  exact ⟨rfl, H.out.go ((Chg.refl _).drewN _)⟩

set_option maxRecDepth 100000 in
set_option maxHeartbeats 1000000 in
theorem refpush_ok (X : Star w0 w (colR 71 p xs m :: L)) (v : Value) (ys : List Int) (hr : Ints w v ys) (hm : 0 ≤ m ∧ m ≤ 9223372036854775807) (hy : ys.length ≤ 1000) (hx : xs.length ≤ 1000000) (hfull : ¬ m - xs.length < ys.length) :
    Calls Tryd.prog 47 #[.pointer (some ⟨p, 0, none⟩), v] w fun r w' => r = .returned (.int .i64 0) ∧ Star w0 w' (colR 71 p (xs ++ ys) m :: L) := by
  obtain ⟨i0, hi, hz0, hz1, hz2⟩ := info_parts ColI.info
  obtain ⟨av, cv, rfl⟩ := hr.slice
  obtain ⟨a, c, c0, c1, cf, hl, hi0, -⟩ := ref_facts X
  have HI : Hid (Reads w (.slice a xs.length c) xs.length 1 (iv xs)) := hid hi0
  have HR : Hid (Reads w (.slice av ys.length cv) ys.length 1 (iv ys)) := hid hr
  have H := hid X
  have hf0 := cf 0
  obtain ⟨n, hn⟩ : ∃ n, n = xs.length := ⟨_, rfl⟩
  obtain ⟨l, hl'⟩ : ∃ l, l = ys.length := ⟨_, rfl⟩
  simp only [← hn, ← hl'] at HI HR c0 hy hx hfull ⊢
  have HN := hid hn
  have HL := hid hl'
  clear X hr hi0 hn hl' cf
  go_enter Tryd.func47, Tryd.ntmps47
  have hw : IntKind.i64.wrap (m - (n : Int)) = m - (n : Int) := IntWalk.i64_in _ (by omega)
  have hd : decide (m - (n : Int) < (l : Int)) = false := by simpa using hfull
  go_wp2
  go_quiet (fail)
  have hs : Same w (w.drewN nq) := (Chg.refl _).drewN _
  have d0 := hs.keep c0
  have dl : p < (w.drewN nq).heap.size := Nat.lt_of_lt_of_le hl hs.size
  have H2 := hid (H.out.go hs)
  have HI2 := hid (HI.out.same hs)
  have HR2 := hid (HR.out.same hs)
  generalize w.drewN nq = wd at *
  clear c0 c1 hl hf0 H HI HR hs hd hw
  go_wp2_with (first
    | (at_builtin; refine wpList_app rfl (.tmp 19) (.tmp 23) 23 rfl 3 i0 (.int .i64 0) 1 8 Tryd.underlying23 hi hz0 hz1 hz2 rfl (by decide) _ 0 [] rfl (World.ownsRow_lit wd #[] 0 (Nat.zero_le _) (by unfold maxLen; omega) rfl) a n c (iv xs) rfl (HI2.out.same ((Chg.refl _).alloc _)) (iv_one xs) (by omega) (by omega) ?_; rw [Nat.zero_add, List.nil_append]; intro a1 c1 w1 ho1 hg1 hn1; have S1 := hid (show Same wd w1 from ((Chg.refl _).alloc _).grown hg1 (fun k e f => by have e' : wd.heap.size = k := Option.some.inj e; omega)); have N1 := hid (show After wd (.slice a1 n c1) by intro k hk; rcases hn1 with e | e; (have hk2 := hk; rw [e] at hk2; have e' : wd.heap.size = k := Option.some.inj hk2; omega); (have := e k hk; simp at this; omega)); have O1 := hid ho1; have d1 := S1.out.keep d0; have dl1 : p < w1.heap.size := Nat.lt_of_lt_of_le dl S1.out.size; clear ho1 hg1 hn1)
    | (at_builtin; refine wpList_app rfl (.tmp 24) (.tmp 25) 23 rfl 3 i0 (.int .i64 0) 1 8 Tryd.underlying23 hi hz0 hz1 hz2 rfl (by decide) _ n (iv xs) rfl O1.out av l cv (iv ys) rfl (HR2.out.same S1.out) (iv_one ys) (by omega) (by omega) ?_; intro a2 c2 w2 ho2 hg2 hn2; have S2 := hid (show Same wd w2 from S1.out.grown hg2 (fun k e f => by have := N1.out k e; omega)); have N2 := hid (show After wd (.slice a2 (n + l) c2) by intro k hk; rcases hn2 with e | e; (have hk2 := hk; rw [e] at hk2; exact N1.out k hk2); (have := e k hk; have := S1.out.size; omega)); have O2 := hid ho2; have d2 := S2.out.keep d0; have dl2 : p < w2.heap.size := Nat.lt_of_lt_of_le dl S2.out.size; clear ho2 hg2 hn2 d1 dl1; obtain ⟨v0, hcol, -, -⟩ := colR_step H2.out; have hf2 := free_of (S2.out.heap hcol.blk (fun f => f)) 0; clear hcol))
  obtain ⟨v, h, -, h3⟩ := colR_step H2.out
  have hst := h.store (v' := .slice a2 (n + l) c2) (xs' := iv (xs ++ ys)) (S2.out.mono (fun _ _ f => f.elim)) (by have := O2.out; rw [← iv_append] at this; rw [iv_len, List.length_append, ← HN.out, ← HL.out]; exact this) (.inr N2.out)
  have F := hid (h3 _ _ _ _ hst.1 hst.2 (.inr N2.out))
  clear hst h h3
  go_ret
  exact ⟨rfl, F.out⟩

theorem out_get (xs : List Int) (i k : Nat) (x y : Int) (n : Nat) (hn : xs.length = n + 1) (hk : k < n) (hx : xs[k]? = some x) (hy : xs[n]? = some y) : (takeOut xs i).take (k + 1) = (takeOut xs i).take k ++ [if k = i then y else x] := by
  have hl : (takeOut xs i) = (xs.set i y).dropLast := by
    unfold takeOut
    rw [List.getLast?_eq_getElem?, hn, Nat.add_sub_cancel, hy]
  have hlen : k < (takeOut xs i).length := by rw [hl]; simp [hn]; exact hk
  rw [List.take_succ_eq_append_getElem hlen]
  congr 2
  have : (takeOut xs i)[k]? = some (if k = i then y else x) := by
    rw [hl, List.getElem?_dropLast, if_pos (by simp [hn]; exact hk), List.getElem?_set]
    by_cases e : i = k
    · rw [if_pos e, if_pos (by omega), if_pos e.symm]
    · rw [if_neg e, if_neg (fun h => e h.symm)]; exact hx
  exact (List.getElem?_eq_some_iff.1 this).2
theorem out_len (xs : List Int) (i n : Nat) (hn : xs.length = n + 1) : (takeOut xs i).length = n := by
  unfold takeOut
  rw [List.getLast?_eq_getElem?, hn, Nat.add_sub_cancel, List.getElem?_eq_getElem (by omega)]
  simp [hn]

set_option maxRecDepth 100000 in
theorem reftake_out (X : Star w0 w (colR 71 p xs m :: L)) (i : Int) (hi : has xs i = false) :
    Calls Tryd.prog 52 #[.pointer (some ⟨p, 0, none⟩), .int .i64 i] w fun r w' => r = .returned (.tuple #[.int .i64 0, .int .i64 1]) ∧ Star w0 w' (colR 71 p xs m :: L) := by
  have H := hid X
  have HI := hid hi
  clear X hi
  go_enter Tryd.func52, Tryd.ntmps52
  go_wp2_with (go_at_call 50; refine (has_any H.out i).mono ?_; rintro r w' ⟨rfl, rfl⟩; rw [HI.out])
  go_ret2
  exact ⟨rfl, H.out⟩

set_option maxRecDepth 100000 in
set_option maxHeartbeats 2000000 in
theorem reftake_in (X : Star w0 w (colR 71 p xs m :: L)) (i : Nat) (x : Int) (hx : xs[i]? = some x) (hlx : xs.length ≤ 1000000) :
    Calls Tryd.prog 52 #[.pointer (some ⟨p, 0, none⟩), .int .i64 i] w fun r w' => r = .returned (.tuple #[.int .i64 x, .int .i64 0]) ∧ Star w0 w' (colR 71 p (takeOut xs i) m :: L) := by
  obtain ⟨i0, hi, hz0, hz1, hz2⟩ := info_parts ColI.info
  have hix := (List.getElem?_eq_some_iff.1 hx).1
  obtain ⟨a, c, c0, c1, cf, hl, hi0, -⟩ := ref_facts X
  obtain ⟨b, off, cap, e1, hb, hcl⟩ := hi0.open (by omega)
  cases e1
  have g0 := hcl i _ (iv_get xs i x hx)
  obtain ⟨n, hn⟩ : ∃ n, xs.length = n + 1 := ⟨xs.length - 1, by omega⟩
  have hh : Hid (has xs i = true) := hid (decide_eq_true (by omega))
  have hcap : n + 1 ≤ c := by
    obtain ⟨v, h, _⟩ := colR_step X
    have h1 := h.c0
    rw [c0] at h1
    have h2 := h.own
    rw [← Option.some.inj h1, iv_len] at h2
    have := own_cap h2
    omega
  obtain ⟨y, hy⟩ : ∃ y, xs[n]? = some y := ⟨xs[n]'(by omega), by simp⟩
  have g1 := hcl n _ (iv_get xs n y hy)
  have H := hid X
  have HCL := hid hcl
  have HN := hid hn
  have HY := hid hy
  have HX := hid hx
  rw [hn] at c0 hix hlx
  have hf0 := cf 0
  clear X hcl hy hx hi0 cf hn
  go_enter Tryd.func52, Tryd.ntmps52
  go_wp2_with (go_at_call 50; refine (has_any H.out i).mono ?_; rintro r w' ⟨rfl, rfl⟩; rw [hh.out])
  have Y0 := hid ((Star.new w).add (w' := w.alloc (.cells #[] 3)) ((Chg.refl _).alloc _) (R := Row 3 1 (.slice (some ⟨w.heap.size, 0, none⟩) 0 0) 0 (iv ((takeOut xs i).take 0))) ⟨World.ownsRow_lit w #[] 0 (Nat.zero_le _) (by unfold maxLen; omega) rfl, rfl⟩ (fun k h => by have e' : w.heap.size = k := Option.some.inj h; omega))
  have hw1 : IntKind.i64.wrap (((n + 1 : Nat) : Int) - 1) = (n : Int) := by rw [IntWalk.i64_in _ (by omega)]; omega
  have hw2 : (n : Int) ≤ (c : Int) := by omega
  go_quiet (fail)
  have Y1 := hid (Y0.out.go ((Chg.refl _).drewN nq))
  clear Y0 hh
  go_wp2
  go_loopw [7, 8, 9, 34] (fun v kx xx kv wr => ∃ k : Nat, k ≤ n ∧ kv = .int .i64 k ∧ Star w wr [Row 3 1 v k (iv ((takeOut xs i).take k))]) (fun _ _ _ kv _ => n - (intOf kv).toNat)
  case atStart => exact ⟨0, by omega, rfl, Y1.out⟩
  case round =>
    obtain ⟨k, hk, rfl, hY⟩ := hrel
    have Y := hid hY
    obtain ⟨av, cv, rfl, -⟩ := own_slice (hY.row 0 rfl).1
    have hs := hY.same
    have e0 := hs.keep c0
    have e1 := hs.keep g1
    have el : p < wr.heap.size := Nat.lt_of_lt_of_le hl hs.size
    have ebl : b < wr.heap.size := Nat.lt_of_lt_of_le hb hs.size
    clear hY Y1 hs
    by_cases hkn : k < n
    · obtain ⟨z, hz⟩ : ∃ z, xs[k]? = some z := ⟨xs[k]'(by have := HN.out; omega), by simp⟩
      have e2 := Y.out.keepCell (HCL.out k _ (iv_get xs k z hz))
      have OG := hid (out_get xs i k z y n HN.out hkn hz HY.out)
      have hrow := hid (Y.out.row 0 rfl).1
      clear hz
      by_cases hki : k = i
      · rw [if_pos hki] at OG
        subst hki
        go_wp2
        go_quiet (fail)
        have Y3 := hid (Y.out.go ((Chg.refl _).drewN nq))
        have hrow3 := hid (Y3.out.row 0 rfl).1
        clear hrow
        generalize wr.drewN nq = wy at *
        go_wp2_with (at_builtin; refine wpList_app rfl _ _ 23 rfl 3 i0 (.int .i64 0) 1 8 Tryd.underlying23 hi hz0 hz1 hz2 rfl (by decide) _ k (iv ((takeOut xs k).take k)) rfl (own_chg (S := fun _ => False) hrow3.out (by repeat (first | exact Chg.refl _ | refine Chg.drew ?_ | refine Chg.alloc _ ?_)) (fun _ _ f => f)) (some _) 1 1 [.int .i64 y] rfl (reads_blk (cs := #[.int .i64 y]) (E := 3) (f := (0, 0)) (by first | exact alloc_new _ _ | exact alloc2_new _ _ _) 1 1 1 rfl) (by intro u hu; simp at hu; subst hu; rfl) (by omega) (by omega) ?_; intro a7 c7 w7 ho7 hg7 hn7)
        have Y7 := hid ((Y3.out.go (by repeat (first | exact Chg.refl _ | refine Chg.drew ?_ | refine Chg.alloc _ ?_))).grown 0 rfl ho7 hg7 hn7)
        clear ho7 hg7 hn7 hrow3 Y Y3
        go_wp2
        go_roundw
        case rel =>
          refine ⟨k + 1, by omega, by go_num, ?_⟩
          rw [OG.out, iv_append]
          exact Y7.out
        case measure => simp [intOf]; omega
      · rw [if_neg hki] at OG
        go_wp2_with (at_builtin; refine wpList_app rfl _ _ 23 rfl 3 i0 (.int .i64 0) 1 8 Tryd.underlying23 hi hz0 hz1 hz2 rfl (by decide) _ k (iv ((takeOut xs i).take k)) rfl (own_chg (S := fun _ => False) hrow.out (by repeat (first | exact Chg.refl _ | refine Chg.drew ?_ | refine Chg.alloc _ ?_)) (fun _ _ f => f)) (some _) 1 1 [.int .i64 z] rfl (reads_blk (cs := #[.int .i64 z]) (E := 3) (f := (0, 0)) (by first | exact alloc_new _ _ | exact alloc2_new _ _ _) 1 1 1 rfl) (by intro u hu; simp at hu; subst hu; rfl) (by omega) (by omega) ?_; intro a7 c7 w7 ho7 hg7 hn7)
        have Y7 := hid ((Y.out.go (by repeat (first | exact Chg.refl _ | refine Chg.drew ?_ | refine Chg.alloc _ ?_))).grown 0 rfl ho7 hg7 hn7)
        clear ho7 hg7 hn7 hrow Y
        go_wp2
        go_roundw
        case rel =>
          refine ⟨k + 1, by omega, by go_num, ?_⟩
          rw [OG.out, iv_append]
          exact Y7.out
        case measure => simp [intOf]; omega
    · have hke : k = n := by omega
      have hto : (takeOut xs i).take k = takeOut xs i := List.take_of_length_le (by have := out_len xs i n HN.out; omega)
      have hrow := Y.out.row 0 rfl
      rw [hto] at hrow
      subst hke
      have hlo := out_len xs i k HN.out
      obtain ⟨v, h, -, h3⟩ := colR_step H.out
      have hst := h.store (v' := .slice av k cv) (xs' := iv (takeOut xs i)) (Y.out.same.mono (fun _ _ f => f.elim)) (by have := hrow.1; rwa [iv_len, hlo]) (.inr (fun q hq => hrow.2 q hq))
      have hf2 := free_of (Y.out.same.heap h.blk (fun f => f)) 0
      have F := hid (h3 _ _ _ _ hst.1 hst.2 (.inr (fun q hq => hrow.2 q hq)))
      clear hst h h3 hrow hto hlo
      go_wp2
      go_ret2
      exact ⟨rfl, F.out⟩
end
end Go.Proofs.YtkjecihiipjngaaDoor.ColR
