/-
  FieldMore: the texts Route, RouteRun, RouteCosts, CloneB, StepClone, joined.
-/
import Derived.Test.YtilobedihjkpjaaDoorFieldMoreQ5
import Derived.Test.YtilobedihjkpjaaDoorFieldMoreQ7
import Derived.Test.YtilobedihjkpjaaDoorProg
import Derived.Test.YtilobedihjkpjaaDoorFieldMoreQ2

/-
  The finder of costs: reach.
-/
namespace Go.Proofs.YtilobedihjkpjaaDoor.Route
open Go Go.RowKit Go.Proofs.YtilobedihjkpjaaDoor.Hp

/-- A finder's block: the ground's, the heap's, the costs. -/
abbrev finC (p h g n cc : Nat) : Array Value := #[.pointer (some ⟨p, 0, none⟩), .pointer (some ⟨h, 0, none⟩), .slice (some ⟨g, 0, none⟩) n cc]
abbrev costR (g n cc : Nat) (c : List Int) : Res := Row 3 1 (.slice (some ⟨g, 0, none⟩) n cc) n (c.map (Value.int .i64))
section
variable {w0 w : World} {L : List Res} {f p h g n cc : Nat} {c : List Int} {es : List (Int × Int)}
theorem cost_len (X : Star w0 w (Blk f (finC p h g n cc) 150 :: heapR h es :: costR g n cc c :: L)) : c.length = n := by
  have := (X.row 2 rfl).1.1
  simpa using this
theorem cost_cell (X : Star w0 w (Blk f (finC p h g n cc) 150 :: heapR h es :: costR g n cc c :: L)) (t : Nat) (ht : t < n) : w.cell? ⟨g, t, none⟩ = some (.int .i64 (cAt c t)) ∧ w.frozen? ⟨g, t, none⟩ = false ∧ g < w.heap.size ∧ ¬ f = g ∧ ¬ g = f := by
  have hl := cost_len X
  have hr := (X.row 2 rfl).1
  obtain ⟨n1, n2⟩ := X.neBR 0 2 rfl rfl (by omega)
  exact ⟨(hr.cellAt t (by omega)).trans (by rw [List.getElem?_map, cAt_get (by omega)]; rfl), hr.frozenAt t, (hr.lt g rfl).2, n1, n2⟩
theorem fin_cells (X : Star w0 w (Blk f (finC p h g n cc) 150 :: heapR h es :: costR g n cc c :: L)) : w.cell? ⟨f, 0, none⟩ = some (.pointer (some ⟨p, 0, none⟩)) ∧ w.cell? ⟨f, 1, none⟩ = some (.pointer (some ⟨h, 0, none⟩)) ∧ w.cell? ⟨f, 2, none⟩ = some (.slice (some ⟨g, 0, none⟩) n cc) ∧ f < w.heap.size := by
  have hb := (X.blk 0 rfl).1
  exact ⟨cell_of hb 0, cell_of hb 1, cell_of hb 2, lt_of hb⟩

set_option maxRecDepth 100000 in
theorem reach_no (X : Star w0 w (Blk f (finC p h g n cc) 150 :: heapR h es :: costR g n cc c :: L)) (t : Nat) (k : Int) (ht : t < n) (h1 : cAt c t ≠ -1) (h2 : cAt c t ≤ k) :
    Calls Tryd.prog 91 #[.pointer (some ⟨f, 0, none⟩), .int .i64 t, .int .i64 k] w fun r w' => r = .returned .nilIface ∧ w = w' := by
  obtain ⟨c0, c1, c2, cl⟩ := fin_cells X
  obtain ⟨e0, -, gl, -, -⟩ := cost_cell X t ht
  generalize cAt c t = x at *
  have h1' : (x != -1) = true := by simpa using h1
  clear X h1
  go_enter Tryd.func91, Tryd.ntmps91
  go_wp2
  go_ret
  exact ⟨rfl, rfl⟩

set_option maxRecDepth 100000 in
set_option maxHeartbeats 1000000 in
theorem reach_yes (X : Star w0 w (Blk f (finC p h g n cc) 150 :: heapR h es :: costR g n cc c :: L)) (t : Nat) (k : Int) (ht : t < n) (h1 : cAt c t = -1 ∨ k < cAt c t) (hf : 1 + es.length ≤ 16384) :
    Calls Tryd.prog 91 #[.pointer (some ⟨f, 0, none⟩), .int .i64 t, .int .i64 k] w fun r w' => r = .returned .nilIface ∧ ∃ es', es'.Perm (es ++ [(k, (t : Int))]) ∧ Star w0 w' (Blk f (finC p h g n cc) 150 :: heapR h es' :: costR g n cc (c.set t k) :: L) := by
  obtain ⟨c0, c1, c2, cl⟩ := fin_cells X
  obtain ⟨e0, ef, gl, n1, n2⟩ := cost_cell X t ht
  have hY := X.store 2 rfl t (.int .i64 k)
  simp only [List.set_cons_succ, List.set_cons_zero] at hY
  rw [← List.map_set] at hY
  have Y := hid hY
  have hA0 := (hY.alloc #[.int .i64 k, .int .i64 t] 172).pull 2 rfl
  rw [show (w.setCell ⟨g, t, none⟩ (.int .i64 k)).heap.size = w.heap.size by simp [World.setCell]] at hA0
  have hA := hid hA0
  clear X hY hA0
  generalize cAt c t = x at *
  go_enter Tryd.func91, Tryd.ntmps91
  by_cases hx : x = -1
  · have h1' : (x != -1) = false := by rw [hx]; rfl
    clear hx h1
    go_wp2_with fail
    refine (heap_push hA.out hf).mono ?_
    rintro r w' ⟨rfl, es', hp, hX⟩
    have HP := hid hp
    have HX := hid (hX.swap.drop.swap)
    clear hX hp hA Y
    go_wp2
    go_ret
    exact ⟨rfl, es', HP.out, HX.out⟩
  · have h1' : (x != -1) = true := by simpa using hx
    have h2 : k < x := by omega
    clear hx h1
    go_wp2_with fail
    refine (heap_push hA.out hf).mono ?_
    rintro r w' ⟨rfl, es', hp, hX⟩
    have HP := hid hp
    have HX := hid (hX.swap.drop.swap)
    clear hX hp hA Y
    go_wp2
    go_ret
    exact ⟨rfl, es', HP.out, HX.out⟩
end
end Go.Proofs.YtilobedihjkpjaaDoor.Route

/-
  The finder of costs: run.
-/
namespace Go.Proofs.YtilobedihjkpjaaDoor
/-- The least of the numbers of which something is told. -/
theorem exMin (P : Nat → Prop) (h : ∃ n, P n) : ∃ n, P n ∧ ∀ k, P k → n ≤ k := by
  obtain ⟨n, hn⟩ := h
  induction n using Nat.strongRecOn with
  | _ n ih =>
    by_cases hx : ∃ k, k < n ∧ P k
    · obtain ⟨k, h1, h2⟩ := hx; exact ih k h1 h2
    · exact ⟨n, hn, fun k hk => by
        by_cases hl : k < n
        · exact absurd ⟨k, hl, hk⟩ hx
        · omega⟩
noncomputable def leastN (P : Nat → Prop) : Nat := @dite _ (∃ n, P n) (Classical.propDecidable _) (fun h => Classical.choose (exMin P h)) (fun _ => 0)
theorem leastN_spec {P : Nat → Prop} (h : ∃ n, P n) : P (leastN P) := by
  unfold leastN; rw [dif_pos h]; exact (Classical.choose_spec (exMin P h)).1
theorem leastN_le {P : Nat → Prop} {n : Nat} (h : P n) : leastN P ≤ n := by
  unfold leastN; rw [dif_pos ⟨n, h⟩]; exact (Classical.choose_spec (exMin P ⟨n, h⟩)).2 n h
end Go.Proofs.YtilobedihjkpjaaDoor
namespace Go.Proofs.YtilobedihjkpjaaDoor.Route
open Go Go.RowKit Go.Proofs.YtilobedihjkpjaaDoor.Hp Go.Proofs.YtilobedihjkpjaaDoor.Steps

/-- What the finder's loop keeps: at most m entries and tiles are still to come. -/
def RunI (w0 : World) (L : List Res) (G : Gr) (gs : List Nat) (f p h g n cc : Nat) (w : World) (m : Nat) : Prop :=
  ∃ (c : List Int) (es : List (Int × Int)) (D : List Nat) (k : Int), Star w0 w (Blk f (finC p h g n cc) 150 :: heapR h es :: costR g n cc c :: L) ∧ Dij G gs gs (fun _ _ => True) c es D k ∧ es.length + 8 * (n - D.length) ≤ m ∧ m ≤ 8 + 8 * n ∧ (∀ e ∈ es, e.1 ≤ 14 * D.length) ∧ k ≤ 14 * D.length
/-- .. and the loop over a tile's steps. -/
def StepI (G : Gr) (gs : List Nat) (D : List Nat) (t : Nat) (k : Int) (n m j : Nat) (c : List Int) (es : List (Int × Int)) : Prop :=
  Dij G gs gs (fun u s => u ≠ t ∨ s ∈ (G.around t).take j) c es (t :: D) k ∧ cAt c t = k ∧ es.length + 8 * (n - (D.length + 1)) + 9 ≤ m + j ∧ ∀ e ∈ es, e.1 ≤ 14 * (D.length + 1)

section
variable {G : Gr} {gs : List Nat} {D : List Nat} {t : Nat} {k : Int} {n m j : Nat} {c : List Int} {es es' : List (Int × Int)} {s : Gr.St}
theorem StepI.pass (h : StepI G gs D t k n m j c es) (hs : (G.around t)[j]? = some s) (h1 : cAt c s.to ≠ -1) (h2 : cAt c s.to ≤ k + s.c) : StepI G gs D t k n m (j + 1) c es := by
  obtain ⟨a, b, d, e⟩ := h
  obtain ⟨hj, hs'⟩ := List.getElem?_eq_some_iff.1 hs
  refine ⟨a.pass (fun u _ s' _ hq => ?_), b, by omega, e⟩
  rcases hq with hq | hq
  · exact .inl (.inl hq)
  · by_cases hut : u = t
    · subst hut
      rw [List.take_succ_eq_append_getElem hj, List.mem_append] at hq
      rcases hq with hq | hq
      · exact .inl (.inr hq)
      · simp only [List.mem_singleton] at hq
        subst hq
        rw [hs']
        have := a.low s.to
        exact .inr ⟨by omega, by rw [b]; exact h2⟩
    · exact .inl (.inl hut)
theorem StepI.yes (hG : G.Ok) (h : StepI G gs D t k n m j c es) (hk : k ≤ 14 * D.length) (hs : (G.around t)[j]? = some s) (hlt : cAt c s.to = -1 ∨ k + s.c < cAt c s.to) (hp : es'.Perm (es ++ [(k + s.c, (s.to : Int))])) :
    StepI G gs D t k n m (j + 1) (c.set s.to (k + s.c)) es' := by
  obtain ⟨a, b, d, e⟩ := h
  have hm := List.mem_of_getElem? hs
  have hpos := Gr.go_pos (Gr.mem_around.1 hm)
  obtain ⟨a1, a2, a3, a4⟩ := a.along hG (t := t) (s := s) List.mem_cons_self b hm hlt
  have hst := cAt_set c s.to s.to (k + s.c) a2
  rw [if_pos rfl] at hst
  have hlen := hp.length_eq
  simp only [List.length_append, List.length_singleton] at hlen
  have h0 := a3.inD t List.mem_cons_self
  have h3 : StepI G gs D t k n (m + 1) j (c.set s.to (k + s.c)) es' := ⟨a3.perm hp, a4, by omega, fun x hx => by
    have := hp.subset hx
    rw [List.mem_append] at this
    rcases this with hx | hx
    · exact e x hx
    · simp only [List.mem_singleton] at hx; subst hx; simp only; omega⟩
  have h4 := h3.pass hs (by rw [hst]; omega) (by rw [hst]; exact Int.le_refl _)
  obtain ⟨b1, b2, b3, b4⟩ := h4
  exact ⟨b1, b2, by omega, b4⟩
theorem StepI.done {w0 w : World} {L : List Res} {f p h g cc : Nat} (hI : StepI G gs D t k n m j c es) (hj : (G.around t).length ≤ j) (hj8 : j ≤ 8) (hm : m ≤ 8 + 8 * n) (hk : k ≤ 14 * D.length)
    (X : Star w0 w (Blk f (finC p h g n cc) 150 :: heapR h es :: costR g n cc c :: L)) : RunI w0 L G gs f p h g n cc w (m - 1) := by
  obtain ⟨a, b, d, e⟩ := hI
  refine ⟨c, es, t :: D, k, X, a.pass (fun u _ s hs _ => ?_), by rw [List.length_cons]; omega, by omega, fun x hx => by have := e x hx; rw [List.length_cons]; omega, by rw [List.length_cons]; omega⟩
  by_cases hut : u = t
  · subst hut; exact .inl (.inr (by rw [List.take_of_length_le hj]; exact hs))
  · exact .inl (.inl hut)
end
theorem RunI.go {w0 w w' : World} {L : List Res} {G : Gr} {gs : List Nat} {f p h g n cc m : Nat} (hR : RunI w0 L G gs f p h g n cc w m) (hs : Same w w') : RunI w0 L G gs f p h g n cc w' m := by
  obtain ⟨c, es, D, k, h1, h2⟩ := hR
  exact ⟨c, es, D, k, h1.go hs, h2⟩

set_option maxRecDepth 100000 in
set_option maxHeartbeats 8000000 in
theorem run_any {w0 w : World} {L : List Res} {G : Gr} {gs : List Nat} {f p pg pc h g n cc m : Nat} (hG : Gnd 92 w0 p pg pc G) (hn : n = G.fs.length) (hR : RunI w0 L G gs f p h g n cc w m) :
    Calls Tryd.prog 92 #[.pointer (some ⟨f, 0, none⟩)] w fun r w' => r = .returned .nilIface ∧ ∃ c es, Least G gs c ∧ (∀ t, cAt c t ≤ 14 * n) ∧ Star w0 w' (Blk f (finC p h g n cc) 150 :: heapR h es :: costR g n cc c :: L) := by
  have HG := hid hG
  have hN := hG.ok.max
  have HN := hid hn
  rw [← hn] at hN
  have HR := hid hR
  clear hG hn hR
  go_enter Tryd.func92, Tryd.ntmps92
  go_wp2_with fail
  go_loopw [4] (fun _ wr => ∃ m, RunI w0 L G gs f p h g n cc wr m) (fun _ wr => leastN (RunI w0 L G gs f p h g n cc wr))
  case atStart => exact ⟨m, HR.out⟩
  case round =>
    have hm := leastN_spec hrel
    obtain ⟨m, hme⟩ : ∃ m, m = leastN (RunI w0 L G gs f p h g n cc wr) := ⟨_, rfl⟩
    rw [← hme] at hm
    have HME := hid hme
    clear hrel HR hme
    obtain ⟨c, es, D, k, hX, hD, hcnt, hm8, htop, hkD⟩ := hm
    have X := hid hX
    have HD := hid hD
    have HT := hid htop
    obtain ⟨c0, c1, c2, cl⟩ := fin_cells hX
    clear hX hD htop
    go_wp2_with fail
    refine (heap_len (X.out.pull 1 rfl)).mono ?_
    rintro r w' ⟨rfl, rfl⟩
    by_cases h0 : 0 < es.length
    · go_wp2_with fail
      refine (heap_pop (X.out.pull 1 rfl) h0 (by omega)).mono ?_
      rintro r w1 ⟨⟨k1, e2⟩, es1, rfl, hp, hle, hX1⟩
      have hD1 := HD.out.perm hp
      obtain ⟨hme1, t, ht2, ht0, htle, -⟩ := hD1.ent _ List.mem_cons_self
      simp only at ht2 htle hme1 hle
      subst ht2
      have htop1 := HT.out _ (hp.subset List.mem_cons_self)
      simp only at htop1
      have hes : es1.length + 1 = es.length := by have := hp.length_eq; simpa using this
      have hcard := HD.out.card
      rw [← HN.out] at hcard
      have htl : t < n := by have := cAt_in ht0; rwa [HD.out.len, ← HN.out] at this
      have hX2 := hX1.swap
      obtain ⟨d0, d1, d2, dl⟩ := fin_cells hX2
      obtain ⟨e0, -, gl, -, -⟩ := cost_cell hX2 t htl
      have HP := hid hp
      have HLE := hid hle
      have HD1 := hid hD1
      have X2 := hid hX2
      clear X hX1 hX2 hp hD1 hle hme1 c0 c1 c2 cl
      by_cases hst : cAt c t < k1
      · have HR2 : Hid (RunI w0 L G gs f p h g n cc w1 (m - 1)) := hid ⟨c, es1, D, k1, X2.out, HD1.out.stale rfl HLE.out hst, by omega, by omega, fun e he => HT.out e (HP.out.subset (List.mem_cons_of_mem _ he)), htop1⟩
        go_wp2
        go_quiet (fail)
        go_wp2
        go_roundw
        case rel => exact ⟨m - 1, HR2.out.go (((Chg.refl _).alloc _).drewN _)⟩
        case measure =>
          rw [← HME.out]
          exact Nat.lt_of_le_of_lt (leastN_le (HR2.out.go (((Chg.refl _).alloc _).drewN _))) (by omega)
      · obtain ⟨hnD, hck, hD2⟩ := HD1.out.valid rfl HLE.out hst
        simp only at hck hD2
        have hcard2 : D.length + 1 ≤ n := by have := hD2.card; rw [← HN.out] at this; simpa using this
        have hk0 : 0 ≤ k1 := by omega
        have X3 : Hid (Star w0 (w1.alloc (.cells #[.int .i64 k1, .int .i64 t] 172)) (Blk f (finC p h g n cc) 150 :: heapR h es1 :: costR g n cc c :: Blk w1.heap.size #[.int .i64 k1, .int .i64 t] 172 :: L)) := hid ((((X2.out.alloc #[.int .i64 k1, .int .i64 t] 172).pull 3 rfl).pull 3 rfl).pull 3 rfl)
        have HD2 : Hid (StepI G gs D t k1 n m 0 c es1) := hid ⟨hD2.pass (fun u _ s _ hq => .inl (by rcases hq with hq | hq; exact hq; simp at hq)), hck, by omega, fun e he => by have := HT.out e (HP.out.subset (List.mem_cons_of_mem _ he)); omega⟩
        rw [hck] at e0
        have hst' : ¬ k1 < k1 := by omega
        clear hst hD2 hck hnD X2
        go_wp2
        go_quiet (fail)
        have X4 := hid (X3.out.go ((Chg.refl _).drewN nq))
        clear X3 d0 d1 d2 dl e0 gl
        generalize (w1.alloc _).drewN nq = w4 at *
        generalize w1.heap.size = q at *
        obtain ⟨d0, d1, d2, dl⟩ := fin_cells X4.out
        have hbq := (X4.out.blk 3 rfl).1
        have q0 := cell_of hbq 0
        have q1 := cell_of hbq 1
        have ql := lt_of hbq
        simp only [List.getElem?_toArray, List.getElem?_cons_zero, List.getElem?_cons_succ] at q0 q1
        clear hbq
        go_wp2
        go_region_held3 (fun w' => w'.cell? ⟨f, 0, none⟩ = some (.pointer (some ⟨p, 0, none⟩)) ∧ w'.cell? ⟨q, 1, none⟩ = some (.int .i64 t)) (go_keep) ((go_at_call 15; refine (around_any ((HG.out.same X4.out.same).same ((Chg.refl _).drew)) _).mono ?_; rintro r w5 ⟨v, rfl, hY⟩; rw [Gr.aroundI_nat] at hY; obtain ⟨va, vc, rfl, -⟩ := own_slice (hY.row 0 rfl).1; have k0 := (hY.same.after' ((Chg.refl w4).drew)).keep d0; have k1' := (hY.same.after' ((Chg.refl w4).drew)).keep q1; have X5 := hid (((((X4.out.go ((Chg.refl _).drew)).lift hY).pull 3 rfl).pull 3 rfl).pull 3 rfl); clear hY))
        all_goals
          have hl8 : (G.around t).length ≤ 8 := by rw [← Gr.aroundI_nat]; exact Gr.aroundTo_len _ _ _
          obtain ⟨l, hl⟩ : ∃ l, l = G.around t := ⟨_, rfl⟩
          have HL := hid hl
          rw [← hl] at X5 hl8 ⊢
          have X6 : Hid (Star w0 w5 (Blk f (finC p h g n cc) 150 :: heapR h es1 :: costR g n cc c :: Row 47 3 (.slice va l.length vc) l.length (stCs l) :: Blk q #[.int .i64 k1, .int .i64 t] 172 :: L)) := X5
          clear X4 X5 d0 d1 d2 dl q0 q1 ql k0 k1' hl HD HD1 HT HLE HP
          go_wp2_with fail
          go_loopw [7, 44] (fun _ iv wr => ∃ (j : Nat) (c' : List Int) (es' : List (Int × Int)), j ≤ l.length ∧ iv = .int .i64 j ∧ StepI G gs D t k1 n m j c' es' ∧ Star w0 wr (Blk f (finC p h g n cc) 150 :: heapR h es' :: costR g n cc c' :: Row 47 3 (.slice va l.length vc) l.length (stCs l) :: Blk q #[.int .i64 k1, .int .i64 t] 172 :: L)) (fun _ iv _ => l.length - (intOf iv).toNat)
          case atStart => exact ⟨0, c, es1, by omega, rfl, HD2.out, X6.out⟩
          case round =>
            obtain ⟨j, c', es', hj, rfl, hI, hX⟩ := hrel
            have HI := hid hI
            have X := hid hX
            clear hI hX HD2 X6
            by_cases hjl : j < l.length
            · obtain ⟨s, hs⟩ : ∃ s, l[j]? = some s := ⟨_, List.getElem?_eq_getElem hjl⟩
              have hrow := (X.out.row 3 rfl).1
              obtain ⟨gs3, cs3, e3⟩ := own_shape hrow (by omega)
              cases e3
              have s0 : wr.cell? ⟨gs3, j * 3, none⟩ = some (.int .i64 s.d) := (hrow.cellAt (j * 3) (by omega)).trans ((rows_get stC stC_len l j 0 s hs (by omega)).trans rfl)
              have s1 : wr.cell? ⟨gs3, j * 3 + 1, none⟩ = some (.int .i64 s.to) := (hrow.cellAt (j * 3 + 1) (by omega)).trans ((rows_get stC stC_len l j 1 s hs (by omega)).trans rfl)
              have s2 : wr.cell? ⟨gs3, j * 3 + 2, none⟩ = some (.int .i64 s.c) := (hrow.cellAt (j * 3 + 2) (by omega)).trans ((rows_get stC stC_len l j 2 s hs (by omega)).trans rfl)
              have sl := (hrow.lt gs3 rfl).2
              have hbq := (X.out.blk 4 rfl).1
              have q0 := cell_of hbq 0
              have q1 := cell_of hbq 1
              have ql := lt_of hbq
              simp only [List.getElem?_toArray, List.getElem?_cons_zero, List.getElem?_cons_succ] at q0 q1
              have hpos := Gr.go_pos (Gr.mem_around.1 (show s ∈ G.around t by rw [← HL.out]; exact List.mem_of_getElem? hs))
              have hto : s.to < n := by
                have := Gr.free_in (Gr.go_end HG.out.ok (Gr.mem_around.1 (show s ∈ G.around t by rw [← HL.out]; exact List.mem_of_getElem? hs))).1
                rwa [← HN.out] at this
              have hS := hid (show (G.around t)[j]? = some s by rw [← HL.out]; exact hs)
              have hcnt' : es'.length ≤ 8 * n + 8 := by have := HI.out.2.2.1; omega
              obtain ⟨sd, sto, sc⟩ := s
              dsimp only at s0 s1 s2 hpos hto
              have XA := hid ((((X.out.alloc #[.int .i64 sd, .int .i64 sto, .int .i64 sc] 47).pull 3 rfl).pull 3 rfl).pull 3 rfl)
              clear hrow hbq hs
              by_cases hno : cAt c' sto ≠ -1 ∧ cAt c' sto ≤ k1 + sc
              · have HI2 := hid (HI.out.pass hS.out hno.1 hno.2)
                go_wp2_with fail
                refine (reach_no XA.out sto (k1 + sc) hto hno.1 hno.2).mono ?_
                rintro r w7 ⟨rfl, rfl⟩
                have X8 := hid (((XA.out.pull 3 rfl).drop))
                clear XA hno s0 s1 s2 q0 q1
                go_wp2
                go_roundw
                case rel => exact ⟨j + 1, c', es', by omega, by go_num, HI2.out, X8.out⟩
                case measure => simp [intOf]; omega
              · have hyes : cAt c' sto = -1 ∨ k1 + sc < cAt c' sto := by omega
                go_wp2_with fail
                refine (reach_yes XA.out sto (k1 + sc) hto hyes (by omega)).mono ?_
                rintro r w7 ⟨rfl, es7, hp7, hX7⟩
                have HI2 := hid (HI.out.yes HG.out.ok (by omega) hS.out hyes hp7)
                have X8 := hid (((hX7.pull 3 rfl).drop))
                clear XA hno hyes hX7 hp7 s0 s1 s2 q0 q1
                go_wp2
                go_roundw
                case rel => exact ⟨j + 1, _, es7, by omega, by go_num, HI2.out, X8.out⟩
                case measure => simp [intOf]; omega
            · have HR3 : Hid (RunI w0 L G gs f p h g n cc wr (m - 1)) := hid (HI.out.done (by rw [← HL.out]; omega) (by omega) hm8 htop1 ((X.out.pull 3 rfl).drop.pull 3 rfl).drop)
              go_wp2
              go_roundw
              case rel => exact ⟨m - 1, HR3.out⟩
              case measure =>
                rw [← HME.out]
                exact Nat.lt_of_le_of_lt (leastN_le HR3.out) (by omega)
    · have hes : es = [] := List.eq_nil_of_length_eq_zero (by omega)
      subst hes
      go_wp2
      go_ret
      refine ⟨rfl, c, [], HD.out.done HG.out.ok, fun t => ?_, X.out⟩
      have hc := HD.out.card
      rw [← HN.out] at hc
      rcases HD.out.low t with h | h
      · omega
      · by_cases ht : t ∈ D
        · have := (HD.out.inD t ht).2; omega
        · have := HD.out.pend t ht h; simp at this
end Go.Proofs.YtilobedihjkpjaaDoor.Route

/-
  route.Costs: the least costs to goals.
-/
namespace Go.Proofs.YtilobedihjkpjaaDoor.Route
open Go Go.RowKit Go.Proofs.YtilobedihjkpjaaDoor.Hp Go.Proofs.YtilobedihjkpjaaDoor.Steps

/-- Whole numbers as cells. -/
def gC (l : List Nat) : List Value := l.map (fun (t : Nat) => Value.int .i64 (t : Int))
/-- Costs, of which the first k are none. -/
def noC (n k : Nat) : List Int := (List.range n).map fun i => if i < k then -1 else 0
theorem noC_len (n k : Nat) : (noC n k).length = n := by simp [noC]
theorem noC_set (n k : Nat) : (noC n k).set k (-1) = noC n (k + 1) := by
  unfold noC
  apply List.ext_getElem
  · simp
  · intro j h1 h2
    simp only [List.getElem_set, List.getElem_map, List.getElem_range]
    by_cases e : k = j
    · subst e; simp
    · rw [if_neg e]
      by_cases h : j < k
      · rw [if_pos h, if_pos (by omega)]
      · rw [if_neg h, if_neg (by omega)]
theorem noC_at (n t : Nat) : cAt (noC n n) t = -1 := by
  unfold cAt noC
  rw [List.getD_eq_getElem?_getD, List.getElem?_map]
  by_cases h : t < n
  · simp [h]
  · rw [List.getElem?_eq_none (by simp; omega)]; rfl
theorem noC_zero (n : Nat) : (noC n 0).map (Value.int .i64) = List.replicate n (.int .i64 0) := by
  apply List.ext_getElem
  · simp [noC]
  · intro j h1 h2; simp [noC]
theorem made_zeros (n : Nat) : (madeCells (Value.int .i64 0).cells (n * 1)).toList = List.replicate n (.int .i64 0) := by
  apply List.ext_getElem
  · simp [madeCells]
  · intro j h1 h2; simp [madeCells, Value.cells, Nat.mod_one]
theorem infoInt : (Tryd.prog.info? 3).map (fun i => (i.zero, i.size, i.bytes)) = some (some (.int .i64 0), 1, 8) := by kernel_rfl

/-- What the loop over the goals keeps. -/
def GoalI (G : Gr) (gs : List Nat) (j : Nat) (c : List Int) (es : List (Int × Int)) : Prop :=
  Dij G gs (gs.take j) (fun _ _ => True) c es [] 0 ∧ es.length ≤ j ∧ ∀ e ∈ es, e.1 ≤ 0
section
variable {G : Gr} {gs : List Nat} {j t : Nat} {c : List Int} {es es' : List (Int × Int)}
theorem GoalI.pass (h : GoalI G gs j c es) (ht : gs[j]? = some t) (hf : G.free t = false ∨ (cAt c t ≠ -1 ∧ cAt c t ≤ 0)) : GoalI G gs (j + 1) c es := by
  obtain ⟨a, b, d⟩ := h
  obtain ⟨hj, e⟩ := List.getElem?_eq_some_iff.1 ht
  refine ⟨?_, by omega, d⟩
  rw [List.take_succ_eq_append_getElem hj, e]
  refine a.goalMore (fun h => ?_)
  rcases hf with hf | hf
  · rw [h] at hf; cases hf
  · have := a.low t; omega
theorem GoalI.yes (h : GoalI G gs j c es) (ht : gs[j]? = some t) (hf : G.free t = true) (hl : cAt c t = -1 ∨ 0 < cAt c t) (hp : es'.Perm (es ++ [(0, (t : Int))])) : GoalI G gs (j + 1) (c.set t 0) es' := by
  obtain ⟨a, b, d⟩ := h
  obtain ⟨hj, e⟩ := List.getElem?_eq_some_iff.1 ht
  have hl2 : t < c.length := by rw [a.len]; exact Gr.free_in hf
  have hlen := hp.length_eq
  simp only [List.length_append, List.length_singleton] at hlen
  refine ⟨?_, by omega, fun x hx => ?_⟩
  · rw [List.take_succ_eq_append_getElem hj, e]
    refine ((a.reach (t := t) (k := 0) (.goal (List.mem_of_getElem? ht) hf) (by simp) (Int.le_refl _) (Int.le_refl _) hl2 hl (fun _ _ => rfl)).perm hp).goalMore (fun _ => ?_)
    rw [cAt_set _ _ _ _ hl2, if_pos rfl]
  · have := hp.subset hx
    rw [List.mem_append] at this
    rcases this with hx | hx
    · exact d x hx
    · simp only [List.mem_singleton] at hx; subst hx; exact Int.le_refl _
theorem GoalI.run {w0 w : World} {L : List Res} {f p h g n cc : Nat} (hI : GoalI G gs j c es) (hj : gs.length ≤ j) (hj8 : j ≤ 8) (X : Star w0 w (Blk f (finC p h g n cc) 150 :: heapR h es :: costR g n cc c :: L)) : RunI w0 L G gs f p h g n cc w (8 + 8 * n) := by
  obtain ⟨a, b, d⟩ := hI
  rw [List.take_of_length_le hj] at a
  exact ⟨c, es, [], 0, X, a, by simp; omega, by omega, fun e he => by have := d e he; simp; omega, by simp⟩
end

section
variable {w : World} {p pg pc : Nat} {G : Gr}
set_option maxRecDepth 100000 in
set_option maxHeartbeats 4000000 in
theorem costs_ok (hG : Gnd 92 w p pg pc G) (gs : List Nat) (v : Value) (hr : Reads w v gs.length 1 (gC gs)) (h1 : 1 ≤ gs.length) (h8 : gs.length ≤ 8) (hin : ∀ t ∈ gs, t < G.fs.length) :
    Calls Tryd.prog 74 #[.pointer (some ⟨p, 0, none⟩), v] w fun r w' => ∃ c g cc, r = .returned (.tuple #[.slice (some ⟨g, 0, none⟩) G.fs.length cc, .nilIface]) ∧ Least G gs c ∧ (∀ t, cAt c t ≤ 14 * G.fs.length) ∧ Star w w' [costR g G.fs.length cc c] := by
  obtain ⟨i0, hi0, hz0, hz1, hz2⟩ := info_parts infoInt
  obtain ⟨av, cv, rfl⟩ := hr.slice
  have HG := hid hG
  have HR := hid hr
  have HIN := hid hin
  have hN := hG.ok.max
  obtain ⟨n, hn⟩ : ∃ n, n = G.fs.length := ⟨_, rfl⟩
  obtain ⟨l, hl⟩ : ∃ l, l = gs.length := ⟨_, rfl⟩
  have HN := hid hn
  have HL := hid hl
  rw [← hn] at hN HIN ⊢
  rw [← hl] at h1 h8 HR ⊢
  have X0 := hid (Star.new w)
  clear hG hr hin hn hl
  go_enter Tryd.func74, Tryd.ntmps74
  go_wp2_with fail
  refine (heap_new X0.out).mono ?_
  rintro r w1 ⟨h, rfl, hX1, hh⟩
  have X1 := hid hX1
  clear hX1 X0
  go_wp2_with fail
  refine (len_any (HG.out.same X1.out.same)).mono ?_
  rintro r w' ⟨rfl, rfl⟩
  rw [← HN.out]
  have hby : i0.bytes * n ≤ 281474976710656 := by rw [hz2]; omega
  go_wp2_with (at_make; refine wpList_make_full _ rfl _ _ 24 rfl 0 3 i0 (.int .i64 0) 1 Tryd.underlying24 hi0 hz0 hz1 _ _ _ _ n rfl rfl rfl rfl hby (by unfold maxLen; omega) (Nat.zero_le _) ?_; intro wc hoc hgc; have XC := hid (X1.out.add (w' := wc) ((Chg.refl _).grown hgc (fun k e _ => by cases e)) (R := costR w1.heap.size n n (noC n 0)) ⟨by rw [made_zeros, ← noC_zero] at hoc; exact hoc, rfl⟩ (fun k h => by have h' := Option.some.inj h; rw [← h']; exact Nat.le_refl _)); clear hoc hgc)
  have X2 : Hid (Star w (wc.alloc (.cells (finC p h w1.heap.size n n) 150)) [Blk wc.heap.size (finC p h w1.heap.size n n) 150, heapR h [], costR w1.heap.size n n (noC n 0)]) := hid (((XC.out.alloc (finC p h w1.heap.size n n) 150).pull 2 rfl).swap)
  clear X1 XC hby hh
  generalize wc.alloc _ = w2 at *
  generalize wc.heap.size = f at *
  generalize w1.heap.size = g at *
  obtain ⟨d0, d1, d2, dl⟩ := fin_cells X2.out
  go_wp2_with fail
  go_loopw [7, 35] (fun _ iv wr => ∃ k : Nat, k ≤ n ∧ iv = .int .i64 k ∧ Star w wr [Blk f (finC p h g n n) 150, heapR h [], costR g n n (noC n k)]) (fun _ iv _ => n - (intOf iv).toNat)
  case atStart => exact ⟨0, by omega, rfl, X2.out⟩
  case round =>
    obtain ⟨k, hk, rfl, hX⟩ := hrel
    clear d0 d1 d2 dl X2
    by_cases hkn : k < n
    · obtain ⟨d0, d1, d2, dl⟩ := fin_cells hX
      obtain ⟨e0, ef, gl, n1, n2⟩ := cost_cell hX k hkn
      have hY := hX.store 2 rfl k (.int .i64 (-1))
      simp only [List.set_cons_succ, List.set_cons_zero] at hY
      rw [← List.map_set, noC_set] at hY
      have Y := hid hY
      clear hX hY
      go_wp2
      go_roundw
      case rel => exact ⟨k + 1, by omega, by go_num, Y.out⟩
      case measure => simp [intOf]; omega
    · obtain rfl : k = n := by omega
      have X := hid hX
      clear hX
      have HB : Hid (∀ (j t : Nat), gs[j]? = some t → ∃ b off cap, Value.slice av l cv = .slice (some ⟨b, off, none⟩) l cap ∧ w.cell? ⟨b, off + j, none⟩ = some (.int .i64 t) ∧ t < k) := hid (fun j t ht => by
        have hj := (List.getElem?_eq_some_iff.1 ht).1
        obtain ⟨b, off, cap, e, _, hc⟩ := HR.out.open (by have := HL.out; omega)
        exact ⟨b, off, cap, e, hc j _ (by unfold gC; rw [List.getElem?_map, ht]; rfl), HIN.out t (List.mem_of_getElem? ht)⟩)
      clear HR
      go_wp2_with fail
      go_loopw [9, 47] (fun _ iv wr => ∃ j : Nat, j ≤ l ∧ iv = .int .i64 j ∧ Star w wr [Blk f (finC p h g k k) 150, heapR h [], costR g k k (noC k k)]) (fun _ iv _ => l - (intOf iv).toNat)
      case atStart => exact ⟨0, by omega, rfl, X.out⟩
      case round =>
        obtain ⟨j, hj, rfl, hX⟩ := hrel
        have X2 := hid hX
        clear hX X
        by_cases hjl : j < l
        · obtain ⟨t, ht⟩ : ∃ t, gs[j]? = some t := ⟨_, List.getElem?_eq_getElem (by have := HL.out; omega)⟩
          obtain ⟨b, off, cap, e1, hc, htk⟩ := HB.out j t ht
          cases e1
          have hcj := X2.out.same.keep hc
          have hbl := World.block_lt_of_cell? _ _ hcj
          clear hc ht
          go_wp2_with fail
          refine (len_any (HG.out.same X2.out.same)).mono ?_
          rintro r w' ⟨rfl, rfl⟩
          rw [← HN.out]
          go_wp2
          go_roundw
          case rel => exact ⟨j + 1, by omega, by go_num, X2.out⟩
          case measure => simp [intOf]; omega
        · have hst : GoalI G gs 0 (noC k k) [] := ⟨by rw [List.take_zero]; exact Dij.start _ (by rw [noC_len]; exact HN.out) (noC_at k), by simp, by simp⟩
          have HS := hid hst
          clear hst
          go_wp2_with fail
          go_loopw [11, 12, 63] (fun _ _ iv wr => ∃ (j : Nat) (c : List Int) (es : List (Int × Int)), j ≤ l ∧ iv = .int .i64 j ∧ GoalI G gs j c es ∧ Star w wr [Blk f (finC p h g k k) 150, heapR h es, costR g k k c]) (fun _ _ iv _ => l - (intOf iv).toNat)
          case atStart => exact ⟨0, _, [], by omega, rfl, HS.out, X2.out⟩
          case round =>
            obtain ⟨j, c, es, hj, rfl, hI, hX⟩ := hrel
            have X := hid hX
            have HI := hid hI
            clear hX hI X2 HS
            by_cases hjl : j < l
            · obtain ⟨t, ht⟩ : ∃ t, gs[j]? = some t := ⟨_, List.getElem?_eq_getElem (by have := HL.out; omega)⟩
              obtain ⟨b, off, cap, e1, hc, htk⟩ := HB.out j t ht
              cases e1
              have hcj := X.out.same.keep hc
              have hbl := World.block_lt_of_cell? _ _ hcj
              have HTJ := hid ht
              have hes : es.length ≤ j := HI.out.2.1
              clear hc ht
              go_wp2_with fail
              refine (free_any (HG.out.same X.out.same) _).mono ?_
              rintro r w' ⟨rfl, rfl⟩
              rw [Gr.freeI_nat]
              by_cases hf : G.free t = true
              · by_cases hno : cAt c t ≠ -1 ∧ cAt c t ≤ 0
                · have HI2 := hid (HI.out.pass HTJ.out (.inr hno))
                  rw [hf]
                  go_wp2_with fail
                  refine (reach_no X.out t 0 htk hno.1 hno.2).mono ?_
                  rintro r w' ⟨rfl, rfl⟩
                  go_wp2
                  go_roundw
                  case rel => exact ⟨j + 1, _, _, by omega, by go_num, HI2.out, X.out⟩
                  case measure => simp [intOf]; omega
                · have hyes : cAt c t = -1 ∨ 0 < cAt c t := by omega
                  have HF := hid hf
                  rw [hf]
                  go_wp2_with fail
                  refine (reach_yes X.out t 0 htk hyes (by omega)).mono ?_
                  rintro r w' ⟨rfl, es2, hp2, hX2⟩
                  have HI2 := hid (HI.out.yes HTJ.out HF.out hyes hp2)
                  have X2 := hid hX2
                  clear hX2 hp2
                  go_wp2
                  go_roundw
                  case rel => exact ⟨j + 1, _, _, by omega, by go_num, HI2.out, X2.out⟩
                  case measure => simp [intOf]; omega
              · have hf' : G.free t = false := by simpa using hf
                have HI2 := hid (HI.out.pass HTJ.out (.inl hf'))
                rw [hf']
                go_wp2
                go_roundw
                case rel => exact ⟨j + 1, _, _, by omega, by go_num, HI2.out, X.out⟩
                case measure => simp [intOf]; omega
            · have HRUN := hid (HI.out.run (by have := HL.out; omega) (by omega) X.out)
              go_wp2_with fail
              refine (run_any HG.out HN.out HRUN.out).mono ?_
              rintro r w9 ⟨rfl, c9, es9, hL, hT9, hX9⟩
              have HT9 := hid hT9
              have LE := hid hL
              have X9 := hid hX9
              obtain ⟨d0, d1, d2, dl⟩ := fin_cells hX9
              clear hL hT9 hX9 HRUN HI X
              go_wp2
              go_ret2
              exact ⟨c9, g, k, rfl, LE.out, HT9.out, X9.out.drop.drop⟩
set_option maxRecDepth 100000 in
set_option maxHeartbeats 4000000 in
theorem costs_range (hG : Gnd 92 w p pg pc G) (x : Int) (v : Value) (hr : Reads w v 1 1 [.int .i64 x]) (hx : ¬ (0 ≤ x ∧ x < G.fs.length)) (e : Value) (he : w.cell? ⟨1, 0, none⟩ = some e) :
    Calls Tryd.prog 74 #[.pointer (some ⟨p, 0, none⟩), v] w fun r w' => r = .returned (.tuple #[.slice none 0 0, e]) ∧ Same w w' := by
  obtain ⟨i0, hi0, hz0, hz1, hz2⟩ := info_parts infoInt
  obtain ⟨av, cv, rfl⟩ := hr.slice
  have HG := hid hG
  have HR := hid hr
  have HE := hid he
  have hN := hG.ok.max
  obtain ⟨n, hn⟩ : ∃ n, n = G.fs.length := ⟨_, rfl⟩
  have HN := hid hn
  rw [← hn] at hN hx
  have X0 := hid (Star.new w)
  clear hG hr he hn
  go_enter Tryd.func74, Tryd.ntmps74
  go_wp2_with fail
  refine (heap_new X0.out).mono ?_
  rintro r w1 ⟨h, rfl, hX1, hh⟩
  have X1 := hid hX1
  clear hX1 X0
  go_wp2_with fail
  refine (len_any (HG.out.same X1.out.same)).mono ?_
  rintro r w' ⟨rfl, rfl⟩
  rw [← HN.out]
  have hby : i0.bytes * n ≤ 281474976710656 := by rw [hz2]; omega
  go_wp2_with (at_make; refine wpList_make_full _ rfl _ _ 24 rfl 0 3 i0 (.int .i64 0) 1 Tryd.underlying24 hi0 hz0 hz1 _ _ _ _ n rfl rfl rfl rfl hby (by unfold maxLen; omega) (Nat.zero_le _) ?_; intro wc hoc hgc; have XC := hid (X1.out.add (w' := wc) ((Chg.refl _).grown hgc (fun k e _ => by cases e)) (R := costR w1.heap.size n n (noC n 0)) ⟨by rw [made_zeros, ← noC_zero] at hoc; exact hoc, rfl⟩ (fun k h => by have h' := Option.some.inj h; rw [← h']; exact Nat.le_refl _)); clear hoc hgc)
  have X2 : Hid (Star w (wc.alloc (.cells (finC p h w1.heap.size n n) 150)) [Blk wc.heap.size (finC p h w1.heap.size n n) 150, heapR h [], costR w1.heap.size n n (noC n 0)]) := hid (((XC.out.alloc (finC p h w1.heap.size n n) 150).pull 2 rfl).swap)
  clear X1 XC hby hh
  generalize wc.alloc _ = w2 at *
  generalize wc.heap.size = f at *
  generalize w1.heap.size = g at *
  obtain ⟨d0, d1, d2, dl⟩ := fin_cells X2.out
  go_wp2_with fail
  go_loopw [7, 35] (fun _ iv wr => ∃ k : Nat, k ≤ n ∧ iv = .int .i64 k ∧ Star w wr [Blk f (finC p h g n n) 150, heapR h [], costR g n n (noC n k)]) (fun _ iv _ => n - (intOf iv).toNat)
  case atStart => exact ⟨0, by omega, rfl, X2.out⟩
  case round =>
    obtain ⟨k, hk, rfl, hX⟩ := hrel
    clear d0 d1 d2 dl X2
    by_cases hkn : k < n
    · obtain ⟨d0, d1, d2, dl⟩ := fin_cells hX
      obtain ⟨e0, ef, gl, n1, n2⟩ := cost_cell hX k hkn
      have hY := hX.store 2 rfl k (.int .i64 (-1))
      simp only [List.set_cons_succ, List.set_cons_zero] at hY
      rw [← List.map_set, noC_set] at hY
      have Y := hid hY
      clear hX hY
      go_wp2
      go_roundw
      case rel => exact ⟨k + 1, by omega, by go_num, Y.out⟩
      case measure => simp [intOf]; omega
    · obtain rfl : k = n := by omega
      have X := hid hX
      clear hX
      obtain ⟨b, off, cap, e1, hb, hc⟩ := HR.out.open (by omega)
      cases e1
      have HC := hid (hc 0 _ rfl)
      clear hc HR
      go_wp2_with fail
      go_loopw [9, 47] (fun _ iv wr => iv = .int .i64 0 ∧ Star w wr [Blk f (finC p h g k k) 150, heapR h [], costR g k k (noC k k)]) (fun _ iv _ => 1 - (intOf iv).toNat)
      case atStart => exact ⟨rfl, X.out⟩
      case round =>
        obtain ⟨rfl, hX⟩ := hrel
        have X2 := hid hX
        have hcj := X2.out.same.keep HC.out
        have hbl := World.block_lt_of_cell? _ _ hcj
        have hE := X2.out.same.keep HE.out
        simp only [Nat.add_zero] at hcj hbl
        clear hX X
        by_cases h0 : x < 0
        · go_wp2
          go_quiet (fail)
          go_wp2
          go_ret2
          exact ⟨rfl, X2.out.same.drewN _⟩
        · have hxn : (k : Int) ≤ x := by omega
          go_wp2_with fail
          refine (len_any (HG.out.same X2.out.same)).mono ?_
          rintro r w' ⟨rfl, rfl⟩
          rw [← HN.out]
          go_wp2
          go_quiet (fail)
          go_wp2
          go_ret2
          exact ⟨rfl, X2.out.same.drewN _⟩
end
end Go.Proofs.YtilobedihjkpjaaDoor.Route

/-
  slices.Clone at one type of elements, by its contract.
-/
namespace Go.Proofs.YtilobedihjkpjaaDoor.CloneB
open Go Go.RowKit

theorem info : (Tryd.prog.info? 4).map (fun i => (i.zero, i.size, i.bytes)) = some (some (.bool false), 1, 1) := by kernel_rfl
set_option maxRecDepth 100000 in
theorem clone_any (v : Value) (n : Nat) (ys : List Value) (w : World) (hr : Reads w v n 1 ys) (h1y : ∀ u ∈ ys, u.oneCell' = true) (hn : n ≤ 8000000000000) :
    Calls Tryd.prog 71 #[v] w fun r w' => ∃ v', r = .returned v' ∧ Fresh w w' 4 1 v' n ys ∧ Same w w' := by
  obtain ⟨i0, hi, hz0, hz1, hz2⟩ := info_parts info
  obtain ⟨ad, c, rfl⟩ := hr.slice
  have hs1 := fun wx => Lib.run_eql_slice_nil (P := Tryd.prog) wx 74 4 ad n c 0 0 Tryd.underlying74
  have HR := hid hr
  clear hr
  cases ad with
  | none =>
    obtain ⟨_, _, he, hl, hnn, _⟩ := HR.out
    cases he
    obtain ⟨rfl, rfl⟩ := hnn rfl
    have hys : ys = [] := List.eq_nil_of_length_eq_zero (by simpa using hl)
    subst hys
    go_enter Tryd.func71, Tryd.ntmps71
    go_wp2
    go_ret
    exact ⟨_, rfl, ⟨World.ownsRow_nil _ _ _ _, by simp [Value.ownBlock]⟩, Chg.refl _⟩
  | some ad =>
    go_enter Tryd.func71, Tryd.ntmps71
    go_wp2_with (at_builtin; refine wpList_app rfl _ _ 74 rfl 4 i0 (.bool false) 1 1 Tryd.underlying74 hi hz0 hz1 hz2 rfl (by decide) _ 0 [] rfl (World.ownsRow_lit w #[] 0 (Nat.zero_le _) (by unfold maxLen; omega) rfl) (some ad) n c ys rfl (HR.out.same ((Chg.refl _).alloc _)) h1y (by omega) (by omega) ?_)
    intro a' c' w1 hown hg hv
    have hch : Same w w1 := ((Chg.refl w).alloc (.cells #[] 4)).grown hg (fun k e hk => by simp [Value.ownBlock] at e; omega)
    have hnew : ∀ k, (Value.slice a' n c').ownBlock = some k → w.heap.size ≤ k := by
      intro k hk
      rcases hv with hv | hv
      · rw [hv] at hk; simp [Value.ownBlock] at hk; omega
      · have := hv k hk; simp at this; omega
    have H1 := hid hown
    have H2 := hid hch
    have H3 := hid hnew
    clear hown hch hnew hg hv
    go_wp2
    go_ret
    exact ⟨_, rfl, ⟨H1.out, H3.out⟩, H2.out⟩
end Go.Proofs.YtilobedihjkpjaaDoor.CloneB

/-
  A ground that is the same.
-/
namespace Go.Proofs.YtilobedihjkpjaaDoor.Steps
open Go Go.RowKit

section
variable {w w0 : World} {L : List Res} {p g c : Nat} {G : Gr}
set_option maxRecDepth 100000 in
set_option maxHeartbeats 4000000 in
theorem clone_gnd (h : Gnd 92 w p g c G) : Calls Tryd.prog 46 #[.pointer (some ⟨p, 0, none⟩)] w fun r w' => ∃ q, r = .returned (.pointer (some ⟨q, 0, none⟩)) ∧ Star w w' [gndR 92 q G] := by
  have H := hid h
  have HX := hid (Star.new w)
  have c0 := h.c0
  have c1 := h.c1
  have c2 := h.c2
  have hm := h.ok.max
  clear h
  go_enter Tryd.func46, Tryd.ntmps46
  go_wp2
  go_region_held3 (fun w' => w'.cell? ⟨p, 0, none⟩ = some (.int .i64 G.W) ∧ w'.cell? ⟨p, 1, none⟩ = some (.int .i64 G.H) ∧ w'.cell? ⟨p, 2, none⟩ = some (.slice (some ⟨g, 0, none⟩) G.fs.length c)) (go_keep) ((go_at_call 71; refine (CloneB.clone_any _ G.fs.length (bv G.fs) _ (Reads.of_own (H.out.same ((Chg.refl _).drew)).own) (bv_one _) (by omega)).mono ?_; rintro r w1 ⟨v', rfl, hf, hs⟩; have HF := hid hf; have HS := hid (show Same w w1 from Chg.trans (S := fun _ => False) ((Chg.refl _).drew) hs (fun _ _ f => f)); have k0 := HS.out.keep H.out.c0; have k1 := HS.out.keep H.out.c1; have k2 := HS.out.keep H.out.c2; clear hf hs; obtain ⟨g', c', rfl⟩ := own_shape HF.out.1 (by omega)))
  all_goals
    go_wp2
    go_ret
    have hg := HF.out.2 g' rfl
    have hgl := (HF.out.1.lt g' rfl).2
    simp only [World.drew] at hg
    exact ⟨_, rfl, gnd_new HX.out (HS.out.alloc _) ⟨alloc_new _ _, own_chg (S := fun _ => False) HF.out.1 ((Chg.refl _).alloc _) (fun _ _ f => f), by omega, H.out.ok⟩ HS.out.size hg⟩
theorem clone_any (X : Star w0 w (gndR 92 p G :: L)) : Calls Tryd.prog 46 #[.pointer (some ⟨p, 0, none⟩)] w fun r w' => ∃ q, r = .returned (.pointer (some ⟨q, 0, none⟩)) ∧ Star w0 w' (gndR 92 q G :: gndR 92 p G :: L) := by
  obtain ⟨g, c, h, -, -, -⟩ := gnd_at X 0 rfl
  exact (clone_gnd h).mono fun r w' ⟨q, h1, h2⟩ => ⟨q, h1, X.lift h2⟩
end
end Go.Proofs.YtilobedihjkpjaaDoor.Steps
