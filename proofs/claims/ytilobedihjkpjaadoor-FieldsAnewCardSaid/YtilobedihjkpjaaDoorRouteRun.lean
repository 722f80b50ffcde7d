/-
  The finder of costs: run.
-/
import Derived.Test.YtilobedihjkpjaaDoorStepAround
import Derived.Test.YtilobedihjkpjaaDoorHeapR
import Derived.Test.YtilobedihjkpjaaDoorFol
namespace Go.Proofs.YtilobedihjkpjaaDoor.Route
open Go Go.RowKit Go.Proofs.YtilobedihjkpjaaDoor.Hp

/-- A finder's block: the ground's, the heap's, the costs. -/
abbrev finC (p h g n cc : Nat) : Array Value := #[.pointer (some ⟨p, 0, none⟩), .pointer (some ⟨h, 0, none⟩), .slice (some ⟨g, 0, none⟩) n cc]
abbrev costR (g n cc : Nat) (c : List Int) : Res := Row 3 1 (.slice (some ⟨g, 0, none⟩) n cc) n (c.map (Value.int .i64))
section
variable {w0 w : World} {L : List Res} {f p h g n cc : Nat} {c : List Int} {es : List (Int × Int)}
theorem cost_len (X : Star w0 w (Blk f (finC p h g n cc) 150 :: heapR h es :: costR g n cc c :: L)) : c.length = n := by
  have := (X.row 2 rfl).1.1
  simpa using this
theorem cost_cell (X : Star w0 w (Blk f (finC p h g n cc) 150 :: heapR h es :: costR g n cc c :: L)) (t : Nat) (ht : t < n) : w.cell? ⟨g, t, none⟩ = some (.int .i64 (cAt c t)) ∧ w.frozen? ⟨g, t, none⟩ = false ∧ g < w.heap.size ∧ ¬ f = g ∧ ¬ g = f := by
  have hl := cost_len X
  have hr := (X.row 2 rfl).1
  obtain ⟨n1, n2⟩ := X.neBR 0 2 rfl rfl (by omega)
  exact ⟨(hr.cellAt t (by omega)).trans (by rw [List.getElem?_map, cAt_get (by omega)]; rfl), hr.frozenAt t, (hr.lt g rfl).2, n1, n2⟩
theorem fin_cells (X : Star w0 w (Blk f (finC p h g n cc) 150 :: heapR h es :: costR g n cc c :: L)) : w.cell? ⟨f, 0, none⟩ = some (.pointer (some ⟨p, 0, none⟩)) ∧ w.cell? ⟨f, 1, none⟩ = some (.pointer (some ⟨h, 0, none⟩)) ∧ w.cell? ⟨f, 2, none⟩ = some (.slice (some ⟨g, 0, none⟩) n cc) ∧ f < w.heap.size := by
  have hb := (X.blk 0 rfl).1
  exact ⟨cell_of hb 0, cell_of hb 1, cell_of hb 2, lt_of hb⟩

set_option maxRecDepth 100000 in
theorem reach_no (X : Star w0 w (Blk f (finC p h g n cc) 150 :: heapR h es :: costR g n cc c :: L)) (t : Nat) (k : Int) (ht : t < n) (h1 : cAt c t ≠ -1) (h2 : cAt c t ≤ k) :
    Calls Tryd.prog 91 #[.pointer (some ⟨f, 0, none⟩), .int .i64 t, .int .i64 k] w fun r w' => r = .returned .nilIface ∧ w = w' := by
  obtain ⟨c0, c1, c2, cl⟩ := fin_cells X
  obtain ⟨e0, -, gl, -, -⟩ := cost_cell X t ht
  generalize cAt c t = x at *
  have h1' : (x != -1) = true := by simpa using h1
  clear X h1
  go_enter Tryd.func91, Tryd.ntmps91
  go_wp2
  go_ret
  exact ⟨rfl, rfl⟩

set_option maxRecDepth 100000 in
set_option maxHeartbeats 1000000 in
theorem reach_yes (X : Star w0 w (Blk f (finC p h g n cc) 150 :: heapR h es :: costR g n cc c :: L)) (t : Nat) (k : Int) (ht : t < n) (h1 : cAt c t = -1 ∨ k < cAt c t) (hf : 1 + es.length ≤ 16384) :
    Calls Tryd.prog 91 #[.pointer (some ⟨f, 0, none⟩), .int .i64 t, .int .i64 k] w fun r w' => r = .returned .nilIface ∧ ∃ es', es'.Perm (es ++ [(k, (t : Int))]) ∧ Star w0 w' (Blk f (finC p h g n cc) 150 :: heapR h es' :: costR g n cc (c.set t k) :: L) := by
  obtain ⟨c0, c1, c2, cl⟩ := fin_cells X
  obtain ⟨e0, ef, gl, n1, n2⟩ := cost_cell X t ht
  have hY := X.store 2 rfl t (.int .i64 k)
  simp only [List.set_cons_succ, List.set_cons_zero] at hY
  rw [← List.map_set] at hY
  have Y := hid hY
  have hA0 := (hY.alloc #[.int .i64 k, .int .i64 t] 172).pull 2 rfl
  rw [show (w.setCell ⟨g, t, none⟩ (.int .i64 k)).heap.size = w.heap.size by simp [World.setCell]] at hA0
  have hA := hid hA0
  clear X hY hA0
  generalize cAt c t = x at *
  go_enter Tryd.func91, Tryd.ntmps91
  by_cases hx : x = -1
  · have h1' : (x != -1) = false := by rw [hx]; rfl
    clear hx h1
    go_wp2_with fail
    refine (heap_push hA.out hf).mono ?_
    rintro r w' ⟨rfl, es', hp, hX⟩
    have HP := hid hp
    have HX := hid (hX.swap.drop.swap)
    clear hX hp hA Y
    go_wp2
    go_ret
    exact ⟨rfl, es', HP.out, HX.out⟩
  · have h1' : (x != -1) = true := by simpa using hx
    have h2 : k < x := by omega
    clear hx h1
    go_wp2_with fail
    refine (heap_push hA.out hf).mono ?_
    rintro r w' ⟨rfl, es', hp, hX⟩
    have HP := hid hp
    have HX := hid (hX.swap.drop.swap)
    clear hX hp hA Y
    go_wp2
    go_ret
    exact ⟨rfl, es', HP.out, HX.out⟩
end
end Go.Proofs.YtilobedihjkpjaaDoor.Route
namespace Go.Proofs.YtilobedihjkpjaaDoor
/-- The least of the numbers of which something is told. -/
theorem exMin (P : Nat → Prop) (h : ∃ n, P n) : ∃ n, P n ∧ ∀ k, P k → n ≤ k := by
  obtain ⟨n, hn⟩ := h
  induction n using Nat.strongRecOn with
  | _ n ih =>
    by_cases hx : ∃ k, k < n ∧ P k
    · obtain ⟨k, h1, h2⟩ := hx; exact ih k h1 h2
    · exact ⟨n, hn, fun k hk => by
        by_cases hl : k < n
        · exact absurd ⟨k, hl, hk⟩ hx
        · omega⟩
noncomputable def leastN (P : Nat → Prop) : Nat := @dite _ (∃ n, P n) (Classical.propDecidable _) (fun h => Classical.choose (exMin P h)) (fun _ => 0)
theorem leastN_spec {P : Nat → Prop} (h : ∃ n, P n) : P (leastN P) := by
  unfold leastN; rw [dif_pos h]; exact (Classical.choose_spec (exMin P h)).1
theorem leastN_le {P : Nat → Prop} {n : Nat} (h : P n) : leastN P ≤ n := by
  unfold leastN; rw [dif_pos ⟨n, h⟩]; exact (Classical.choose_spec (exMin P ⟨n, h⟩)).2 n h
end Go.Proofs.YtilobedihjkpjaaDoor
namespace Go.Proofs.YtilobedihjkpjaaDoor.Route
open Go Go.RowKit Go.Proofs.YtilobedihjkpjaaDoor.Hp Go.Proofs.YtilobedihjkpjaaDoor.Steps

/-- What the finder's loop keeps: at most m entries and tiles are still to come. -/
def RunI (w0 : World) (L : List Res) (G : Gr) (gs : List Nat) (f p h g n cc : Nat) (w : World) (m : Nat) : Prop :=
  ∃ (c : List Int) (es : List (Int × Int)) (D : List Nat) (k : Int), Star w0 w (Blk f (finC p h g n cc) 150 :: heapR h es :: costR g n cc c :: L) ∧ Dij G gs gs (fun _ _ => True) c es D k ∧ es.length + 8 * (n - D.length) ≤ m ∧ m ≤ 8 + 8 * n ∧ (∀ e ∈ es, e.1 ≤ 14 * D.length) ∧ k ≤ 14 * D.length
/-- .. and the loop over a tile's steps. -/
def StepI (G : Gr) (gs : List Nat) (D : List Nat) (t : Nat) (k : Int) (n m j : Nat) (c : List Int) (es : List (Int × Int)) : Prop :=
  Dij G gs gs (fun u s => u ≠ t ∨ s ∈ (G.around t).take j) c es (t :: D) k ∧ cAt c t = k ∧ es.length + 8 * (n - (D.length + 1)) + 9 ≤ m + j ∧ ∀ e ∈ es, e.1 ≤ 14 * (D.length + 1)

section
variable {G : Gr} {gs : List Nat} {D : List Nat} {t : Nat} {k : Int} {n m j : Nat} {c : List Int} {es es' : List (Int × Int)} {s : Gr.St}
theorem StepI.pass (h : StepI G gs D t k n m j c es) (hs : (G.around t)[j]? = some s) (h1 : cAt c s.to ≠ -1) (h2 : cAt c s.to ≤ k + s.c) : StepI G gs D t k n m (j + 1) c es := by
  obtain ⟨a, b, d, e⟩ := h
  obtain ⟨hj, hs'⟩ := List.getElem?_eq_some_iff.1 hs
  refine ⟨a.pass (fun u _ s' _ hq => ?_), b, by omega, e⟩
  rcases hq with hq | hq
  · exact .inl (.inl hq)
  · by_cases hut : u = t
    · subst hut
      rw [List.take_succ_eq_append_getElem hj, List.mem_append] at hq
      rcases hq with hq | hq
      · exact .inl (.inr hq)
      · simp only [List.mem_singleton] at hq
        subst hq
        rw [hs']
        have := a.low s.to
        exact .inr ⟨by omega, by rw [b]; exact h2⟩
    · exact .inl (.inl hut)
theorem StepI.yes (hG : G.Ok) (h : StepI G gs D t k n m j c es) (hk : k ≤ 14 * D.length) (hs : (G.around t)[j]? = some s) (hlt : cAt c s.to = -1 ∨ k + s.c < cAt c s.to) (hp : es'.Perm (es ++ [(k + s.c, (s.to : Int))])) :
    StepI G gs D t k n m (j + 1) (c.set s.to (k + s.c)) es' := by
  obtain ⟨a, b, d, e⟩ := h
  have hm := List.mem_of_getElem? hs
  have hpos := Gr.go_pos (Gr.mem_around.1 hm)
  obtain ⟨a1, a2, a3, a4⟩ := a.along hG (t := t) (s := s) List.mem_cons_self b hm hlt
  have hst := cAt_set c s.to s.to (k + s.c) a2
  rw [if_pos rfl] at hst
  have hlen := hp.length_eq
  simp only [List.length_append, List.length_singleton] at hlen
  have h0 := a3.inD t List.mem_cons_self
  have h3 : StepI G gs D t k n (m + 1) j (c.set s.to (k + s.c)) es' := ⟨a3.perm hp, a4, by omega, fun x hx => by
    have := hp.subset hx
    rw [List.mem_append] at this
    rcases this with hx | hx
    · exact e x hx
    · simp only [List.mem_singleton] at hx; subst hx; simp only; omega⟩
  have h4 := h3.pass hs (by rw [hst]; omega) (by rw [hst]; exact Int.le_refl _)
  obtain ⟨b1, b2, b3, b4⟩ := h4
  exact ⟨b1, b2, by omega, b4⟩
theorem StepI.done {w0 w : World} {L : List Res} {f p h g cc : Nat} (hI : StepI G gs D t k n m j c es) (hj : (G.around t).length ≤ j) (hj8 : j ≤ 8) (hm : m ≤ 8 + 8 * n) (hk : k ≤ 14 * D.length)
    (X : Star w0 w (Blk f (finC p h g n cc) 150 :: heapR h es :: costR g n cc c :: L)) : RunI w0 L G gs f p h g n cc w (m - 1) := by
  obtain ⟨a, b, d, e⟩ := hI
  refine ⟨c, es, t :: D, k, X, a.pass (fun u _ s hs _ => ?_), by rw [List.length_cons]; omega, by omega, fun x hx => by have := e x hx; rw [List.length_cons]; omega, by rw [List.length_cons]; omega⟩
  by_cases hut : u = t
  · subst hut; exact .inl (.inr (by rw [List.take_of_length_le hj]; exact hs))
  · exact .inl (.inl hut)
end
theorem RunI.go {w0 w w' : World} {L : List Res} {G : Gr} {gs : List Nat} {f p h g n cc m : Nat} (hR : RunI w0 L G gs f p h g n cc w m) (hs : Same w w') : RunI w0 L G gs f p h g n cc w' m := by
  obtain ⟨c, es, D, k, h1, h2⟩ := hR
  exact ⟨c, es, D, k, h1.go hs, h2⟩

set_option maxRecDepth 100000 in
set_option maxHeartbeats 8000000 in
theorem run_any {w0 w : World} {L : List Res} {G : Gr} {gs : List Nat} {f p pg pc h g n cc m : Nat} (hG : Gnd 92 w0 p pg pc G) (hn : n = G.fs.length) (hR : RunI w0 L G gs f p h g n cc w m) :
    Calls Tryd.prog 92 #[.pointer (some ⟨f, 0, none⟩)] w fun r w' => r = .returned .nilIface ∧ ∃ c es, Least G gs c ∧ (∀ t, cAt c t ≤ 14 * n) ∧ Star w0 w' (Blk f (finC p h g n cc) 150 :: heapR h es :: costR g n cc c :: L) := by
  have HG := hid hG
  have hN := hG.ok.max
  have HN := hid hn
  rw [← hn] at hN
  have HR := hid hR
  clear hG hn hR
  go_enter Tryd.func92, Tryd.ntmps92
  go_wp2_with fail
  go_loopw [4] (fun _ wr => ∃ m, RunI w0 L G gs f p h g n cc wr m) (fun _ wr => leastN (RunI w0 L G gs f p h g n cc wr))
  case atStart => exact ⟨m, HR.out⟩
  case round =>
    have hm := leastN_spec hrel
    obtain ⟨m, hme⟩ : ∃ m, m = leastN (RunI w0 L G gs f p h g n cc wr) := ⟨_, rfl⟩
    rw [← hme] at hm
    have HME := hid hme
    clear hrel HR hme
    obtain ⟨c, es, D, k, hX, hD, hcnt, hm8, htop, hkD⟩ := hm
    have X := hid hX
    have HD := hid hD
    have HT := hid htop
    obtain ⟨c0, c1, c2, cl⟩ := fin_cells hX
    clear hX hD htop
    go_wp2_with fail
    refine (heap_len (X.out.pull 1 rfl)).mono ?_
    rintro r w' ⟨rfl, rfl⟩
    by_cases h0 : 0 < es.length
    · go_wp2_with fail
      refine (heap_pop (X.out.pull 1 rfl) h0 (by omega)).mono ?_
      rintro r w1 ⟨⟨k1, e2⟩, es1, rfl, hp, hle, hX1⟩
      have hD1 := HD.out.perm hp
      obtain ⟨hme1, t, ht2, ht0, htle, -⟩ := hD1.ent _ List.mem_cons_self
      simp only at ht2 htle hme1 hle
      subst ht2
      have htop1 := HT.out _ (hp.subset List.mem_cons_self)
      simp only at htop1
      have hes : es1.length + 1 = es.length := by have := hp.length_eq; simpa using this
      have hcard := HD.out.card
      rw [← HN.out] at hcard
      have htl : t < n := by have := cAt_in ht0; rwa [HD.out.len, ← HN.out] at this
      have hX2 := hX1.swap
      obtain ⟨d0, d1, d2, dl⟩ := fin_cells hX2
      obtain ⟨e0, -, gl, -, -⟩ := cost_cell hX2 t htl
      have HP := hid hp
      have HLE := hid hle
      have HD1 := hid hD1
      have X2 := hid hX2
      clear X hX1 hX2 hp hD1 hle hme1 c0 c1 c2 cl
      by_cases hst : cAt c t < k1
      · have HR2 : Hid (RunI w0 L G gs f p h g n cc w1 (m - 1)) := hid ⟨c, es1, D, k1, X2.out, HD1.out.stale rfl HLE.out hst, by omega, by omega, fun e he => HT.out e (HP.out.subset (List.mem_cons_of_mem _ he)), htop1⟩
        go_wp2
        go_quiet (fail)
        go_wp2
        go_roundw
        case rel => exact ⟨m - 1, HR2.out.go (((Chg.refl _).alloc _).drewN _)⟩
        case measure =>
          rw [← HME.out]
          exact Nat.lt_of_le_of_lt (leastN_le (HR2.out.go (((Chg.refl _).alloc _).drewN _))) (by omega)
      · obtain ⟨hnD, hck, hD2⟩ := HD1.out.valid rfl HLE.out hst
        simp only at hck hD2
        have hcard2 : D.length + 1 ≤ n := by have := hD2.card; rw [← HN.out] at this; simpa using this
        have hk0 : 0 ≤ k1 := by omega
        have X3 : Hid (Star w0 (w1.alloc (.cells #[.int .i64 k1, .int .i64 t] 172)) (Blk f (finC p h g n cc) 150 :: heapR h es1 :: costR g n cc c :: Blk w1.heap.size #[.int .i64 k1, .int .i64 t] 172 :: L)) := hid ((((X2.out.alloc #[.int .i64 k1, .int .i64 t] 172).pull 3 rfl).pull 3 rfl).pull 3 rfl)
        have HD2 : Hid (StepI G gs D t k1 n m 0 c es1) := hid ⟨hD2.pass (fun u _ s _ hq => .inl (by rcases hq with hq | hq; exact hq; simp at hq)), hck, by omega, fun e he => by have := HT.out e (HP.out.subset (List.mem_cons_of_mem _ he)); omega⟩
        rw [hck] at e0
        have hst' : ¬ k1 < k1 := by omega
        clear hst hD2 hck hnD X2
        go_wp2
        go_quiet (fail)
        have X4 := hid (X3.out.go ((Chg.refl _).drewN nq))
        clear X3 d0 d1 d2 dl e0 gl
        generalize (w1.alloc _).drewN nq = w4 at *
        generalize w1.heap.size = q at *
        obtain ⟨d0, d1, d2, dl⟩ := fin_cells X4.out
        have hbq := (X4.out.blk 3 rfl).1
        have q0 := cell_of hbq 0
        have q1 := cell_of hbq 1
        have ql := lt_of hbq
        simp only [List.getElem?_toArray, List.getElem?_cons_zero, List.getElem?_cons_succ] at q0 q1
        clear hbq
        go_wp2
        go_region_held3 (fun w' => w'.cell? ⟨f, 0, none⟩ = some (.pointer (some ⟨p, 0, none⟩)) ∧ w'.cell? ⟨q, 1, none⟩ = some (.int .i64 t)) (go_keep) ((go_at_call 15; refine (around_any ((HG.out.same X4.out.same).same ((Chg.refl _).drew)) _).mono ?_; rintro r w5 ⟨v, rfl, hY⟩; rw [Gr.aroundI_nat] at hY; obtain ⟨va, vc, rfl, -⟩ := own_slice (hY.row 0 rfl).1; have k0 := (hY.same.after' ((Chg.refl w4).drew)).keep d0; have k1' := (hY.same.after' ((Chg.refl w4).drew)).keep q1; have X5 := hid (((((X4.out.go ((Chg.refl _).drew)).lift hY).pull 3 rfl).pull 3 rfl).pull 3 rfl); clear hY))
        all_goals
          have hl8 : (G.around t).length ≤ 8 := by rw [← Gr.aroundI_nat]; exact Gr.aroundTo_len _ _ _
          obtain ⟨l, hl⟩ : ∃ l, l = G.around t := ⟨_, rfl⟩
          have HL := hid hl
          rw [← hl] at X5 hl8 ⊢
          have X6 : Hid (Star w0 w5 (Blk f (finC p h g n cc) 150 :: heapR h es1 :: costR g n cc c :: Row 47 3 (.slice va l.length vc) l.length (stCs l) :: Blk q #[.int .i64 k1, .int .i64 t] 172 :: L)) := X5
          clear X4 X5 d0 d1 d2 dl q0 q1 ql k0 k1' hl HD HD1 HT HLE HP
          go_wp2_with fail
          go_loopw [7, 44] (fun _ iv wr => ∃ (j : Nat) (c' : List Int) (es' : List (Int × Int)), j ≤ l.length ∧ iv = .int .i64 j ∧ StepI G gs D t k1 n m j c' es' ∧ Star w0 wr (Blk f (finC p h g n cc) 150 :: heapR h es' :: costR g n cc c' :: Row 47 3 (.slice va l.length vc) l.length (stCs l) :: Blk q #[.int .i64 k1, .int .i64 t] 172 :: L)) (fun _ iv _ => l.length - (intOf iv).toNat)
          case atStart => exact ⟨0, c, es1, by omega, rfl, HD2.out, X6.out⟩
          case round =>
            obtain ⟨j, c', es', hj, rfl, hI, hX⟩ := hrel
            have HI := hid hI
            have X := hid hX
            clear hI hX HD2 X6
            by_cases hjl : j < l.length
            · obtain ⟨s, hs⟩ : ∃ s, l[j]? = some s := ⟨_, List.getElem?_eq_getElem hjl⟩
              have hrow := (X.out.row 3 rfl).1
              obtain ⟨gs3, cs3, e3⟩ := own_shape hrow (by omega)
              cases e3
              have s0 : wr.cell? ⟨gs3, j * 3, none⟩ = some (.int .i64 s.d) := (hrow.cellAt (j * 3) (by omega)).trans ((rows_get stC stC_len l j 0 s hs (by omega)).trans rfl)
              have s1 : wr.cell? ⟨gs3, j * 3 + 1, none⟩ = some (.int .i64 s.to) := (hrow.cellAt (j * 3 + 1) (by omega)).trans ((rows_get stC stC_len l j 1 s hs (by omega)).trans rfl)
              have s2 : wr.cell? ⟨gs3, j * 3 + 2, none⟩ = some (.int .i64 s.c) := (hrow.cellAt (j * 3 + 2) (by omega)).trans ((rows_get stC stC_len l j 2 s hs (by omega)).trans rfl)
              have sl := (hrow.lt gs3 rfl).2
              have hbq := (X.out.blk 4 rfl).1
              have q0 := cell_of hbq 0
              have q1 := cell_of hbq 1
              have ql := lt_of hbq
              simp only [List.getElem?_toArray, List.getElem?_cons_zero, List.getElem?_cons_succ] at q0 q1
              have hpos := Gr.go_pos (Gr.mem_around.1 (show s ∈ G.around t by rw [← HL.out]; exact List.mem_of_getElem? hs))
              have hto : s.to < n := by
                have := Gr.free_in (Gr.go_end HG.out.ok (Gr.mem_around.1 (show s ∈ G.around t by rw [← HL.out]; exact List.mem_of_getElem? hs))).1
                rwa [← HN.out] at this
              have hS := hid (show (G.around t)[j]? = some s by rw [← HL.out]; exact hs)
              have hcnt' : es'.length ≤ 8 * n + 8 := by have := HI.out.2.2.1; omega
              obtain ⟨sd, sto, sc⟩ := s
              dsimp only at s0 s1 s2 hpos hto
              have XA := hid ((((X.out.alloc #[.int .i64 sd, .int .i64 sto, .int .i64 sc] 47).pull 3 rfl).pull 3 rfl).pull 3 rfl)
              clear hrow hbq hs
              by_cases hno : cAt c' sto ≠ -1 ∧ cAt c' sto ≤ k1 + sc
              · have HI2 := hid (HI.out.pass hS.out hno.1 hno.2)
                go_wp2_with fail
                refine (reach_no XA.out sto (k1 + sc) hto hno.1 hno.2).mono ?_
                rintro r w7 ⟨rfl, rfl⟩
                have X8 := hid (((XA.out.pull 3 rfl).drop))
                clear XA hno s0 s1 s2 q0 q1
                go_wp2
                go_roundw
                case rel => exact ⟨j + 1, c', es', by omega, by go_num, HI2.out, X8.out⟩
                case measure => simp [intOf]; omega
              · have hyes : cAt c' sto = -1 ∨ k1 + sc < cAt c' sto := by omega
                go_wp2_with fail
                refine (reach_yes XA.out sto (k1 + sc) hto hyes (by omega)).mono ?_
                rintro r w7 ⟨rfl, es7, hp7, hX7⟩
                have HI2 := hid (HI.out.yes HG.out.ok (by omega) hS.out hyes hp7)
                have X8 := hid (((hX7.pull 3 rfl).drop))
                clear XA hno hyes hX7 hp7 s0 s1 s2 q0 q1
                go_wp2
                go_roundw
                case rel => exact ⟨j + 1, _, es7, by omega, by go_num, HI2.out, X8.out⟩
                case measure => simp [intOf]; omega
            · have HR3 : Hid (RunI w0 L G gs f p h g n cc wr (m - 1)) := hid (HI.out.done (by rw [← HL.out]; omega) (by omega) hm8 htop1 ((X.out.pull 3 rfl).drop.pull 3 rfl).drop)
              go_wp2
              go_roundw
              case rel => exact ⟨m - 1, HR3.out⟩
              case measure =>
                rw [← HME.out]
                exact Nat.lt_of_le_of_lt (leastN_le HR3.out) (by omega)
    · have hes : es = [] := List.eq_nil_of_length_eq_zero (by omega)
      subst hes
      go_wp2
      go_ret
      refine ⟨rfl, c, [], HD.out.done HG.out.ok, fun t => ?_, X.out⟩
      have hc := HD.out.card
      rw [← HN.out] at hc
      rcases HD.out.low t with h | h
      · omega
      · by_cases ht : t ∈ D
        · have := (HD.out.inD t ht).2; omega
        · have := HD.out.pend t ht h; simp at this
end Go.Proofs.YtilobedihjkpjaaDoor.Route
