/-
  The searcher by jumps: run.
-/
import Derived.Test.YtdihnjhbopogoaaDoorJumpW
import Derived.Test.YtdihnjhbopogoaaDoorExpP
import Derived.Test.YtdihnjhbopogoaaDoorStepGuess
import Derived.Test.YtdihnjhbopogoaaDoorRouteRun
namespace Go.Proofs.YtdihnjhbopogoaaDoor.Jmp
open Go Go.RowKit Go.Proofs.YtdihnjhbopogoaaDoor.Hp Go.Proofs.YtdihnjhbopogoaaDoor.Steps Go.Proofs.YtdihnjhbopogoaaDoor.Route

abbrev schC (p h : Nat) (goal : Int) (g n cc g2 cc2 : Nat) : Array Value := #[.pointer (some ⟨p, 0, none⟩), .pointer (some ⟨h, 0, none⟩), .int .i64 goal, .slice (some ⟨g, 0, none⟩) n cc, .slice (some ⟨g2, 0, none⟩) n cc2]
abbrev schL (f p h : Nat) (goal : Int) (g n cc g2 cc2 : Nat) (c fr : List Int) (es : List (Int × Int)) (L : List Res) : List Res := Blk f (schC p h goal g n cc g2 cc2) 83 :: heapR h es :: costR g n cc c :: costR g2 n cc2 fr :: L
section
variable {w0 w : World} {L : List Res} {f p h g n cc g2 cc2 : Nat} {goal : Int} {c fr : List Int} {es : List (Int × Int)}
theorem sch_len (X : Star w0 w (schL f p h goal g n cc g2 cc2 c fr es L)) : c.length = n ∧ fr.length = n := by
  have h1 := (X.row 2 rfl).1.1
  have h2 := (X.row 3 rfl).1.1
  exact ⟨by simpa using h1, by simpa using h2⟩
theorem sch_cells (X : Star w0 w (schL f p h goal g n cc g2 cc2 c fr es L)) : w.cell? ⟨f, 0, none⟩ = some (.pointer (some ⟨p, 0, none⟩)) ∧ w.cell? ⟨f, 1, none⟩ = some (.pointer (some ⟨h, 0, none⟩)) ∧ w.cell? ⟨f, 2, none⟩ = some (.int .i64 goal) ∧ w.cell? ⟨f, 3, none⟩ = some (.slice (some ⟨g, 0, none⟩) n cc) ∧ w.cell? ⟨f, 4, none⟩ = some (.slice (some ⟨g2, 0, none⟩) n cc2) ∧ f < w.heap.size := by
  have hb := (X.blk 0 rfl).1
  exact ⟨cell_of hb 0, cell_of hb 1, cell_of hb 2, cell_of hb 3, cell_of hb 4, lt_of hb⟩
theorem sch_cost (X : Star w0 w (schL f p h goal g n cc g2 cc2 c fr es L)) (t : Nat) (ht : t < n) : w.cell? ⟨g, t, none⟩ = some (.int .i64 (cAt c t)) ∧ w.frozen? ⟨g, t, none⟩ = false ∧ g < w.heap.size ∧ ¬ f = g ∧ ¬ g = f := by
  have hl := (sch_len X).1
  have hr := (X.row 2 rfl).1
  obtain ⟨n1, n2⟩ := X.neBR 0 2 rfl rfl (by omega)
  exact ⟨(hr.cellAt t (by omega)).trans (by rw [List.getElem?_map, cAt_get (by omega)]; rfl), hr.frozenAt t, (hr.lt g rfl).2, n1, n2⟩
theorem sch_from (X : Star w0 w (schL f p h goal g n cc g2 cc2 c fr es L)) (t : Nat) (ht : t < n) : w.cell? ⟨g2, t, none⟩ = some (.int .i64 (cAt fr t)) ∧ w.frozen? ⟨g2, t, none⟩ = false ∧ g2 < w.heap.size ∧ (¬ f = g2 ∧ ¬ g2 = f) ∧ ¬ g = g2 ∧ ¬ g2 = g := by
  have hl := (sch_len X).2
  have hr := (X.row 3 rfl).1
  exact ⟨(hr.cellAt t (by omega)).trans (by rw [List.getElem?_map, cAt_get (by omega)]; rfl), hr.frozenAt t, (hr.lt g2 rfl).2, X.neBR 0 3 rfl rfl (by omega), X.neRR 2 3 rfl rfl (by omega)⟩
theorem sch_set (X : Star w0 w (schL f p h goal g n cc g2 cc2 c fr es L)) (t : Nat) (k u : Int) : Star w0 ((w.setCell ⟨g, t, none⟩ (.int .i64 k)).setCell ⟨g2, t, none⟩ (.int .i64 u)) (schL f p h goal g n cc g2 cc2 (c.set t k) (fr.set t u) es L) := by
  have h := (X.store 2 rfl t (.int .i64 k)).store 3 rfl t (.int .i64 u)
  simp only [List.set_cons_succ, List.set_cons_zero] at h
  rw [← List.map_set, ← List.map_set] at h
  exact h
set_option maxRecDepth 100000 in
theorem sreach_no (X : Star w0 w (schL f p h goal g n cc g2 cc2 c fr es L)) (t : Nat) (u k : Int) (ht : t < n) (h1 : cAt c t ≠ -1) (h2 : cAt c t ≤ k) :
    Calls Tryd.prog 43 #[.pointer (some ⟨f, 0, none⟩), .int .i64 t, .int .i64 u, .int .i64 k] w fun r w' => r = .returned .nilIface ∧ w = w' := by
  obtain ⟨c0, c1, c2, c3, c4, cl⟩ := sch_cells X
  obtain ⟨e0, -, gl, -, -⟩ := sch_cost X t ht
  generalize cAt c t = x at *
  have h1' : (x != -1) = true := by simpa using h1
  clear X h1
  go_enter Tryd.func43, Tryd.ntmps43
  go_wp2
  go_ret
  exact ⟨rfl, rfl⟩
set_option maxRecDepth 100000 in
set_option maxHeartbeats 4000000 in
theorem sreach_yes {G : Gr} {pg pc gt : Nat} (X : Star w0 w (schL f p h goal g n cc g2 cc2 c fr es L)) (hG : Gnd 93 w0 p pg pc G) (hn : n = G.fs.length) (hgt : goal = (gt : Int)) (hgl : gt < n) (t : Nat) (u k : Int) (ht : t < n) (h1 : cAt c t = -1 ∨ k < cAt c t) (hk : 0 ≤ k ∧ k ≤ 1000000) (hf : 1 + es.length ≤ 16384) :
    Calls Tryd.prog 43 #[.pointer (some ⟨f, 0, none⟩), .int .i64 t, .int .i64 u, .int .i64 k] w fun r w' => r = .returned .nilIface ∧ ∃ es', es'.Perm (es ++ [(k + G.guess t gt, (t : Int))]) ∧ Star w0 w' (schL f p h goal g n cc g2 cc2 (c.set t k) (fr.set t u) es' L) := by
  subst hgt
  obtain ⟨c0, c1, c2, c3, c4, cl⟩ := sch_cells X
  obtain ⟨e0, ef, gl, n1, n2⟩ := sch_cost X t ht
  obtain ⟨e1, ef2, gl2, ⟨n3, n4⟩, n5, n6⟩ := sch_from X t ht
  have hX2 := hid (sch_set X t k u)
  have HG := hid hG
  have HN := hid hn
  have hgb : 0 ≤ G.guess t gt ∧ G.guess t gt ≤ 1000000 := ⟨Gr.guess_nonneg _ _, by
    obtain ⟨a1, a2, a3, _⟩ := Gr.XY hG.ok t
    obtain ⟨b1, b2, b3, _⟩ := Gr.XY hG.ok gt
    have a4 := Gr.Yin hG.ok (t := t) (by omega)
    have b4 := Gr.Yin hG.ok (t := gt) (by omega)
    have := hG.ok.w2; have := hG.ok.h2
    unfold Gr.guess; omega⟩
  obtain ⟨gs, hgs⟩ : ∃ gs, gs = G.guess t gt := ⟨_, rfl⟩
  have HGS := hid hgs
  rw [← hgs] at hgb ⊢
  clear X hG hn hgs
  generalize cAt c t = x at *
  go_enter Tryd.func43, Tryd.ntmps43
  have hcase : (x != -1) = false ∨ ((x != -1) = true ∧ k < x) := by
    by_cases hx : x = -1
    · exact .inl (by rw [hx]; rfl)
    · exact .inr ⟨by simpa using hx, by omega⟩
  clear h1
  rcases hcase with h1' | ⟨h1', h2⟩
  all_goals
    go_wp2_with fail
    go_region
    have X2 := hid (hX2.out.go ((Chg.refl _).drew))
    clear hX2 c0 c1 c2 c3 c4 cl e0 e1 ef gl n1 n2 ef2 gl2 n3 n4 n5 n6 h1'
    generalize ((w.setCell _ _).setCell _ _).drew = w2 at *
    obtain ⟨c0, c1, c2, c3, c4, cl⟩ := sch_cells X2.out
    go_wp2
    go_region_held3 (fun w' => w'.cell? ⟨f, 0, none⟩ = some (.pointer (some ⟨p, 0, none⟩)) ∧ w'.cell? ⟨f, 2, none⟩ = some (.int .i64 gt)) (go_keep) ((go_at_call 67; refine (guess_in ((HG.out.same X2.out.same).same ((Chg.refl _).drew)) t gt (by rw [← HN.out]; exact ht) (by rw [← HN.out]; exact hgl)).mono ?_; rintro r w5 ⟨rfl, hs5⟩; have k0 := (hs5.after' ((Chg.refl w2).drew)).keep c0; have k1' := (hs5.after' ((Chg.refl w2).drew)).keep c2; have X5 := hid ((X2.out.go ((Chg.refl _).drew)).go hs5); clear hs5))
    rw [← HGS.out]
    clear c0 c1 c2 c3 c4 cl k0 k1' X2
    obtain ⟨c0, c1, c2, c3, c4, cl⟩ := sch_cells X5.out
    have XA := hid (((X5.out.alloc #[.int .i64 (k + gs), .int .i64 t] 110).pull 2 rfl))
    go_wp2_with fail
    refine (heap_push XA.out hf).mono ?_
    rintro r w' ⟨rfl, es', hp, hX⟩
    have HP := hid hp
    have HX := hid ((hX.swap.drop).swap)
    clear hX hp XA X5
    go_wp2
    go_ret
    exact ⟨rfl, es', HP.out, HX.out⟩
end
end Go.Proofs.YtdihnjhbopogoaaDoor.Jmp
namespace Go.Proofs.YtdihnjhbopogoaaDoor
theorem Gr.guess_le {G : Gr} (h : G.Ok) {a b : Nat} (ha : a < G.fs.length) (hb : b < G.fs.length) : G.guess a b ≤ 448 := by
  obtain ⟨a1, a2, a3, _⟩ := Gr.XY h a
  obtain ⟨b1, b2, b3, _⟩ := Gr.XY h b
  have a4 := Gr.Yin h ha
  have b4 := Gr.Yin h hb
  have := h.w2; have := h.h2
  unfold Gr.guess; omega
/-- The search's loop over the directions of a tile that has come out (st: it had come out before). -/
structure DirS (G : Gr) (s gt : Nat) (D : List Nat) (t : Nat) (k : Int) (n m j : Nat) (st : Bool) (c fr : List Int) (es : List (Int × Int)) : Prop where
  ast : Ast G s gt (fun u d => u ≠ t ∨ d < j ∨ st = true) c fr es D k
  here : t ∈ D
  key : st = true ∨ cAt c t + G.guess t gt = k
  cnt : es.length + 8 * (n - D.length) + 1 + (bif st then 0 else 8 - j) ≤ m
  top : ∀ u, cAt c u ≤ 448 * D.length
  low : st = true ∨ cAt c t + 448 ≤ 448 * D.length
section
variable {G : Gr} {s gt t n m j u : Nat} {D : List Nat} {k : Int} {st : Bool} {c fr : List Int} {es es' : List (Int × Int)}
theorem DirS.pass (h : DirS G s gt D t k n m j st c fr es) (hj : j < 8) (hu : ∀ u, G.jump gt t j = some u → cAt c u ≠ -1 ∧ cAt c u ≤ cAt c t + G.guess t u) : DirS G s gt D t k n m (j + 1) st c fr es := by
  refine ⟨h.ast.pass (fun x _ d z hq hz => ?_), h.here, h.key, ?_, h.top, h.low⟩
  · rcases hq with hq | hq | hq
    · exact .inl (.inl hq)
    · by_cases hd : d < j
      · exact .inl (.inr (.inl hd))
      · by_cases hx : x = t
        · subst hx
          obtain rfl : d = j := by omega
          obtain ⟨a, b⟩ := hu z hz
          have := h.ast.low z
          exact .inr ⟨by omega, b⟩
        · exact .inl (.inl hx)
    · exact .inl (.inr (.inr hq))
  · have := h.cnt
    cases st <;> simp only [cond_true, cond_false] at this ⊢ <;> omega
theorem DirS.none (h : DirS G s gt D t k n m j st c fr es) (hj : j < 8) (hu : G.jump gt t j = none) : DirS G s gt D t k n m (j + 1) st c fr es :=
  h.pass hj (fun z hz => by rw [hu] at hz; cases hz)
theorem DirS.yes (hG : G.Ok) (h : DirS G s gt D t k n m j st c fr es) (hj : j < 8) (hgl : gt < G.fs.length) (hu : G.jump gt t j = some u) (hlt : cAt c u = -1 ∨ cAt c t + G.guess t u < cAt c u) (hp : es'.Perm (es ++ [(cAt c t + G.guess t u + G.guess u gt, (u : Int))])) :
    DirS G s gt D t k n m (j + 1) st (c.set u (cAt c t + G.guess t u)) (fr.set u (t : Int)) es' ∧ u < G.fs.length ∧ cAt (c.set u (cAt c t + G.guess t u)) t = cAt c t := by
  obtain ⟨hne, h10, hd, hft, hfu⟩ := Gr.jump_ne hG hu
  have hst : st = false := by
    cases hst : st with
    | false => rfl
    | true =>
      have := h.ast.rel t h.here j u (.inr (.inr hst)) hu
      omega
  subst hst
  have hk : cAt c t + G.guess t gt = k := by rcases h.key with e | e; cases e; exact e
  have hlow : cAt c t + 448 ≤ 448 * D.length := by rcases h.low with e | e; cases e; exact e
  obtain ⟨a1, a2, a3, a4, a5⟩ := h.ast.reach hG (.inr trivial) h.here hk hu hlt
  have hs := fun v => cAt_set c u v (cAt c t + G.guess t u) (by rw [h.ast.len]; exact a2)
  have hlen := hp.length_eq
  simp only [List.length_append, List.length_singleton] at hlen
  have hgle := Gr.guess_le hG (Gr.free_in hft) a2
  have h3 : DirS G s gt D t k n (m + 1) j false (c.set u (cAt c t + G.guess t u)) (fr.set u (t : Int)) es' := by
    refine ⟨a4.perm hp, h.here, .inr (by rw [a5]; exact hk), ?_, fun v => ?_, .inr (by rw [a5]; exact hlow)⟩
    · have := h.cnt
      simp only [cond_false] at this ⊢
      omega
    · rw [hs]; split
      · omega
      · exact h.top v
  have h4 := h3.pass hj (fun z hz => by
    rw [hu] at hz; cases hz
    rw [hs, if_pos rfl, a5]
    have := (h.ast.inD t h.here).1
    exact ⟨by omega, Int.le_refl _⟩)
  refine ⟨⟨h4.ast, h4.here, h4.key, ?_, h4.top, h4.low⟩, a2, a5⟩
  have := h.cnt
  simp only [cond_false] at this ⊢
  omega
end
end Go.Proofs.YtdihnjhbopogoaaDoor
namespace Go.Proofs.YtdihnjhbopogoaaDoor.Jmp
open Go Go.RowKit Go.Proofs.YtdihnjhbopogoaaDoor.Hp Go.Proofs.YtdihnjhbopogoaaDoor.Steps Go.Proofs.YtdihnjhbopogoaaDoor.Route
/-- What the search's loop keeps: at most m entries and tiles are still to come. -/
def RunS (w0 : World) (L : List Res) (G : Gr) (s gt f p h g n cc g2 cc2 : Nat) (w : World) (m : Nat) : Prop :=
  ∃ (c fr : List Int) (es : List (Int × Int)) (D : List Nat) (k : Int), Star w0 w (schL f p h gt g n cc g2 cc2 c fr es L) ∧ Ast G s gt (fun _ _ => True) c fr es D k ∧ es.length + 8 * (n - D.length) ≤ m ∧ m ≤ 8 + 8 * n ∧ ∀ t, cAt c t ≤ 448 * D.length
theorem RunS.go {w0 w w' : World} {L : List Res} {G : Gr} {s gt f p h g n cc g2 cc2 m : Nat} (hR : RunS w0 L G s gt f p h g n cc g2 cc2 w m) (hs : Same w w') : RunS w0 L G s gt f p h g n cc g2 cc2 w' m := by
  obtain ⟨c, fr, es, D, k, h1, h2⟩ := hR
  exact ⟨c, fr, es, D, k, h1.go hs, h2⟩
/-- What the search has found. -/
def Found (G : Gr) (s gt : Nat) (c fr : List Int) : Prop :=
  (∃ es D m, Ast G s gt (fun _ _ => True) c fr es D m) ∧ (∀ t, cAt c t ≤ 448 * G.fs.length) ∧ ((0 ≤ cAt c gt ∧ ∀ k, Gr.To G [gt] s k → cAt c gt ≤ k) ∨ (cAt c gt = -1 ∧ ∀ k, ¬ Gr.To G [gt] s k))
set_option maxRecDepth 100000 in
set_option maxHeartbeats 16000000 in
theorem srun_any {w0 w : World} {L : List Res} {G : Gr} {s gt f p pg pc h g n cc g2 cc2 m : Nat} (hG : Gnd 93 w0 p pg pc G) (hn : n = G.fs.length) (hgl : gt < n) (hR : RunS w0 L G s gt f p h g n cc g2 cc2 w m) :
    Calls Tryd.prog 44 #[.pointer (some ⟨f, 0, none⟩)] w fun r w' => r = .returned .nilIface ∧ ∃ c fr es, Found G s gt c fr ∧ Star w0 w' (schL f p h gt g n cc g2 cc2 c fr es L) := by
  have HG := hid hG
  have hN := hG.ok.max
  have HN := hid hn
  rw [← hn] at hN
  have HR := hid hR
  clear hG hn hR
  go_enter Tryd.func44, Tryd.ntmps44
  go_wp2_with fail
  go_loopw [4] (fun _ wr => ∃ m, RunS w0 L G s gt f p h g n cc g2 cc2 wr m) (fun _ wr => leastN (RunS w0 L G s gt f p h g n cc g2 cc2 wr))
  case atStart => exact ⟨m, HR.out⟩
  case round =>
    have hm := leastN_spec hrel
    obtain ⟨m, hme⟩ : ∃ m, m = leastN (RunS w0 L G s gt f p h g n cc g2 cc2 wr) := ⟨_, rfl⟩
    rw [← hme] at hm
    have HME := hid hme
    clear hrel HR hme
    obtain ⟨c, fr, es, D, k, hX, hD, hcnt, hm8, htop⟩ := hm
    have X := hid hX
    have HD := hid hD
    have HT := hid htop
    obtain ⟨c0, c1, c2, c3, c4, cl⟩ := sch_cells hX
    clear hX hD htop
    go_wp2_with fail
    refine (heap_len (X.out.pull 1 rfl)).mono ?_
    rintro r w' ⟨rfl, rfl⟩
    by_cases h0 : 0 < es.length
    · go_wp2_with fail
      refine (heap_pop (X.out.pull 1 rfl) h0 (by omega)).mono ?_
      rintro r w1 ⟨⟨k1, e2⟩, es1, rfl, hp, hle, hX1⟩
      have hD1 := HD.out.perm hp
      obtain ⟨hme1, t, ht2, ht0, htle, -⟩ := hD1.ent _ List.mem_cons_self
      simp only at ht2 htle hme1 hle
      subst ht2
      have hes : es1.length + 1 = es.length := by have := hp.length_eq; simpa using this
      have hcard := HD.out.card
      rw [← HN.out] at hcard
      have htl : t < n := by have := cAt_in ht0; rwa [HD.out.len, ← HN.out] at this
      have hX2 := hX1.swap
      obtain ⟨d0, d1, d2, d3, d4, dl⟩ := sch_cells hX2
      have HLE := hid hle
      have HD1 := hid hD1
      have X3 : Hid (Star w0 (w1.alloc (.cells #[.int .i64 k1, .int .i64 t] 110)) (schL f p h gt g n cc g2 cc2 c fr es1 (Blk w1.heap.size #[.int .i64 k1, .int .i64 t] 110 :: L))) := hid (((((hX2.alloc #[.int .i64 k1, .int .i64 t] 110).pull 4 rfl).pull 4 rfl).pull 4 rfl).pull 4 rfl)
      clear X hX1 hX2 hp hD1 hle hme1 c0 c1 c2 c3 c4 cl
      by_cases htg : t = gt
      · subst htg
        have HF := hid (show Found G s t c fr from ⟨⟨_, _, _, HD1.out⟩, fun u => by have := HT.out u; have := HN.out; omega, .inl (HD1.out.found HG.out.ok rfl HLE.out)⟩)
        go_wp2
        go_quiet (fail)
        go_wp2
        go_ret
        exact ⟨rfl, c, fr, es1, HF.out, (((X3.out.go ((Chg.refl _).drewN _)).pull 4 rfl)).drop⟩
      · have htb : ((t : Int) == (gt : Int)) = false := by rw [beq_eq_false_iff_ne]; omega
        have HP := hid (HD1.out.pop rfl htg HLE.out)
        have hdir : ∃ st D', DirS G s gt D' t k1 n m 0 st c fr es1 := by
          rcases HP.out with ⟨h1, h2, h3⟩ | ⟨h1, h2⟩
          · have hc2 : D.length + 1 ≤ n := by have := h3.card; rw [← HN.out] at this; simpa using this
            refine ⟨false, t :: D, h3.pass (fun u _ d z hq _ => .inl (by rcases hq with hq | hq | hq; exact hq; omega; cases hq)), List.mem_cons_self, .inr h2, ?_, fun u => ?_, .inr ?_⟩
            · simp only [cond_false, List.length_cons]; omega
            · have := HT.out u; rw [List.length_cons]; omega
            · have := HT.out t; rw [List.length_cons]; omega
          · refine ⟨true, D, h2.pass (fun u _ d z _ _ => .inl trivial), h1, .inl rfl, ?_, HT.out, .inl rfl⟩
            simp only [cond_true]; omega
        obtain ⟨st, D', hS⟩ := hdir
        have HS := hid hS
        have hcard2 : D'.length ≤ n := by have := hS.ast.card; rwa [← HN.out] at this
        clear htg hS HP HD1 HLE HD HT
        go_wp2
        go_quiet (fail)
        have X4 := hid (X3.out.go ((Chg.refl _).drewN nq))
        clear X3 d0 d1 d2 d3 d4 dl htb
        generalize (w1.alloc _).drewN nq = w4 at *
        generalize w1.heap.size = q at *
        go_wp2_with fail
        go_loopw [37] (fun iv wr => ∃ (j : Nat) (c' fr' : List Int) (es' : List (Int × Int)), j ≤ 8 ∧ iv = .int .i64 j ∧ DirS G s gt D' t k1 n m j st c' fr' es' ∧ Star w0 wr (schL f p h gt g n cc g2 cc2 c' fr' es' (Blk q #[.int .i64 k1, .int .i64 t] 110 :: L))) (fun iv _ => 8 - (intOf iv).toNat)
        case atStart => exact ⟨0, c, fr, es1, by omega, rfl, HS.out, X4.out⟩
        case round =>
          obtain ⟨j, c', fr', es', hj, rfl, hI, hX⟩ := hrel
          have HI := hid hI
          have X := hid hX
          clear hI hX HS X4
          by_cases hj8 : j < 8
          · obtain ⟨d0, d1, d2, d3, d4, dl⟩ := sch_cells X.out
            have hbq := (X.out.blk 4 rfl).1
            have q1 := cell_of hbq 1
            have ql := lt_of hbq
            simp only [List.getElem?_toArray, List.getElem?_cons_zero, List.getElem?_cons_succ] at q1
            clear hbq
            go_wp2
            go_region_held3 (fun w' => w'.cell? ⟨f, 0, none⟩ = some (.pointer (some ⟨p, 0, none⟩)) ∧ w'.cell? ⟨q, 1, none⟩ = some (.int .i64 t) ∧ w'.cell? ⟨f, 2, none⟩ = some (.int .i64 gt)) (go_keep) ((go_at_call 11; refine (jump_nat ((HG.out.same X.out.same).same ((Chg.refl _).drew)) t j gt hj8).mono ?_; rintro r w5 ⟨rfl, hs5⟩; obtain ⟨ja, jb, je, jg⟩ : ∃ (ja : Int) (jb : Bool), jumpV (G.jump gt t j) = .tuple #[.int .i64 ja, .bool jb] ∧ ((jb = false ∧ G.jump gt t j = none) ∨ (jb = true ∧ ∃ u : Nat, ja = u ∧ G.jump gt t j = some u)) := (by cases G.jump gt t j with | none => exact ⟨-1, false, rfl, .inl ⟨rfl, rfl⟩⟩ | some u => exact ⟨u, true, rfl, .inr ⟨rfl, u, rfl, rfl⟩⟩); rw [je]; have JG := hid jg; have k0 := (hs5.after' ((Chg.refl wr).drew)).keep d0; have k1' := (hs5.after' ((Chg.refl wr).drew)).keep q1; have k2 := (hs5.after' ((Chg.refl wr).drew)).keep d2; have X5 := hid ((X.out.go ((Chg.refl _).drew)).go hs5); clear hs5 je jg))
            clear d0 d1 d2 d3 d4 dl q1 ql k0 k1' k2 X
            rcases JG.out with ⟨rfl, hjn⟩ | ⟨rfl, u, rfl, hju⟩
            · have HI2 := hid (HI.out.none hj8 hjn)
              clear hjn JG
              go_wp2
              go_roundw
              case rel => exact ⟨j + 1, c', fr', es', by omega, by go_num, HI2.out, X5.out⟩
              case measure => simp [intOf]; omega
            · have HJU := hid hju
              obtain ⟨-, hg10, -, -, hfu⟩ := Gr.jump_ne HG.out.ok hju
              have hul : u < n := by have := Gr.free_in hfu; rwa [← HN.out] at this
              have hgle : G.guess t u ≤ 448 := Gr.guess_le HG.out.ok (by rw [← HN.out]; exact htl) (by rw [← HN.out]; exact hul)
              obtain ⟨gs, hgs⟩ : ∃ gs, gs = G.guess t u := ⟨_, rfl⟩
              have HGS := hid hgs
              rw [← hgs] at hg10 hgle
              obtain ⟨d0, d1, d2, d3, d4, dl⟩ := sch_cells X5.out
              have hbq := (X5.out.blk 4 rfl).1
              have q1 := cell_of hbq 1
              have ql := lt_of hbq
              simp only [List.getElem?_toArray, List.getElem?_cons_zero, List.getElem?_cons_succ] at q1
              clear hbq hju hgs JG
              go_wp2
              go_region_held3 (fun w' => w'.cell? ⟨f, 0, none⟩ = some (.pointer (some ⟨p, 0, none⟩)) ∧ w'.cell? ⟨q, 1, none⟩ = some (.int .i64 t)) (go_keep) ((go_at_call 67; refine (guess_in ((HG.out.same X5.out.same).same ((Chg.refl _).drew)) t u (by rw [← HN.out]; exact htl) (by rw [← HN.out]; exact hul)).mono ?_; rintro r w6 ⟨rfl, hs6⟩; have k0 := (hs6.after' ((Chg.refl w5).drew)).keep d0; have k1' := (hs6.after' ((Chg.refl w5).drew)).keep q1; have X6 := hid ((X5.out.go ((Chg.refl _).drew)).go hs6); clear hs6))
              rw [← HGS.out]
              clear d0 d1 d2 d3 d4 dl q1 ql k0 k1' X5
              have hct := HI.out.top t
              have hc0 := (HI.out.ast.inD t HI.out.here).1
              have hcnt' : es'.length ≤ 8 * n + 8 := by have := HI.out.cnt; omega
              obtain ⟨ct, hcte⟩ : ∃ ct, ct = cAt c' t := ⟨_, rfl⟩
              have HCT := hid hcte
              rw [← hcte] at hct hc0
              clear hcte
              by_cases hno : cAt c' u ≠ -1 ∧ cAt c' u ≤ ct + gs
              · have HI2 := hid (HI.out.pass hj8 (fun z hz => by rw [HJU.out] at hz; cases hz; rw [← HCT.out, ← HGS.out]; exact hno))
                obtain ⟨d0, d1, d2, d3, d4, dl⟩ := sch_cells X6.out
                obtain ⟨e0, -, gl, -, -⟩ := sch_cost X6.out t htl
                rw [← HCT.out] at e0
                have hbq := (X6.out.blk 4 rfl).1
                have q1 := cell_of hbq 1
                have ql := lt_of hbq
                simp only [List.getElem?_toArray, List.getElem?_cons_zero, List.getElem?_cons_succ] at q1
                clear hbq
                have HNO := hid hno
                have hw1 : IntKind.i64.wrap (ct + gs) = ct + gs := IntWalk.i64_in _ (by omega)
                clear hno
                go_wp2
                go_region_held3 (fun w' => w'.cell? ⟨q, 1, none⟩ = some (.int .i64 t) ∧ w'.cell? ⟨f, 3, none⟩ = some (.slice (some ⟨g, 0, none⟩) n cc) ∧ w'.cell? ⟨g, t, none⟩ = some (.int .i64 ct)) (go_keep) ((go_at_call 43; refine (sreach_no (X6.out.go ((Chg.refl _).drew)) u t (ct + gs) hul HNO.out.1 HNO.out.2).mono ?_; rintro r w7 ⟨rfl, rfl⟩))
                have X7 := hid (X6.out.go ((Chg.refl _).drew))
                clear d0 d1 d2 d3 d4 dl q1 ql e0 gl X6 hw1
                go_wp2
                go_roundw
                case rel => exact ⟨j + 1, c', fr', es', by omega, by go_num, HI2.out, X7.out⟩
                case measure => simp [intOf]; omega
              · have hyes : cAt c' u = -1 ∨ ct + gs < cAt c' u := by omega
                have HYES := hid hyes
                obtain ⟨d0, d1, d2, d3, d4, dl⟩ := sch_cells X6.out
                obtain ⟨e0, -, gl, -, -⟩ := sch_cost X6.out t htl
                rw [← HCT.out] at e0
                have hbq := (X6.out.blk 4 rfl).1
                have q1 := cell_of hbq 1
                have ql := lt_of hbq
                simp only [List.getElem?_toArray, List.getElem?_cons_zero, List.getElem?_cons_succ] at q1
                have hw1 : IntKind.i64.wrap (ct + gs) = ct + gs := IntWalk.i64_in _ (by omega)
                have hkb : 0 ≤ ct + gs ∧ ct + gs ≤ 1000000 := by omega
                have HKB := hid hkb
                clear hbq hno hyes hkb
                go_wp2
                go_region_held3 (fun w' => w'.cell? ⟨q, 1, none⟩ = some (.int .i64 t) ∧ w'.cell? ⟨f, 3, none⟩ = some (.slice (some ⟨g, 0, none⟩) n cc) ∧ w'.cell? ⟨g, t, none⟩ = some (.int .i64 ct)) (go_keep) ((go_at_call 43; refine (sreach_yes (X6.out.go ((Chg.refl _).drew)) HG.out HN.out rfl hgl u t (ct + gs) hul HYES.out HKB.out (by omega)).mono ?_; rintro r w7 ⟨rfl, es7, hp7, hX7⟩; have HI2 := hid (HI.out.yes (es' := es7) HG.out.ok hj8 (by rw [← HN.out]; exact hgl) HJU.out (by rw [← HCT.out, ← HGS.out]; exact HYES.out) (by rw [← HCT.out, ← HGS.out]; exact hp7)); have X7 := hid hX7; have k3 := (sch_cells hX7).2.2.2.1; have k4 := cell_of (hX7.blk 4 rfl).1 1; have k5 := (sch_cost hX7 t htl).1; rw [show cAt (c'.set u (ct + gs)) t = ct from by rw [HCT.out, HGS.out]; exact HI2.out.2.2] at k5; simp only [List.getElem?_toArray, List.getElem?_cons_zero, List.getElem?_cons_succ] at k4; clear hX7 hp7))
                clear d0 d1 d2 d3 d4 dl q1 ql e0 gl X6 hw1 k3 k4 k5
                go_wp2
                go_roundw
                case rel => exact ⟨j + 1, _, _, es7, by omega, by go_num, HI2.out.1, by rw [← HCT.out, ← HGS.out]; exact X7.out⟩
                case measure => simp [intOf]; omega
          · obtain rfl : j = 8 := by omega
            have HR3 : Hid (RunS w0 L G s gt f p h g n cc g2 cc2 wr (m - 1)) := hid ⟨c', fr', es', D', k1, ((X.out.pull 4 rfl).drop), HI.out.ast.pass (fun x _ d z _ hz => .inl (.inr (.inl (Gr.jump_ne HG.out.ok hz).2.2.1))), by have := HI.out.cnt; omega, by omega, HI.out.top⟩
            have hmp : 1 ≤ m := by have := HI.out.cnt; omega
            go_wp2
            go_roundw
            case rel => exact ⟨m - 1, HR3.out⟩
            case measure =>
              rw [← HME.out]
              exact Nat.lt_of_le_of_lt (leastN_le HR3.out) (by omega)
    · have hes : es = [] := List.eq_nil_of_length_eq_zero (by omega)
      subst hes
      have HF := hid (show Found G s gt c fr from ⟨⟨_, _, _, HD.out⟩, fun u => by have := HT.out u; have := HD.out.card; omega, .inr (HD.out.none HG.out.ok)⟩)
      go_wp2
      go_ret
      exact ⟨rfl, c, fr, [], HF.out, X.out⟩
end Go.Proofs.YtdihnjhbopogoaaDoor.Jmp
