/-
  route.Find and route.Cost.
-/
import Derived.Test.YtilobedihjkpjaaDoorRouteCosts
namespace Go.Proofs.YtilobedihjkpjaaDoor
/-- A walk along costs that has come to t. -/
structure FolI (G : Gr) (c : List Int) (s : Nat) (pre : List Nat) (t : Nat) : Prop where
  back : ∀ r, Gr.Fol G c t r → Gr.Fol G c s (r.map (pre ++ ·))
  less : ∀ u ∈ pre, cAt c t < cAt c u
  nod : pre.Nodup
  inn : ∀ u ∈ pre, u < G.fs.length
  here : G.free t = true
theorem nodupLen : ∀ (n : Nat) {f : List Nat} (_ : f.Nodup) (_ : ∀ i ∈ f, i < n), f.length ≤ n := by
  intro n
  induction n with
  | zero =>
    intro f _ hb
    cases f with
    | nil => simp
    | cons x f => have := hb x List.mem_cons_self; omega
  | succ n ih =>
    intro f h hb
    by_cases hn : n ∈ f
    · have h1 := ih (h.erase n) (fun i hi => by
        have h2 := hb i (List.mem_of_mem_erase hi)
        have h3 := (h.mem_erase_iff).1 hi
        have := h3.1
        omega)
      rw [List.length_erase_of_mem hn] at h1
      omega
    · have := ih h (fun i hi => by have := hb i hi; have : i ≠ n := fun e => hn (e ▸ hi); omega)
      omega
section
variable {G : Gr} {c : List Int} {s t : Nat} {pre : List Nat}
theorem FolI.start (h : G.free s = true) : FolI G c s [] s := ⟨fun r h => by cases r <;> simpa using h, by simp, List.nodup_nil, by simp, h⟩
theorem FolI.nod1 (h : FolI G c s pre t) : (pre ++ [t]).Nodup := by
  rw [List.nodup_append]
  refine ⟨h.nod, by simp, fun a ha b hb => ?_⟩
  simp only [List.mem_singleton] at hb
  subst hb
  rintro rfl
  have := h.less _ ha
  omega
theorem FolI.in1 (h : FolI G c s pre t) : ∀ u ∈ pre ++ [t], u < G.fs.length := by
  intro u hu
  rw [List.mem_append] at hu
  rcases hu with hu | hu
  · exact h.inn u hu
  · simp only [List.mem_singleton] at hu; subst hu; exact Gr.free_in h.here
theorem FolI.len (h : FolI G c s pre t) : pre.length + 1 ≤ G.fs.length := by
  have := nodupLen _ h.nod1 h.in1
  simpa using this
theorem FolI.go (hG : G.Ok) (h : FolI G c s pre t) (hp : 0 < cAt c t) {x : Gr.St} (hx : G.nxt c t = some x) : FolI G c s (pre ++ [t]) x.to := by
  have hl := Gr.nxt_less hx
  refine ⟨fun r hr => ?_, fun u hu => ?_, h.nod1, h.in1, (Gr.go_end hG (Gr.mem_around.1 (Gr.nxt_some hx).1)).1⟩
  · have := h.back _ (.go hp hx hr)
    cases r with
    | none => simpa using this
    | some w => simpa using this
  · rw [List.mem_append] at hu
    rcases hu with hu | hu
    · have := h.less u hu; omega
    · simp only [List.mem_singleton] at hu; subst hu; exact hl
def nxtB (c : List Int) (t : Nat) (x : Gr.St) : Bool := decide (0 ≤ cAt c x.to) && decide (cAt c x.to = cAt c t - x.c)
theorem nxt_none (h : ∀ x ∈ G.around t, nxtB c t x = false) : G.nxt c t = none := by
  unfold Gr.nxt
  rw [List.find?_eq_none]
  intro x hx
  have := h x hx
  unfold nxtB at this
  rw [this]; simp
theorem nxt_at {j : Nat} {x : Gr.St} (hj : (G.around t)[j]? = some x) (h : ∀ y ∈ (G.around t).take j, nxtB c t y = false) (hx : nxtB c t x = true) : G.nxt c t = some x := by
  obtain ⟨hl, e⟩ := List.getElem?_eq_some_iff.1 hj
  unfold Gr.nxt
  have h0 : (G.around t).take j ++ x :: (G.around t).drop (j + 1) = G.around t := by
    rw [← e, ← List.drop_eq_getElem_cons hl, List.take_append_drop]
  rw [← h0, List.find?_append]
  have h1 : ((G.around t).take j).find? (fun x => decide (0 ≤ cAt c x.to) && decide (cAt c x.to = cAt c t - x.c)) = none := by
    rw [List.find?_eq_none]
    intro y hy
    have := h y hy
    unfold nxtB at this
    rw [this]; simp
  rw [h1, Option.none_or, List.find?_cons]
  unfold nxtB at hx
  rw [hx]
theorem Gr.Fol.total : ∃ r, Gr.Fol G c s r := by
  obtain ⟨n, hn⟩ : ∃ n : Nat, cAt c s ≤ n := ⟨(cAt c s).toNat, by omega⟩
  induction n using Nat.strongRecOn generalizing s with
  | _ n ih =>
    by_cases hp : 0 < cAt c s
    · cases hx : G.nxt c s with
      | none => exact ⟨_, .stuck hp hx⟩
      | some x =>
        have hl := Gr.nxt_less hx
        have h0 := (Gr.nxt_some hx).2.1
        obtain ⟨r, hr⟩ := ih (cAt c x.to).toNat (by omega) (s := x.to) (by omega)
        exact ⟨_, .go hp hx hr⟩
    · exact ⟨_, .done hp⟩
/-- A walk along costs has each tile once at most. -/
theorem Gr.Fol.len (hG : G.Ok) {W : List Nat} (h : Gr.Fol G c s (some W)) (hs : G.free s = true) : W.length ≤ G.fs.length := by
  have key : ∀ {t : Nat} {r : Option (List Nat)}, Gr.Fol G c t r → ∀ pre, FolI G c s pre t → ∀ W, r = some W → pre.length + W.length ≤ G.fs.length := by
    intro t r hf
    induction hf with
    | done _ => rintro pre hI W e; cases e; have := hI.len; simpa using this
    | stuck _ _ => rintro pre hI W e; cases e
    | @go u x r hp hx _ ih =>
      rintro pre hI W e
      cases r with
      | none => cases e
      | some l =>
        simp only [Option.map_some, Option.some.injEq] at e
        subst e
        have := ih _ (hI.go hG hp hx) l rfl
        simp only [List.length_append, List.length_singleton, List.length_cons] at this ⊢
        omega
  have := key h [] (FolI.start hs) W rfl
  simpa using this
theorem Gr.walkC_le : ∀ (l : List Nat) {k : Int}, G.walkC l = some k → k ≤ 14 * l.length
  | [], k, h => by simp [Gr.walkC] at h; subst h; simp
  | [x], k, h => by simp [Gr.walkC] at h; subst h; simp
  | x :: y :: l, k, h => by
    simp only [Gr.walkC] at h
    cases he : G.edge x y with
    | none => rw [he] at h; cases h
    | some e =>
      rw [he] at h
      simp only [Option.bind_some] at h
      cases hk : G.walkC (y :: l) with
      | none => rw [hk] at h; cases h
      | some k' =>
        rw [hk] at h
        simp only [Option.map_some, Option.some.injEq] at h
        have h1 := Gr.walkC_le (y :: l) hk
        obtain ⟨d, hd⟩ := Gr.edge_go he
        have := Gr.go_pos hd
        simp only [List.length_cons] at h1 ⊢
        omega
theorem Least.bound {gs : List Nat} (hG : G.Ok) (h : Least G gs c) (t : Nat) : cAt c t ≤ 14 * G.fs.length := by
  rcases h.low t with h0 | h0
  · omega
  · obtain ⟨W, hW⟩ := h.fol hG h0
    have hf := (h.real t h0).free.1
    obtain ⟨_, _, h3, _⟩ := hW.walk hG hf h0 W rfl
    have h1 := hW.len hG hf
    have := Gr.walkC_le W h3
    omega
end
end Go.Proofs.YtilobedihjkpjaaDoor
namespace Go.Proofs.YtilobedihjkpjaaDoor.Route
open Go Go.RowKit Go.Proofs.YtilobedihjkpjaaDoor.Hp Go.Proofs.YtilobedihjkpjaaDoor.Steps
theorem gC_len (l : List Nat) : (gC l).length = l.length := by simp [gC]
theorem gC_snoc (l : List Nat) (t : Nat) : gC (l ++ [t]) = gC l ++ [.int .i64 t] := by simp [gC]
/-- What Follow answers. -/
def folA (w w' : World) (e : Value) (r : Ending) (F : Option (List Nat)) : Prop :=
  match F with
  | some l => ∃ v, r = .returned (.tuple #[v, .nilIface]) ∧ Star w w' [Row 3 1 v l.length (gC l)]
  | none => r = .returned (.tuple #[.slice none 0 0, e]) ∧ Same w w'
section
variable {w : World} {p pg pc : Nat} {G : Gr}
set_option maxRecDepth 100000 in
set_option maxHeartbeats 4000000 in
theorem follow_ok (hG : Gnd 92 w p pg pc G) (c : List Int) (v : Value) (hr : Reads w v c.length 1 (c.map (Value.int .i64))) (hl : c.length = G.fs.length) (s : Nat) (hs : G.free s = true) (h0 : 0 ≤ cAt c s)
    (hm : ∀ t, cAt c t ≤ 9223372036854775807) (e : Value) (he : w.cell? ⟨9, 0, none⟩ = some e) (F : Option (List Nat)) (hF : Gr.Fol G c s F) :
    Calls Tryd.prog 81 #[.pointer (some ⟨p, 0, none⟩), v, .int .i64 s] w fun r w' => folA w w' e r F := by
  obtain ⟨i0, hi0, hz0, hz1, hz2⟩ := info_parts infoInt
  obtain ⟨av, cv, rfl⟩ := hr.slice
  have HG := hid hG
  have hN := hG.ok.max
  have HMX := hid hm
  have HE := hid he
  have HF := hid hF
  have hsl := Gr.free_in hs
  have HS := hid hs
  obtain ⟨n, hn⟩ : ∃ n, n = G.fs.length := ⟨_, rfl⟩
  have HN := hid hn
  rw [← hn] at hN hl hsl
  have HC : Hid (∀ t : Nat, t < n → ∃ b off cap, Value.slice av n cv = .slice (some ⟨b, off, none⟩) n cap ∧ w.cell? ⟨b, off + t, none⟩ = some (.int .i64 (cAt c t))) := hid (fun t ht => by
    obtain ⟨b, off, cap, e, _, hc⟩ := hr.open (by omega)
    rw [hl] at e
    exact ⟨b, off, cap, e, hc t _ (by rw [List.getElem?_map, cAt_get (by omega)]; rfl)⟩)
  rw [hl]
  clear hG hr hm he hF hs hn hl
  have hnn : ((n : Int) != (n : Int)) = false := by simp
  obtain ⟨b0, off0, cap0, e0, hc0⟩ := HC.out s hsl
  cases e0
  have hb0 := World.block_lt_of_cell? _ _ hc0
  go_enter Tryd.func81, Tryd.ntmps81
  go_wp2_with fail
  refine (len_any HG.out).mono ?_
  rintro r w' ⟨rfl, rfl⟩
  rw [← HN.out]
  go_wp2_with fail
  refine (len_any HG.out).mono ?_
  rintro r w' ⟨rfl, rfl⟩
  rw [← HN.out]
  go_wp2_with fail
  refine (free_any HG.out _).mono ?_
  rintro r w' ⟨rfl, rfl⟩
  rw [Gr.freeI_nat, HS.out]
  have X0 := hid ((Star.new w).add (w' := w.alloc (.cells #[.int .i64 s] 3)) ((Chg.refl _).alloc _) (R := Row 3 1 (.slice (some ⟨w.heap.size, 0, none⟩) 1 1) 1 (gC ([] ++ [s]))) ⟨World.ownsRow_lit w #[.int .i64 s] 1 (Nat.zero_le _) (by unfold maxLen; omega) rfl, rfl⟩ (fun k h => by have : w.heap.size = k := Option.some.inj h; omega))
  go_wp2_with fail
  clear hc0 hb0 hnn
  go_loopw [2, 8] (fun sv wv wr => ∃ (pre : List Nat) (t : Nat), sv = .int .i64 t ∧ FolI G c s pre t ∧ 0 ≤ cAt c t ∧ Star w wr [Row 3 1 wv (pre.length + 1) (gC (pre ++ [t]))]) (fun sv _ _ => (cAt c (intOf sv).toNat).toNat)
  case atStart => exact ⟨[], s, rfl, FolI.start HS.out, h0, X0.out⟩
  case round =>
    obtain ⟨pre, t, rfl, hI, ht0, hX⟩ := hrel
    have HI := hid hI
    have X := hid hX
    have htn : t < n := by have := Gr.free_in hI.here; rwa [← HN.out] at this
    have hpl : pre.length + 1 ≤ n := by have := hI.len; rwa [← HN.out] at this
    obtain ⟨wa, wc, rfl, -⟩ := own_slice (hX.row 0 rfl).1
    obtain ⟨b, off, cap, e1, hct⟩ := HC.out t htn
    cases e1
    have hc := hct
    have hct1 := X.out.same.keep hct
    have hbt := World.block_lt_of_cell? _ _ hct1
    have HCT := hid hc
    clear hI hX X0 hct hc
    by_cases hp : 0 < cAt c t
    · have hmx := HMX.out t
      go_wp2_with fail
      refine (around_any (HG.out.same X.out.same) _).mono ?_
      rintro r w2 ⟨v2, rfl, hY⟩
      rw [Gr.aroundI_nat] at hY
      have hl8 : (G.around t).length ≤ 8 := by rw [← Gr.aroundI_nat]; exact Gr.aroundTo_len _ _ _
      obtain ⟨l, hl⟩ : ∃ l, l = G.around t := ⟨_, rfl⟩
      have HL := hid hl
      rw [← hl] at hY hl8
      obtain ⟨va, vc, rfl, -⟩ := own_slice (hY.row 0 rfl).1
      have X2 : Hid (Star w w2 [Row 47 3 (.slice va l.length vc) l.length (stCs l), Row 3 1 (.slice wa (pre.length + 1) wc) (pre.length + 1) (gC (pre ++ [t]))]) := hid (X.out.lift hY)
      clear hY hl hct1 hbt X
      go_wp2_with fail
      go_loopw [9, 54] (fun nv iv wr => ∃ j : Nat, j ≤ l.length ∧ iv = .int .i64 j ∧ nv = .int .i64 (-1) ∧ (∀ y ∈ l.take j, nxtB c t y = false) ∧ Star w wr [Row 47 3 (.slice va l.length vc) l.length (stCs l), Row 3 1 (.slice wa (pre.length + 1) wc) (pre.length + 1) (gC (pre ++ [t]))]) (fun _ iv _ => l.length - (intOf iv).toNat)
      case atStart => exact ⟨0, by omega, rfl, rfl, by simp, X2.out⟩
      case round =>
        obtain ⟨j, hj, rfl, rfl, hno, hX⟩ := hrel
        have X := hid hX
        have HNO := hid hno
        have hct1 := hX.same.keep HCT.out
        have hbt := World.block_lt_of_cell? _ _ hct1
        clear hX hno X2
        by_cases hjl : j < l.length
        · obtain ⟨s1, hs1⟩ : ∃ s, l[j]? = some s := ⟨_, List.getElem?_eq_getElem hjl⟩
          have hrow := (X.out.row 0 rfl).1
          obtain ⟨gs3, cs3, e3⟩ := own_shape hrow (by omega)
          cases e3
          have g0 : wr.cell? ⟨gs3, j * 3, none⟩ = some (.int .i64 s1.d) := (hrow.cellAt (j * 3) (by omega)).trans ((rows_get stC stC_len l j 0 s1 hs1 (by omega)).trans rfl)
          have g1 : wr.cell? ⟨gs3, j * 3 + 1, none⟩ = some (.int .i64 s1.to) := (hrow.cellAt (j * 3 + 1) (by omega)).trans ((rows_get stC stC_len l j 1 s1 hs1 (by omega)).trans rfl)
          have g2 : wr.cell? ⟨gs3, j * 3 + 2, none⟩ = some (.int .i64 s1.c) := (hrow.cellAt (j * 3 + 2) (by omega)).trans ((rows_get stC stC_len l j 2 s1 hs1 (by omega)).trans rfl)
          have gl := (hrow.lt gs3 rfl).2
          have hmem : s1 ∈ G.around t := by rw [← HL.out]; exact List.mem_of_getElem? hs1
          have hpos := Gr.go_pos (Gr.mem_around.1 hmem)
          have hto : s1.to < n := by
            have := Gr.free_in (Gr.go_end HG.out.ok (Gr.mem_around.1 hmem)).1
            rwa [← HN.out] at this
          have HSJ := hid (show (G.around t)[j]? = some s1 by rw [← HL.out]; exact hs1)
          have HTK := hid (show l.take (j + 1) = l.take j ++ [s1] by
            obtain ⟨h1, h2⟩ := List.getElem?_eq_some_iff.1 hs1
            rw [List.take_succ_eq_append_getElem h1, h2])
          obtain ⟨sd, sto, sc⟩ := s1
          dsimp only at g0 g1 g2 hpos hto
          obtain ⟨b', off', cap', e4, hcx⟩ := HC.out sto hto
          cases e4
          have hcx1 := X.out.same.keep hcx
          have hw1 : IntKind.i64.wrap (cAt c t - sc) = cAt c t - sc := IntWalk.i64_in _ (by omega)
          have hnb : nxtB c t ⟨sd, sto, sc⟩ = (decide (0 ≤ cAt c sto) && decide (cAt c sto = cAt c t - sc)) := rfl
          have HNB := hid hnb
          clear hrow hs1 hmem hcx hnb
          by_cases h1 : 0 ≤ cAt c sto
          · by_cases h2 : cAt c sto = cAt c t - sc
            · have h2' : (cAt c sto == cAt c t - sc) = true := by simpa using h2
              have HX := hid (nxt_at HSJ.out (by rw [← HL.out]; exact HNO.out) (by rw [HNB.out, decide_eq_true h1, decide_eq_true h2]; rfl))
              have hne : ((sto : Int) == -1) = false := by rw [beq_eq_false_iff_ne]; omega
              have HI2 := hid (HI.out.go HG.out.ok hp HX.out)
              have hless := Gr.nxt_less HX.out
              dsimp only at hless
              have XA := hid (X.out.alloc #[.int .i64 sd, .int .i64 sto, .int .i64 sc] 47)
              clear h2
              go_wp2
              go_quiet (fail)
              have XB := hid (XA.out.go ((Chg.refl _).drewN nq))
              clear XA X hct1 hbt hcx1 g0 g1 g2 gl
              generalize (wr.alloc _).drewN nq = w3 at *
              generalize wr.heap.size = q at *
              have hbq := (XB.out.blk 0 rfl).1
              have q1 := cell_of hbq 1
              have ql := lt_of hbq
              simp only [List.getElem?_toArray, List.getElem?_cons_zero, List.getElem?_cons_succ] at q1
              clear hbq
              have XD := hid (XB.out.alloc #[.int .i64 sto] 3)
              go_wp2_with (at_builtin; refine wpList_app rfl (.tmp 83) (.tmp 85) 24 rfl 3 i0 (.int .i64 0) 1 8 Tryd.underlying24 hi0 hz0 hz1 hz2 rfl (by decide) _ (pre.length + 1) (gC (pre ++ [t])) rfl (XD.out.row 3 rfl).1 (some ⟨w3.heap.size, 0, none⟩) 1 1 [.int .i64 sto] rfl (reads_blk (XD.out.blk 0 rfl).1 1 1 1 rfl) (by simp [Value.oneCell']) (by omega) (by omega) ?_; intro a5 c5 w5 ho5 hg5 hn5; have X5 := hid (XD.out.grown 3 rfl ho5 hg5 hn5).drop.drop.drop; clear ho5 hg5 hn5)
              go_roundw
              case rel => exact ⟨pre ++ [t], sto, rfl, HI2.out, h1, by rw [gC_snoc, List.length_append]; exact X5.out⟩
              case measure => simp [intOf]; omega
            · have h2' : (cAt c sto == cAt c t - sc) = false := by simpa using h2
              have HN1 := hid (show nxtB c t ⟨sd, sto, sc⟩ = false by rw [HNB.out, decide_eq_false h2, Bool.and_false])
              clear h2
              go_wp2
              go_quiet (fail)
              go_wp2
              go_roundw
              case rel =>
                refine ⟨j + 1, by omega, by go_num, rfl, fun y hy => ?_, X.out.go (((Chg.refl _).alloc _).drewN _)⟩
                rw [HTK.out, List.mem_append] at hy
                rcases hy with hy | hy
                · exact HNO.out y hy
                · simp only [List.mem_singleton] at hy
                  subst hy
                  exact HN1.out
              case measure => simp [intOf]; omega
          · have HN1 := hid (show nxtB c t ⟨sd, sto, sc⟩ = false by rw [HNB.out, decide_eq_false h1, Bool.false_and])
            have hd : decide (0 ≤ cAt c sto) = false := decide_eq_false h1
            go_wp2
            go_quiet (fail)
            go_wp2
            go_roundw
            case rel =>
              refine ⟨j + 1, by omega, by go_num, rfl, fun y hy => ?_, X.out.go (((Chg.refl _).alloc _).drewN _)⟩
              rw [HTK.out, List.mem_append] at hy
              rcases hy with hy | hy
              · exact HNO.out y hy
              · simp only [List.mem_singleton] at hy
                subst hy
                exact HN1.out
            case measure => simp [intOf]; omega
        · have HST : Hid (F = none) := hid (by
            have h1 := HNO.out
            rw [List.take_of_length_le (by omega), HL.out] at h1
            exact HF.out.det (HI.out.back _ (.stuck hp (nxt_none h1))))
          have hE := X.out.same.keep HE.out
          go_wp2
          go_quiet (fail)
          go_wp2
          go_ret2
          rw [HST.out]
          exact ⟨rfl, X.out.same.drewN _⟩
    · have HFF : Hid (F = some (pre ++ [t])) := hid (HF.out.det (HI.out.back _ (.done hp)))
      go_wp2
      go_ret2
      rw [HFF.out]
      exact ⟨_, rfl, by rw [List.length_append]; exact X.out⟩

set_option maxRecDepth 100000 in
set_option maxHeartbeats 4000000 in
theorem follow_no (hG : Gnd 92 w p pg pc G) (c : List Int) (v : Value) (hr : Reads w v c.length 1 (c.map (Value.int .i64))) (hl : c.length = G.fs.length) (s : Nat) (hsl : s < G.fs.length) (hs : G.free s = false ∨ cAt c s < 0)
    (e : Value) (he : w.cell? ⟨9, 0, none⟩ = some e) :
    Calls Tryd.prog 81 #[.pointer (some ⟨p, 0, none⟩), v, .int .i64 s] w fun r w' => r = .returned (.tuple #[.slice none 0 0, e]) ∧ Same w w' := by
  have HG := hid hG
  have hN := hG.ok.max
  have HE := hid he
  obtain ⟨n, hn⟩ : ∃ n, n = G.fs.length := ⟨_, rfl⟩
  have HN := hid hn
  rw [← hn] at hN hl hsl
  obtain ⟨b, off, cap, rfl, hb, hc⟩ := hr.open (by omega)
  have hcs : w.cell? ⟨b, off + s, none⟩ = some (.int .i64 (cAt c s)) := hc s _ (by rw [List.getElem?_map, cAt_get (by omega)]; rfl)
  rw [hl]
  clear hG hr he hn hl hc
  have hnn : ((n : Int) != (n : Int)) = false := by simp
  go_enter Tryd.func81, Tryd.ntmps81
  go_wp2_with fail
  refine (len_any HG.out).mono ?_
  rintro r w' ⟨rfl, rfl⟩
  rw [← HN.out]
  go_wp2_with fail
  refine (len_any HG.out).mono ?_
  rintro r w' ⟨rfl, rfl⟩
  rw [← HN.out]
  go_wp2_with fail
  refine (free_any HG.out _).mono ?_
  rintro r w' ⟨rfl, rfl⟩
  rw [Gr.freeI_nat]
  have hE := HE.out
  cases hf : G.free s with
  | false =>
    go_wp2
    go_quiet (fail)
    go_wp2
    go_ret2
    exact ⟨rfl, (Chg.refl _).drewN _⟩
  | true =>
    have hlt : cAt c s < 0 := by rcases hs with h | h; rw [hf] at h; cases h; exact h
    clear hs
    go_wp2
    go_quiet (fail)
    go_wp2
    go_ret2
    exact ⟨rfl, (Chg.refl _).drewN _⟩

set_option maxRecDepth 100000 in
set_option maxHeartbeats 4000000 in
theorem follow_form (hG : Gnd 92 w p pg pc G) (a : Option Addr) (n cp : Nat) (s : Int) (hl : n ≠ G.fs.length) (e : Value) (he : w.cell? ⟨7, 0, none⟩ = some e) :
    Calls Tryd.prog 81 #[.pointer (some ⟨p, 0, none⟩), .slice a n cp, .int .i64 s] w fun r w' => r = .returned (.tuple #[.slice none 0 0, e]) ∧ Same w w' := by
  have HG := hid hG
  have hne : ((n : Int) != (G.fs.length : Int)) = true := by rw [bne_iff_ne]; omega
  clear hG
  go_enter Tryd.func81, Tryd.ntmps81
  go_wp2_with fail
  refine (len_any HG.out).mono ?_
  rintro r w' ⟨rfl, rfl⟩
  go_wp2
  go_quiet (fail)
  go_wp2
  go_ret2
  exact ⟨rfl, (Chg.refl _).drewN _⟩

set_option maxRecDepth 100000 in
set_option maxHeartbeats 4000000 in
theorem follow_range (hG : Gnd 92 w p pg pc G) (a : Option Addr) (n cp : Nat) (s : Int) (hl : n = G.fs.length) (hs : ¬ (0 ≤ s ∧ s < G.fs.length)) (e : Value) (he : w.cell? ⟨1, 0, none⟩ = some e) :
    Calls Tryd.prog 81 #[.pointer (some ⟨p, 0, none⟩), .slice a n cp, .int .i64 s] w fun r w' => r = .returned (.tuple #[.slice none 0 0, e]) ∧ Same w w' := by
  have HG := hid hG
  have HN := hid hl
  rw [← hl] at hs
  have hnn : ((n : Int) != (n : Int)) = false := by simp
  clear hG hl
  go_enter Tryd.func81, Tryd.ntmps81
  go_wp2_with fail
  refine (len_any HG.out).mono ?_
  rintro r w' ⟨rfl, rfl⟩
  rw [← HN.out]
  by_cases h0 : s < 0
  · go_wp2
    go_quiet (fail)
    go_wp2
    go_ret2
    exact ⟨rfl, (Chg.refl _).drewN _⟩
  · have hsn : (n : Int) ≤ s := by omega
    go_wp2_with fail
    refine (len_any HG.out).mono ?_
    rintro r w' ⟨rfl, rfl⟩
    rw [← HN.out]
    go_wp2
    go_quiet (fail)
    go_wp2
    go_ret2
    exact ⟨rfl, (Chg.refl _).drewN _⟩
end
end Go.Proofs.YtilobedihjkpjaaDoor.Route
namespace Go.Proofs.YtilobedihjkpjaaDoor
section
variable {G : Gr} {gs : List Nat}
noncomputable def leastOf (G : Gr) (gs : List Nat) (t : Nat) : Int := @ite _ (∃ k : Nat, Gr.To G gs t k) (Classical.propDecidable _) ((leastN fun k : Nat => Gr.To G gs t k : Nat) : Int) (-1)
theorem Least.exists (G : Gr) (gs : List Nat) : ∃ c, Least G gs c := by
  have hof : ∀ t k, Gr.To G gs t k → ∃ j : Nat, k = j ∧ Gr.To G gs t (j : Int) := fun t k h => by
    have := h.free.2
    exact ⟨k.toNat, by omega, by rw [show ((k.toNat : Nat) : Int) = k by omega]; exact h⟩
  have hat : ∀ t, cAt ((List.range G.fs.length).map (leastOf G gs)) t = leastOf G gs t := fun t => by
    unfold cAt
    rw [List.getD_eq_getElem?_getD, List.getElem?_map]
    by_cases h : t < G.fs.length
    · simp [h]
    · rw [List.getElem?_eq_none (by simp; omega)]
      unfold leastOf
      rw [if_neg]
      · rfl
      · rintro ⟨k, hk⟩; exact h (Gr.free_in hk.free.1)
  refine ⟨(List.range G.fs.length).map (leastOf G gs), by simp, fun t => ?_, fun t => ?_, fun t k hT => ?_⟩
  · rw [hat]; unfold leastOf
    split
    · right; omega
    · left; rfl
  · rw [hat]; unfold leastOf
    split
    · rename_i h; intro _; exact leastN_spec (P := fun k : Nat => Gr.To G gs t k) h
    · intro h; omega
  · obtain ⟨j, rfl, hj⟩ := hof t k hT
    rw [hat]; unfold leastOf
    rw [if_pos ⟨j, hj⟩]
    have := leastN_le (P := fun k : Nat => Gr.To G gs t k) hj
    omega
end
end Go.Proofs.YtilobedihjkpjaaDoor
namespace Go.Proofs.YtilobedihjkpjaaDoor.Route
open Go Go.RowKit Go.Proofs.YtilobedihjkpjaaDoor.Hp Go.Proofs.YtilobedihjkpjaaDoor.Steps
section
variable {w : World} {p pg pc : Nat} {G : Gr}
set_option maxRecDepth 100000 in
theorem find_range (hG : Gnd 92 w p pg pc G) (s t : Int) (hst : ¬ (0 ≤ s ∧ s < G.fs.length) ∨ ¬ (0 ≤ t ∧ t < G.fs.length)) (T : TypeId) (u : Addr) (he : w.cell? ⟨1, 0, none⟩ = some (.iface T (.pointer (some u)))) :
    Calls Tryd.prog 62 #[.pointer (some ⟨p, 0, none⟩), .int .i64 s, .int .i64 t] w fun r w' => r = .returned (.tuple #[.slice none 0 0, .int .i64 0, .iface T (.pointer (some u))]) ∧ Same w w' := by
  have HG := hid hG
  have HST := hid hst
  obtain ⟨n, hn⟩ : ∃ n, n = G.fs.length := ⟨_, rfl⟩
  have HN := hid hn
  clear hG hst hn
  go_enter Tryd.func62, Tryd.ntmps62
  by_cases h0 : s < 0
  · go_wp2
    go_quiet (fail)
    go_wp2
    go_ret3
    exact ⟨rfl, (Chg.refl _).drewN _⟩
  · by_cases hsn : s < n
    · have ht : ¬ (0 ≤ t ∧ t < G.fs.length) := by have := HST.out; rw [← HN.out] at this ⊢; omega
      have HT := hid ht
      clear ht
      go_wp2_with fail
      refine (len_any HG.out).mono ?_
      rintro r w' ⟨rfl, rfl⟩
      rw [← HN.out]
      have X := hid ((Star.new w).alloc #[.int .i64 t] 3)
      go_wp2_with fail
      refine (costs_range (HG.out.same X.out.same) t _ (reads_blk (X.out.blk 0 rfl).1 1 1 1 rfl) HT.out _ (X.out.same.keep he)).mono ?_
      rintro r w2 ⟨rfl, hs⟩
      have X2 := hid (X.out.go hs)
      clear hs X
      go_wp2
      go_ret3
      exact ⟨rfl, X2.out.same⟩
    · have hsn' : (n : Int) ≤ s := by omega
      go_wp2_with fail
      refine (len_any HG.out).mono ?_
      rintro r w' ⟨rfl, rfl⟩
      rw [← HN.out]
      go_wp2
      go_quiet (fail)
      go_wp2
      go_ret3
      exact ⟨rfl, (Chg.refl _).drewN _⟩

set_option maxRecDepth 100000 in
set_option maxHeartbeats 1000000 in
theorem find_path (hG : Gnd 92 w p pg pc G) (s t : Nat) (hsl : s < G.fs.length) (htl : t < G.fs.length) {c : List Int} (hL : Least G [t] c) (h0 : cAt c s = -1) (T : TypeId) (u : Addr) (he : w.cell? ⟨9, 0, none⟩ = some (.iface T (.pointer (some u)))) :
    Calls Tryd.prog 62 #[.pointer (some ⟨p, 0, none⟩), .int .i64 s, .int .i64 t] w fun r w' => r = .returned (.tuple #[.slice none 0 0, .int .i64 0, .iface T (.pointer (some u))]) ∧ Same w w' := by
  have HG := hid hG
  have HL := hid hL
  have H0 := hid h0
  have HE := hid he
  obtain ⟨n, hn⟩ : ∃ n, n = G.fs.length := ⟨_, rfl⟩
  have HN := hid hn
  rw [← hn] at hsl htl
  clear hG hn hL h0 he
  go_enter Tryd.func62, Tryd.ntmps62
  go_wp2_with fail
  refine (len_any HG.out).mono ?_
  rintro r w' ⟨rfl, rfl⟩
  rw [← HN.out]
  have X := hid ((Star.new w).alloc #[.int .i64 t] 3)
  go_wp2_with fail
  refine (costs_ok (HG.out.same X.out.same) [t] _ (reads_blk (X.out.blk 0 rfl).1 1 1 1 rfl) (by simp) (by simp) (by intro x hx; simp only [List.mem_singleton] at hx; subst hx; rw [← HN.out]; exact htl)).mono ?_
  rintro r w2 ⟨c', g, cc, rfl, hL', hT', hX2⟩
  obtain rfl := hL'.unique HL.out
  have hcl : c'.length = n := by rw [HL.out.len, HN.out]
  have X2 := hid (X.out.lift hX2)
  have hrow := (X2.out.row 0 rfl).1
  have HC := hid (show Reads w2 (.slice (some ⟨g, 0, none⟩) c'.length cc) c'.length 1 (c'.map (Value.int .i64)) by rw [HL.out.len]; exact Reads.of_own hrow)
  rw [← HN.out] at X2 ⊢
  rw [hcl] at HC
  clear hX2 X hL' hT' hrow hcl
  go_wp2_with fail
  refine (follow_no (HG.out.same X2.out.same) c' _ (by rw [HL.out.len, ← HN.out]; exact HC.out) HL.out.len s (by rw [← HN.out]; exact hsl) (.inr (by rw [H0.out]; omega)) _ (X2.out.same.keep HE.out)).mono ?_
  rintro r w3 ⟨rfl, hs⟩
  have X3 := hid (X2.out.go hs)
  clear hs X2
  go_wp2
  go_ret3
  exact ⟨rfl, X3.out.same⟩

set_option maxRecDepth 100000 in
set_option maxHeartbeats 1000000 in
theorem find_ok (hG : Gnd 92 w p pg pc G) (s t : Nat) (hsl : s < G.fs.length) (htl : t < G.fs.length) {c : List Int} (hL : Least G [t] c) (h0 : 0 ≤ cAt c s) {W : List Nat} (hW : Gr.Fol G c s (some W)) (T : TypeId) (u : Addr) (he : w.cell? ⟨9, 0, none⟩ = some (.iface T (.pointer (some u)))) :
    Calls Tryd.prog 62 #[.pointer (some ⟨p, 0, none⟩), .int .i64 s, .int .i64 t] w fun r w' => ∃ v, r = .returned (.tuple #[v, .int .i64 (cAt c s), .nilIface]) ∧ Star w w' [Row 3 1 v W.length (gC W)] := by
  have HG := hid hG
  have HL := hid hL
  have HW := hid hW
  have HE := hid he
  have hN := hG.ok.max
  obtain ⟨n, hn⟩ : ∃ n, n = G.fs.length := ⟨_, rfl⟩
  have HN := hid hn
  rw [← hn] at hsl htl hN
  clear hG hn hL hW he
  go_enter Tryd.func62, Tryd.ntmps62
  go_wp2_with fail
  refine (len_any HG.out).mono ?_
  rintro r w' ⟨rfl, rfl⟩
  rw [← HN.out]
  have X := hid ((Star.new w).alloc #[.int .i64 t] 3)
  go_wp2_with fail
  refine (costs_ok (HG.out.same X.out.same) [t] _ (reads_blk (X.out.blk 0 rfl).1 1 1 1 rfl) (by simp) (by simp) (by intro x hx; simp only [List.mem_singleton] at hx; subst hx; rw [← HN.out]; exact htl)).mono ?_
  rintro r w2 ⟨c', g, cc, rfl, hL', hT', hX2⟩
  obtain rfl := hL'.unique HL.out
  have hcl : c'.length = n := by rw [HL.out.len, HN.out]
  have HT' := hid hT'
  have X2 := hid (X.out.lift hX2)
  have hrow := (X2.out.row 0 rfl).1
  have HC := hid (show Reads w2 (.slice (some ⟨g, 0, none⟩) c'.length cc) c'.length 1 (c'.map (Value.int .i64)) by rw [HL.out.len]; exact Reads.of_own hrow)
  rw [← HN.out] at X2 HT' ⊢
  rw [hcl] at HC
  clear hX2 X hL' hT' hrow
  go_wp2_with fail
  refine (follow_ok (HG.out.same X2.out.same) c' _ (by rw [HL.out.len, ← HN.out]; exact HC.out) HL.out.len s (HL.out.real s h0).free.1 h0 (fun t => by have := HT'.out t; omega) _ (X2.out.same.keep HE.out) _ HW.out).mono ?_
  rintro r w3 ⟨v, rfl, hX3⟩
  have X3 := hid (X2.out.lift hX3)
  obtain ⟨va, vc, rfl, -⟩ := own_slice (hX3.row 0 rfl).1
  have hrow := (X3.out.row 1 rfl).1
  have hc : w3.cell? ⟨g, s, none⟩ = some (.int .i64 (cAt c' s)) := (hrow.cellAt s (by omega)).trans (by rw [List.getElem?_map, cAt_get (by omega)]; rfl)
  have hgl := (hrow.lt g rfl).2
  clear hX3 X2 hrow HC
  go_wp2
  go_quiet (fail)
  go_wp2
  go_ret3
  exact ⟨_, rfl, ((X3.out.swap).drop.swap.drop).go ((Chg.refl _).drewN _)⟩

set_option maxRecDepth 100000 in
theorem cost_range (hG : Gnd 92 w p pg pc G) (s t : Int) (hst : ¬ (0 ≤ s ∧ s < G.fs.length) ∨ ¬ (0 ≤ t ∧ t < G.fs.length)) (T : TypeId) (u : Addr) (he : w.cell? ⟨1, 0, none⟩ = some (.iface T (.pointer (some u)))) :
    Calls Tryd.prog 36 #[.pointer (some ⟨p, 0, none⟩), .int .i64 s, .int .i64 t] w fun r w' => r = .returned (.tuple #[.int .i64 0, .iface T (.pointer (some u))]) ∧ Same w w' := by
  have HF := hid (find_range hG s t hst T u he)
  clear hG hst
  go_enter Tryd.func36, Tryd.ntmps36
  go_wp2_with fail
  refine HF.out.mono ?_
  rintro r w2 ⟨rfl, hs⟩
  have S := hid hs
  clear hs HF
  go_wp2
  go_ret2
  exact ⟨rfl, S.out⟩
set_option maxRecDepth 100000 in
theorem cost_path (hG : Gnd 92 w p pg pc G) (s t : Nat) (hsl : s < G.fs.length) (htl : t < G.fs.length) {c : List Int} (hL : Least G [t] c) (h0 : cAt c s = -1) (T : TypeId) (u : Addr) (he : w.cell? ⟨9, 0, none⟩ = some (.iface T (.pointer (some u)))) :
    Calls Tryd.prog 36 #[.pointer (some ⟨p, 0, none⟩), .int .i64 s, .int .i64 t] w fun r w' => r = .returned (.tuple #[.int .i64 0, .iface T (.pointer (some u))]) ∧ Same w w' := by
  have HF := hid (find_path hG s t hsl htl hL h0 T u he)
  clear hG hL h0
  go_enter Tryd.func36, Tryd.ntmps36
  go_wp2_with fail
  refine HF.out.mono ?_
  rintro r w2 ⟨rfl, hs⟩
  have S := hid hs
  clear hs HF
  go_wp2
  go_ret2
  exact ⟨rfl, S.out⟩
set_option maxRecDepth 100000 in
theorem cost_ok (hG : Gnd 92 w p pg pc G) (s t : Nat) (hsl : s < G.fs.length) (htl : t < G.fs.length) {c : List Int} (hL : Least G [t] c) (h0 : 0 ≤ cAt c s) (T : TypeId) (u : Addr) (he : w.cell? ⟨9, 0, none⟩ = some (.iface T (.pointer (some u)))) :
    Calls Tryd.prog 36 #[.pointer (some ⟨p, 0, none⟩), .int .i64 s, .int .i64 t] w fun r w' => r = .returned (.tuple #[.int .i64 (cAt c s), .nilIface]) ∧ Same w w' := by
  obtain ⟨W, hW⟩ := hL.fol hG.ok h0
  have HF := hid (find_ok hG s t hsl htl hL h0 hW T u he)
  generalize cAt c s = x at *
  clear hG hL h0 hW
  go_enter Tryd.func36, Tryd.ntmps36
  go_wp2_with fail
  refine HF.out.mono ?_
  rintro r w2 ⟨v, rfl, hX⟩
  have S := hid hX.same
  obtain ⟨va, vc, rfl, -⟩ := own_slice (hX.row 0 rfl).1
  clear hX HF
  go_wp2
  go_ret2
  exact ⟨rfl, S.out⟩
end
end Go.Proofs.YtilobedihjkpjaaDoor.Route
