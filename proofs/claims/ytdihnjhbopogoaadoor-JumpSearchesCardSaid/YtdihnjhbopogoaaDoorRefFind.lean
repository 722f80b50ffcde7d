/-
  paddockref17's Find.
-/
import Derived.Test.YtdihnjhbopogoaaDoorRefCosts
namespace Go.Proofs.YtdihnjhbopogoaaDoor
def Gr.aroundFrom (G : Gr) (t d : Nat) : List Gr.St := ((List.range 8).drop d).filterMap (G.step t)
def nvOf : Option Gr.St → Int
  | some x => x.to
  | none => -1
section
variable {G : Gr} {c : List Int} {t d : Nat}
theorem Gr.aroundFrom_8 : G.aroundFrom t 8 = [] := rfl
theorem Gr.aroundFrom_0 : G.aroundFrom t 0 = G.around t := rfl
theorem Gr.aroundFrom_cons (hd : d < 8) : G.aroundFrom t d = (G.step t d).toList ++ G.aroundFrom t (d + 1) := by
  unfold Gr.aroundFrom
  rw [List.drop_eq_getElem_cons (by simpa using hd), List.filterMap_cons, List.getElem_range]
  cases G.step t d <;> rfl
def nxtF (G : Gr) (c : List Int) (t d : Nat) : Option Gr.St := (G.aroundFrom t d).find? (nxtB c t)
theorem nxtF_8 : nxtF G c t 8 = none := rfl
theorem nxtF_0 : nxtF G c t 0 = G.nxt c t := by
  unfold nxtF Gr.nxt
  rw [Gr.aroundFrom_0]
  rfl
theorem nxtF_none (hd : d < 8) (h : G.go t d = none) : nxtF G c t d = nxtF G c t (d + 1) := by
  unfold nxtF
  rw [Gr.aroundFrom_cons hd]
  simp [Gr.step, h]
theorem nxtF_no {u : Nat} {k : Int} (hd : d < 8) (h : G.go t d = some (u, k)) (hn : nxtB c t ⟨d, u, k⟩ = false) : nxtF G c t d = nxtF G c t (d + 1) := by
  unfold nxtF
  rw [Gr.aroundFrom_cons hd]
  simp [Gr.step, h, hn]
theorem nxtF_yes {u : Nat} {k : Int} (hd : d < 8) (h : G.go t d = some (u, k)) (hn : nxtB c t ⟨d, u, k⟩ = true) : nxtF G c t d = some ⟨d, u, k⟩ := by
  unfold nxtF
  rw [Gr.aroundFrom_cons hd]
  simp [Gr.step, h, hn]
end
end Go.Proofs.YtdihnjhbopogoaaDoor
namespace Go.Proofs.YtdihnjhbopogoaaDoor.Route
open Go Go.RowKit Go.Proofs.YtdihnjhbopogoaaDoor.Steps
/-- What the reference's Route answers. -/
def rrouA (w w' : World) (r : Ending) (F : Option (List Nat)) : Prop :=
  match F with
  | some l => ∃ v, r = .returned (.tuple #[v, .bool true]) ∧ Star w w' [Row 3 1 v l.length (gC l)]
  | none => r = .returned (.tuple #[.slice none 0 0, .bool false]) ∧ Same w w'
section
variable {w : World} {p pg pc : Nat} {G : Gr}
set_option maxRecDepth 100000 in
set_option maxHeartbeats 8000000 in
theorem rroute_any (hG : Gnd 71 w p pg pc G) (c : List Int) (v : Value) (hr : Reads w v c.length 1 (c.map (Value.int .i64))) (hl : c.length = G.fs.length) (s : Nat) (hsl : s < G.fs.length)
    (hm : ∀ t, cAt c t ≤ 9223372036854775807) (F : Option (List Nat)) (hF : if G.free s = true ∧ 0 ≤ cAt c s then Gr.Fol G c s F else F = none) :
    Calls Tryd.prog 47 #[.pointer (some ⟨p, 0, none⟩), v, .int .i64 s] w fun r w' => rrouA w w' r F := by
  obtain ⟨i0, hi0, hz0, hz1, hz2⟩ := info_parts infoInt
  obtain ⟨av, cv, rfl⟩ := hr.slice
  have HG := hid hG
  have hN := hG.ok.max
  have HMX := hid hm
  have g2 := hG.c2
  have gp := hG.pl
  have gt := hG.get s hsl
  have gg := hG.gl
  obtain ⟨n, hn⟩ : ∃ n, n = G.fs.length := ⟨_, rfl⟩
  have HN := hid hn
  rw [← hn] at hN hl hsl g2
  have HC : Hid (∀ t : Nat, t < n → ∃ b off cap, Value.slice av n cv = .slice (some ⟨b, off, none⟩) n cap ∧ w.cell? ⟨b, off + t, none⟩ = some (.int .i64 (cAt c t))) := hid (fun t ht => by
    obtain ⟨b, off, cap, e, _, hc⟩ := hr.open (by omega)
    rw [hl] at e
    exact ⟨b, off, cap, e, hc t _ (by rw [List.getElem?_map, cAt_get (by omega)]; rfl)⟩)
  rw [hl]
  clear hG hr hm hn hl
  obtain ⟨b0, off0, cap0, e0, hc0⟩ := HC.out s hsl
  cases e0
  have hb0 := World.block_lt_of_cell? _ _ hc0
  have X0 := hid ((Star.new w).add (w' := w.alloc (.cells #[.int .i64 s] 3)) ((Chg.refl _).alloc _) (R := Row 3 1 (.slice (some ⟨w.heap.size, 0, none⟩) 1 1) 1 (gC ([] ++ [s]))) ⟨World.ownsRow_lit w #[.int .i64 s] 1 (Nat.zero_le _) (by unfold maxLen; omega) rfl, rfl⟩ (fun k h => by have : w.heap.size = k := Option.some.inj h; omega))
  go_enter Tryd.func47, Tryd.ntmps47
  cases hf : G.free s with
  | false =>
    rw [hf] at gt hF
    rw [if_neg (by simp)] at hF
    subst hF
    go_wp2
    go_ret2
    exact ⟨rfl, (Chg.refl _).alloc _⟩
  | true =>
    rw [hf] at gt hF
    by_cases hlt : cAt c s < 0
    · rw [if_neg (by omega)] at hF
      subst hF
      go_wp2
      go_ret2
      exact ⟨rfl, (Chg.refl _).alloc _⟩
    · rw [if_pos ⟨rfl, by omega⟩] at hF
      have HF := hid hF
      have HS := hid hf
      have h0 : 0 ≤ cAt c s := by omega
      clear hF hf
      go_wp2_with fail
      clear hc0 hb0 g2 gp gt gg
      go_loopw [2, 8, 9] (fun sv wv rv wr => ∃ (pre : List Nat) (t : Nat), sv = .int .i64 t ∧ rv = .int .i64 pre.length ∧ FolI G c s pre t ∧ 0 ≤ cAt c t ∧ Star w wr [Row 3 1 wv (pre.length + 1) (gC (pre ++ [t]))]) (fun sv _ _ _ => (cAt c (intOf sv).toNat).toNat)
      case atStart => exact ⟨[], s, rfl, rfl, FolI.start HS.out, h0, X0.out⟩
      case round =>
        obtain ⟨pre, t, rfl, rfl, hI, ht0, hX⟩ := hrel
        have HI := hid hI
        have X := hid hX
        have htn : t < n := by have := Gr.free_in hI.here; rwa [← HN.out] at this
        have hpl : pre.length + 1 ≤ n := by have := hI.len; rwa [← HN.out] at this
        obtain ⟨wa, wc, rfl, -⟩ := own_slice (hX.row 0 rfl).1
        obtain ⟨b, off, cap, e1, hct⟩ := HC.out t htn
        cases e1
        have hct1 := X.out.same.keep hct
        have hbt := World.block_lt_of_cell? _ _ hct1
        have HCT := hid hct
        obtain ⟨k, hk⟩ : ∃ k, k = pre.length := ⟨_, rfl⟩
        have HK := hid hk
        rw [← hk] at X hpl ⊢
        clear hI hX X0 hct hk
        by_cases hp : 0 < cAt c t
        · have hmx := HMX.out t
          go_wp2_with fail
          go_loopw [10, 11] (fun nv dv wr => ∃ d : Nat, d ≤ 8 ∧ dv = .int .i64 ((d : Int) - 1) ∧ nv = .int .i64 (nvOf (nxtF G c t d)) ∧ Star w wr [Row 3 1 (.slice wa (k + 1) wc) (k + 1) (gC (pre ++ [t]))]) (fun _ dv _ => (intOf dv + 1).toNat)
          case atStart => exact ⟨8, by omega, rfl, rfl, X.out⟩
          case round =>
            obtain ⟨d, hd, rfl, rfl, hX⟩ := hrel
            have X2 := hid hX
            clear hX X hct1 hbt
            cases d with
            | zero =>
              have hn1 : (((0 : Nat) : Int) - 1) = -1 := by omega
              rw [hn1, nxtF_0]
              clear hn1
              cases hx : G.nxt c t with
              | none =>
                have HST : Hid (F = none) := hid (HF.out.det (HI.out.back _ (.stuck hp hx)))
                unfold nvOf
                clear hx
                go_wp2
                go_ret2
                rw [HST.out]
                exact ⟨rfl, X2.out.same⟩
              | some x =>
                have HX := hid hx
                have HI2 := hid (HI.out.go HG.out.ok hp hx)
                have hless := Gr.nxt_less hx
                have hx0 := (Gr.nxt_some hx).2.1
                have hne : ¬ (x.to : Int) < 0 := by omega
                unfold nvOf
                obtain ⟨xd, xt, xc⟩ := x
                dsimp only at hless hx0 hne ⊢
                have XD := hid (X2.out.alloc #[.int .i64 xt] 3)
                clear hx
                go_wp2_with (at_builtin; refine wpList_app rfl (.tmp 79) (.tmp 81) 24 rfl 3 i0 (.int .i64 0) 1 8 Tryd.underlying24 hi0 hz0 hz1 hz2 rfl (by decide) _ (k + 1) (gC (pre ++ [t])) rfl (XD.out.row 1 rfl).1 (some ⟨wr.heap.size, 0, none⟩) 1 1 [.int .i64 xt] rfl (reads_blk (XD.out.blk 0 rfl).1 1 1 1 rfl) (by simp [Value.oneCell']) (by omega) (by omega) ?_; intro a5 c5 w5 ho5 hg5 hn5; have X5 := hid (XD.out.grown 1 rfl ho5 hg5 hn5).drop; clear ho5 hg5 hn5)
                go_roundw
                case rel => exact ⟨pre ++ [t], xt, rfl, by rw [List.length_append, ← HK.out]; go_num, HI2.out, hx0, by rw [gC_snoc, List.length_append, ← HK.out]; exact X5.out⟩
                case measure => simp [intOf]; omega
            | succ e =>
              have he8 : e < 8 := by omega
              rw [show (((e + 1 : Nat) : Int) - 1) = (e : Int) by omega]
              have H5 := hid (HG.out.same X2.out.same)
              go_wp2_with fail
              refine (rgo_any H5.out t e).mono ?_
              rintro r w6 ⟨rfl, hs6⟩
              rw [Gr.goI_nat]
              have X6 := hid (X2.out.go hs6)
              have k1 := X6.out.same.keep HCT.out
              have kl := World.block_lt_of_cell? _ _ k1
              clear hs6 X2 H5
              cases hgo : G.go t e with
              | none =>
                have HNX := hid (nxtF_none (c := c) he8 hgo)
                unfold refV
                clear hgo k1 kl
                go_wp2
                go_quiet (fail)
                go_wp2
                go_roundw
                case rel => exact ⟨e, by omega, rfl, by rw [HNX.out], X6.out.go ((Chg.refl _).drewN _)⟩
                case measure => simp [intOf]
              | some p1 =>
                obtain ⟨u, kc⟩ := p1
                have hpos := Gr.go_pos hgo
                have hul : u < n := by have := Gr.free_in (Gr.go_end HG.out.ok hgo).1; rwa [← HN.out] at this
                obtain ⟨b', off', cap', e4, hcx⟩ := HC.out u hul
                cases e4
                have k2 := X6.out.same.keep hcx
                have hw1 : IntKind.i64.wrap (cAt c t - kc) = cAt c t - kc := IntWalk.i64_in _ (by omega)
                have hnb : nxtB c t ⟨e, u, kc⟩ = (decide (0 ≤ cAt c u) && decide (cAt c u = cAt c t - kc)) := rfl
                have HNB := hid hnb
                have HGO := hid hgo
                unfold refV
                clear hcx hnb hgo
                by_cases h1 : 0 ≤ cAt c u
                · by_cases h2 : cAt c u = cAt c t - kc
                  · have h2' : (cAt c u == cAt c t - kc) = true := by simpa using h2
                    have HNX := hid (nxtF_yes he8 HGO.out (by rw [HNB.out, decide_eq_true h1, decide_eq_true h2]; rfl))
                    clear h2
                    go_wp2
                    go_quiet (fail)
                    go_wp2
                    go_roundw
                    case rel => exact ⟨e, by omega, rfl, by rw [HNX.out]; rfl, X6.out.go ((Chg.refl _).drewN _)⟩
                    case measure => simp [intOf]
                  · have h2' : (cAt c u == cAt c t - kc) = false := by simpa using h2
                    have HNX := hid (nxtF_no he8 HGO.out (by rw [HNB.out, decide_eq_false h2, Bool.and_false]))
                    clear h2
                    go_wp2
                    go_quiet (fail)
                    go_wp2
                    go_roundw
                    case rel => exact ⟨e, by omega, rfl, by rw [HNX.out], X6.out.go ((Chg.refl _).drewN _)⟩
                    case measure => simp [intOf]
                · have HNX := hid (nxtF_no he8 HGO.out (by rw [HNB.out, decide_eq_false h1, Bool.false_and]))
                  have hd : decide (0 ≤ cAt c u) = false := decide_eq_false h1
                  go_wp2
                  go_quiet (fail)
                  go_wp2
                  go_roundw
                  case rel => exact ⟨e, by omega, rfl, by rw [HNX.out], X6.out.go ((Chg.refl _).drewN _)⟩
                  case measure => simp [intOf]
        · have HFF : Hid (F = some (pre ++ [t])) := hid (HF.out.det (HI.out.back _ (.done hp)))
          go_wp2
          go_ret2
          rw [HFF.out]
          exact ⟨_, rfl, by rw [List.length_append, ← HK.out]; exact X.out⟩
end
end Go.Proofs.YtdihnjhbopogoaaDoor.Route
namespace Go.Proofs.YtdihnjhbopogoaaDoor.Route
open Go Go.RowKit Go.Proofs.YtdihnjhbopogoaaDoor.Steps
section
variable {w : World} {p pg pc : Nat} {G : Gr}
set_option maxRecDepth 100000 in
theorem rfind_range (hG : Gnd 71 w p pg pc G) (s t : Int) (hst : ¬ (0 ≤ s ∧ s < G.fs.length) ∨ ¬ (0 ≤ t ∧ t < G.fs.length)) :
    Calls Tryd.prog 21 #[.pointer (some ⟨p, 0, none⟩), .int .i64 s, .int .i64 t] w fun r w' => r = .returned (.tuple #[.slice none 0 0, .int .i64 0, .int .i64 1]) ∧ Same w w' := by
  have HG := hid hG
  have HS := hid (show G.has s = decide (0 ≤ s ∧ s < G.fs.length) from rfl)
  have HT := hid (show G.has t = decide (0 ≤ t ∧ t < G.fs.length) from rfl)
  have HST := hid hst
  clear hG hst
  go_enter Tryd.func21, Tryd.ntmps21
  go_wp2_with fail
  refine (rhas_any HG.out _).mono ?_
  rintro r w' ⟨rfl, rfl⟩
  by_cases hs : 0 ≤ s ∧ s < G.fs.length
  · rw [HS.out, decide_eq_true hs]
    have ht : ¬ (0 ≤ t ∧ t < G.fs.length) := by rcases HST.out with h | h; exact absurd hs h; exact h
    have HT2 := hid ht
    clear hs ht
    go_wp2_with fail
    refine (rhas_any HG.out _).mono ?_
    rintro r w' ⟨rfl, rfl⟩
    rw [HT.out, decide_eq_false HT2.out]
    go_wp2
    go_ret3
    exact ⟨rfl, Chg.refl _⟩
  · rw [HS.out, decide_eq_false hs]
    clear hs
    go_wp2
    go_ret3
    exact ⟨rfl, Chg.refl _⟩

/-- What the reference's Find answers. -/
def rfndA (w w' : World) (r : Ending) (F : Option (List Nat)) (x : Int) : Prop :=
  match F with
  | some l => ∃ v, r = .returned (.tuple #[v, .int .i64 x, .int .i64 0]) ∧ Star w w' [Row 3 1 v l.length (gC l)]
  | none => r = .returned (.tuple #[.slice none 0 0, .int .i64 0, .int .i64 9]) ∧ Same w w'
set_option maxRecDepth 100000 in
set_option maxHeartbeats 1000000 in
theorem rfind_any (hG : Gnd 71 w p pg pc G) (s t : Nat) (hsl : s < G.fs.length) (htl : t < G.fs.length) {c : List Int} (hL : Least G [t] c) (F : Option (List Nat)) (hF : if 0 ≤ cAt c s then Gr.Fol G c s F else F = none) :
    Calls Tryd.prog 21 #[.pointer (some ⟨p, 0, none⟩), .int .i64 s, .int .i64 t] w fun r w' => rfndA w w' r F (cAt c s) := by
  have HG := hid hG
  have HL := hid hL
  have HF := hid hF
  have HB := hid (hL.bound hG.ok)
  have hN := hG.ok.max
  have hhs : G.has (s : Int) = true := by unfold Gr.has; exact decide_eq_true (by omega)
  have hht : G.has (t : Int) = true := by unfold Gr.has; exact decide_eq_true (by omega)
  clear hG hL hF
  go_enter Tryd.func21, Tryd.ntmps21
  go_wp2_with fail
  refine (rhas_any HG.out _).mono ?_
  rintro r w' ⟨rfl, rfl⟩
  rw [hhs]
  go_wp2_with fail
  refine (rhas_any HG.out _).mono ?_
  rintro r w' ⟨rfl, rfl⟩
  rw [hht]
  have X := hid ((Star.new w).alloc #[.int .i64 t] 3)
  go_wp2_with fail
  refine (rcosts_any (HG.out.same X.out.same) [t] _ (reads_blk (X.out.blk 0 rfl).1 1 1 1 rfl) (by simp) (by intro x hx; simp only [List.mem_singleton] at hx; subst hx; exact htl)).mono ?_
  rintro r w2 ⟨c', g, cc, rfl, hL', hX2⟩
  obtain rfl := hL'.unique HL.out
  have hcl : c'.length = G.fs.length := HL.out.len
  have X2 := hid (X.out.lift hX2)
  have hrow := (X2.out.row 0 rfl).1
  have HC := hid (show Reads w2 (.slice (some ⟨g, 0, none⟩) c'.length cc) c'.length 1 (c'.map (Value.int .i64)) by rw [HL.out.len]; exact Reads.of_own hrow)
  rw [hcl] at HC
  clear hX2 X hL' hrow
  have hfr : (if G.free s = true ∧ 0 ≤ cAt c' s then Gr.Fol G c' s F else F = none) := by
    have h := HF.out
    by_cases h0 : 0 ≤ cAt c' s
    · rw [if_pos h0] at h
      rw [if_pos ⟨(HL.out.real s h0).free.1, h0⟩]; exact h
    · rw [if_neg h0] at h
      rw [if_neg (fun hh => h0 hh.2)]; exact h
  have HFR := hid hfr
  clear hfr
  go_wp2_with fail
  refine (rroute_any (HG.out.same X2.out.same) c' _ (by rw [hcl]; exact HC.out) hcl s hsl (fun t => by have := HB.out t; omega) F HFR.out).mono ?_
  rintro r w3 hA
  cases F with
  | none =>
    obtain ⟨rfl, hs3⟩ := hA
    have X3 := hid (X2.out.go hs3)
    clear hs3 X2
    go_wp2
    go_ret3
    exact ⟨rfl, X3.out.same⟩
  | some W =>
    obtain ⟨v, rfl, hX3⟩ := hA
    have X3 := hid (X2.out.lift hX3)
    obtain ⟨va, vc, rfl, -⟩ := own_slice (hX3.row 0 rfl).1
    have hrow := (X3.out.row 1 rfl).1
    have hc : w3.cell? ⟨g, s, none⟩ = some (.int .i64 (cAt c' s)) := (hrow.cellAt s (by omega)).trans (by rw [List.getElem?_map, cAt_get (by omega)]; rfl)
    have hgl := (hrow.lt g rfl).2
    clear hX3 X2 hrow HC hcl
    go_wp2
    go_quiet (fail)
    go_wp2
    go_ret3
    exact ⟨_, rfl, ((X3.out.swap).drop.swap.drop).go ((Chg.refl _).drewN _)⟩
end
end Go.Proofs.YtdihnjhbopogoaaDoor.Route
