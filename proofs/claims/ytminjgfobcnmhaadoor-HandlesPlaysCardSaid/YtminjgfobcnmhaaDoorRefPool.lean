/-
  The document's pool: its block in memory; Lives, Take, Release, List, Same.
-/
import Derived.Test.YtminjgfobcnmhaaDoorPoolPlain
import Derived.Test.YtminjgfobcnmhaaDoorNum
namespace Go.Proofs.YtminjgfobcnmhaaDoor.Pool
open Go Go.RowKit

abbrev rblkR (p : Nat) (vs vf : Value) : Res := Blk p #[vs, vf] 82
/-- The document's pool: its slots, the free places. -/
def RefR (p : Nat) (S : List Slot) (f : List Nat) : Res := exR fun v : Value × Value => sepR (rblkR p v.1 v.2) (sepR (slotsR v.1 S) (freeR v.2 f))
section
variable {w0 w : World} {L : List Res} {p : Nat} {S : List Slot} {f : List Nat}
theorem RefR.open (X : Star w0 w (RefR p S f :: L)) : ∃ vs vf, Star w0 w (rblkR p vs vf :: slotsR vs S :: freeR vf f :: L) := by
  obtain ⟨v, h⟩ := X.open_ex
  have h1 := h.open_sep
  have h2 := ((h1.swap).open_sep)
  exact ⟨v.1, v.2, (h2.pull 2 rfl)⟩
theorem RefR.close {vs vf : Value} (X : Star w0 w (rblkR p vs vf :: slotsR vs S :: freeR vf f :: L)) : Star w0 w (RefR p S f :: L) := by
  have h1 := X.pull 2 rfl
  have h2 : Star w0 w (slotsR vs S :: freeR vf f :: rblkR p vs vf :: L) := h1.pull 2 rfl
  exact Star.close_ex (vs, vf) ((h2.close_sep).swap).close_sep
theorem rblk_facts {vs vf : Value} (X : Star w0 w (rblkR p vs vf :: slotsR vs S :: freeR vf f :: L)) : w.cell? ⟨p, 0, none⟩ = some vs ∧ w.cell? ⟨p, 1, none⟩ = some vf ∧ (∀ j, w.frozen? ⟨p, j, none⟩ = false) ∧ p < w.heap.size := by
  obtain ⟨h, _⟩ := X.blk 0 rfl
  exact ⟨cell_of h 0, cell_of h 1, free_of h, lt_of h⟩
theorem rslot_facts {vs vf : Value} (X : Star w0 w (rblkR p vs vf :: slotsR vs S :: freeR vf f :: L)) (i : Nat) (s : Slot) (hi : S[i]? = some s) :
    ∃ g cp m, vs = .slice (some ⟨g, 0, none⟩) m cp ∧ (m = S.length ∧ m ≤ cp ∧ m ≤ 9223372036854775807) ∧ w.cell? ⟨g, i * 2, none⟩ = some (.int .i64 s.1) ∧ w.cell? ⟨g, i * 2 + 1, none⟩ = some (.bool s.2) ∧ (∀ j, w.frozen? ⟨g, j, none⟩ = false) ∧ g < w.heap.size ∧ g ≠ p := by
  obtain ⟨h, _⟩ := X.row 1 rfl
  have hl := (List.getElem?_eq_some_iff.1 hi).1
  obtain ⟨g, cp, rfl⟩ := own_shape h (by omega)
  exact ⟨g, cp, _, rfl, ⟨rfl, own_cap h, own_max h⟩, (h.cellAt _ (by omega)).trans ((rows_get sl sl_len S i 0 s hi (by omega)).trans rfl), (h.cellAt _ (by omega)).trans ((rows_get sl sl_len S i 1 s hi (by omega)).trans rfl), fun j => h.frozenAt j, (h.lt g rfl).2, (X.neBR 0 1 rfl rfl (by omega)).2⟩
theorem rslots_shape {vs vf : Value} (X : Star w0 w (rblkR p vs vf :: slotsR vs S :: freeR vf f :: L)) : ∃ a cp m, vs = .slice a m cp ∧ (m = S.length ∧ m ≤ cp ∧ m ≤ 9223372036854775807) := by
  obtain ⟨a, cp, h, _⟩ := own_slice (X.row 1 rfl).1
  subst h
  exact ⟨a, cp, _, rfl, rfl, own_cap (X.row 1 rfl).1, own_max (X.row 1 rfl).1⟩
theorem rfree_shape {vs vf : Value} (X : Star w0 w (rblkR p vs vf :: slotsR vs S :: freeR vf f :: L)) : ∃ a cp m, vf = .slice a m cp ∧ (m = f.length ∧ m ≤ cp ∧ m ≤ 9223372036854775807) := by
  obtain ⟨a, cp, h, _⟩ := own_slice (X.row 2 rfl).1
  subst h
  exact ⟨a, cp, _, rfl, rfl, own_cap (X.row 2 rfl).1, own_max (X.row 2 rfl).1⟩
theorem rfree_facts {vs vf : Value} (X : Star w0 w (rblkR p vs vf :: slotsR vs S :: freeR vf f :: L)) (i n : Nat) (hi : f[i]? = some n) :
    ∃ g cp m, vf = .slice (some ⟨g, 0, none⟩) m cp ∧ (m = f.length ∧ m ≤ cp ∧ m ≤ 9223372036854775807) ∧ w.cell? ⟨g, i, none⟩ = some (.int .i64 n) ∧ g < w.heap.size := by
  obtain ⟨h, _⟩ := X.row 2 rfl
  have hl := (List.getElem?_eq_some_iff.1 hi).1
  obtain ⟨g, cp, rfl⟩ := own_shape h (by omega)
  exact ⟨g, cp, _, rfl, ⟨rfl, own_cap h, own_max h⟩, (h.cellAt _ (by simpa using hl)).trans (by simp [hi, nv]), (h.lt g rfl).2⟩
end

/-- No slot of the first k is the handle's. -/
def noneTo (S : List Slot) (h : Hand) (k : Nat) : Prop := ∀ i, i < k → ¬ ((i : Int) = h.1 ∧ S[i]? = some (h.2, true))
theorem noneTo.all {S : List Slot} {h : Hand} (hn : noneTo S h S.length) : livesB S h = false := by
  unfold livesB
  by_cases h0 : 0 ≤ h.1
  · rw [decide_eq_true h0, Bool.true_and, beq_eq_false_iff_ne]
    intro he
    have hi := (List.getElem?_eq_some_iff.1 he).1
    exact hn h.1.toNat hi ⟨by omega, he⟩
  · rw [decide_eq_false h0, Bool.false_and]
theorem lives_at {S : List Slot} {i : Nat} {g : Int} (hi : S[i]? = some (g, true)) : livesB S ((i : Int), g) = true := by
  unfold livesB
  simp [hi]

section
variable {w0 w : World} {L : List Res} {p : Nat} {S : List Slot} {f : List Nat}
set_option maxRecDepth 100000 in
set_option maxHeartbeats 4000000 in
theorem rlives_any (X : Star w0 w (RefR p S f :: L)) (h : Hand) :
    Calls Tryd.prog 40 #[.pointer (some ⟨p, 0, none⟩), hv h] w fun r w' => r = .returned (.bool (livesB S h)) ∧ Same w w' := by
  obtain ⟨x, g⟩ := h
  obtain ⟨vs, vf, hY⟩ := RefR.open X
  obtain ⟨a, cp, m, rfl, hm, hmc, hmx⟩ := rslots_shape hY
  obtain ⟨pc0, -, -, pcl⟩ := rblk_facts hY
  have Y := hid hY
  have HM := hid hm
  clear X hY hm
  go_enter Tryd.func40, Tryd.ntmps40
  go_wp2_with fail
  have S0 := hid (show Same w (w.alloc (.cells #[.int .i64 x, .int .i64 g] 42)) from (Chg.refl _).alloc _)
  have Q0 := hid (alloc_new w (.cells #[.int .i64 x, .int .i64 g] 42))
  clear pc0 pcl
  generalize w.alloc (.cells #[.int .i64 x, .int .i64 g] 42) = w1 at *
  generalize w.heap.size = q at *
  go_loopw [12] (fun iv wr => ∃ k : Nat, k ≤ m ∧ iv = .int .i64 k ∧ noneTo S (x, g) k ∧ Same w1 wr) (fun iv _ => m - (intOf iv).toNat)
  case atStart => exact ⟨0, by omega, rfl, fun i hi => by omega, Chg.refl _⟩
  case round =>
    obtain ⟨k, hk, rfl, hno, hs⟩ := hrel
    have NO := hid hno
    have HS := hid hs
    clear hno hs
    by_cases hkm : k < m
    · obtain ⟨⟨g', b⟩, hS⟩ : ∃ s, S[k]? = some s := ⟨_, List.getElem?_eq_getElem (by have := HM.out; omega)⟩
      have Y2 := (Y.out.go S0.out).go HS.out
      obtain ⟨gs, cs, m', e1, -, e0, e2, -, hgs, -⟩ := rslot_facts Y2 k _ hS
      cases e1
      have hq := HS.out.heap Q0.out (fun f => f)
      have q0 := cell_of hq 0
      have q1 := cell_of hq 1
      have ql := lt_of hq
      simp only [List.getElem?_toArray, List.getElem?_cons_zero, List.getElem?_cons_succ] at q0 q1 e0 e2
      have HSK := hid hS
      clear Y2 hq hS
      by_cases hx : (k : Int) = x
      · cases b with
        | false =>
          have hxb : ((k : Int) == x) = true := by simpa using hx
          clear hx
          go_wp2
          go_roundw
          case rel =>
            refine ⟨k + 1, by omega, by go_num, fun i hi => ?_, HS.out.alloc _⟩
            by_cases e : i = k
            · subst e; rintro ⟨_, h⟩; rw [HSK.out] at h; cases h
            · exact NO.out i (by omega)
          case measure => simp [intOf]; omega
        | true =>
          by_cases hg : g' = g
          · subst hg
            have HR := hid (lives_at HSK.out)
            subst hx
            go_wp2
            go_ret
            exact ⟨ret_bool HR.out.symm, S0.out.trans (HS.out.alloc _) (fun _ _ f => f)⟩
          · have hxb : ((k : Int) == x) = true := by simpa using hx
            have hgb : (g' == g) = false := by simpa using hg
            have HG := hid hg
            clear hx hg
            go_wp2
            go_roundw
            case rel =>
              refine ⟨k + 1, by omega, by go_num, fun i hi => ?_, HS.out.alloc _⟩
              by_cases e : i = k
              · subst e
                rintro ⟨_, h⟩
                rw [HSK.out] at h
                simp only [Option.some.injEq, Prod.mk.injEq, and_true] at h
                exact HG.out h
              · exact NO.out i (by omega)
            case measure => simp [intOf]; omega
      · have hxb : ((k : Int) == x) = false := by simpa using hx
        have HX := hid hx
        clear hx
        go_wp2
        go_roundw
        case rel =>
          refine ⟨k + 1, by omega, by go_num, fun i hi => ?_, HS.out.alloc _⟩
          by_cases e : i = k
          · subst e; exact fun hh => HX.out hh.1
          · exact NO.out i (by omega)
        case measure => simp [intOf]; omega
    · have HR := hid (show livesB S (x, g) = false from noneTo.all (by have := NO.out; rwa [show k = S.length by have := HM.out; omega] at this))
      go_wp2
      go_ret
      exact ⟨ret_bool HR.out.symm, S0.out.trans HS.out (fun _ _ f => f)⟩
set_option maxRecDepth 100000 in
set_option maxHeartbeats 4000000 in
theorem rtake_free (X : Star w0 w (RefR p S f :: L)) (f0 : List Nat) (i : Nat) (hf : f = f0 ++ [i]) (s : Slot) (hi : S[i]? = some s) (hf1 : f.length ≤ 1000) :
    Calls Tryd.prog 52 #[.pointer (some ⟨p, 0, none⟩)] w fun r w' => r = .returned (.tuple #[hv (i, s.1), .int .i64 0]) ∧ Star w0 w' (RefR p (S.set i (s.1, true)) f0 :: L) := by
  have X0 := hid ((X.alloc #[.int .i64 0, .int .i64 0] 42).swap)
  have HF := hid hf
  have HI := hid hi
  have hlt := (List.getElem?_eq_some_iff.1 hi).1
  clear X hf hi
  obtain ⟨g, b⟩ := s
  obtain ⟨vs, vf, hY⟩ := RefR.open X0.out
  obtain ⟨h0, h1, hfr, hp⟩ := rblk_facts hY
  obtain ⟨gs, cs, m, rfl, ⟨hm, hmc, hmx⟩, e0, e1, hfs, hgs, hgp⟩ := rslot_facts hY i (g, b) HI.out
  obtain ⟨gf, cf, n', rfl, ⟨hn, hcap, hnx⟩, e2, hgf⟩ := rfree_facts hY f0.length i (by rw [HF.out]; simp)
  have hn' : n' = f0.length + 1 := by rw [hn, HF.out]; simp
  have Y := hid hY
  have him : i < m := by omega
  have HM := hid hm
  obtain ⟨n, hn0⟩ : ∃ n, n = f0.length := ⟨_, rfl⟩
  rw [← hn0] at hn' e2
  subst hn'
  have HN := hid hn0
  have hn1 : n ≤ 1000 := by rw [← hn] at hf1; omega
  have fp1 := hfr 1
  have hb := hY.blk 3 rfl
  have q0 := cell_of hb.1 0
  have q1 := cell_of hb.1 1
  have k0 := free_of hb.1 0
  have k1 := free_of hb.1 1
  have hql := lt_of hb.1
  have n5 := Y.out.neBB 0 3 rfl rfl (by omega)
  have n6 := Y.out.neRB 1 3 rfl rfl (by omega)
  obtain ⟨n5, n5'⟩ := n5
  obtain ⟨n6, n6'⟩ := n6
  have fs1 := hfs (i * 2 + 1)
  clear hY hfr hfs hb hm hn hn0 hf1
  simp only [List.getElem?_toArray, List.getElem?_cons_zero, List.getElem?_cons_succ] at e0 e1 q0 q1
  have hpg : ¬ p = gs := fun e => hgp e.symm
  have hw1 : IntKind.i64.wrap (n : Int) = (n : Int) := IntWalk.i64_in _ (by omega)
  have hw2 : (n : Int) ≤ (cf : Int) := by omega
  go_enter Tryd.func52, Tryd.ntmps52
  go_wp2
  refine bodyPost_ret (v := .tuple #[hv (i, g), .int .i64 0]) (by simp [results, Tryd.results52, go_sem, hv, *]) rfl ⟨rfl, ?_⟩
  have h1 := (Y.out.put 0 rfl 1 (.slice (some ⟨gf, 0, none⟩) n cf)).set 2 (R' := freeR (.slice (some ⟨gf, 0, none⟩) n cf) f0) rfl (by
    rintro F ⟨h, rfl⟩
    have hl : f.length = n + 1 := by have := HF.out; have := HN.out; subst f; simp; omega
    rw [hl] at h
    have h' := own_take h n (by omega)
    rw [Nat.mul_one, ← List.map_take, HF.out, HN.out, List.take_left] at h'
    rw [HN.out]
    exact ⟨h', rfl⟩)
  have h := ((h1.store 1 rfl (i * 2 + 1) (.bool true)).put 3 rfl 0 (.int .i64 i)).put 3 rfl 1 (.int .i64 g)
  have h3 : Star w0 _ (rblkR p (.slice (some ⟨gs, 0, none⟩) m cs) (.slice (some ⟨gf, 0, none⟩) n cf) :: Row 58 2 (.slice (some ⟨gs, 0, none⟩) m cs) S.length ((S.flatMap sl).set (i * 2 + 1) (.bool true)) :: freeR (.slice (some ⟨gf, 0, none⟩) n cf) f0 :: L) := (h.pull 3 rfl).drop
  have hl : (S.set i (g, true)).length = S.length := List.length_set
  rw [rows_set1 sl sl_len S i 1 (g, b) (g, true) (.bool true) HI.out (by omega) rfl, ← hl] at h3
  exact RefR.close h3
set_option maxRecDepth 100000 in
set_option maxHeartbeats 4000000 in
theorem rtake_new (X : Star w0 w (RefR p S [] :: L)) (hS : S.length < 128) :
    Calls Tryd.prog 52 #[.pointer (some ⟨p, 0, none⟩)] w fun r w' => r = .returned (.tuple #[hv (S.length, 1), .int .i64 0]) ∧ Star w0 w' (RefR p (S ++ [(1, true)]) [] :: L) := by
  obtain ⟨i0, hi, hz0, hz1, hz2⟩ := info_parts info
  have X0 := hid ((X.alloc #[.int .i64 0, .int .i64 0] 42).swap)
  clear X
  obtain ⟨vs, vf, hY⟩ := RefR.open X0.out
  obtain ⟨h0, h1, hfr, hp⟩ := rblk_facts hY
  obtain ⟨av, cs, m, rfl, hm, hmc, hmx⟩ := rslots_shape hY
  obtain ⟨af, cf, n, rfl, hn, -, -⟩ := rfree_shape hY
  rw [List.length_nil] at hn
  subst hn
  have HM := hid hm
  have Y := hid (hY.alloc #[.int .i64 1, .bool true] 58)
  rw [World.size_alloc] at Y
  have fp0 := hfr 0
  rw [← hm] at hS ⊢
  clear hY hfr hm X0
  have hrow := hid (Y.out.row 2 rfl)
  rw [← HM.out] at hrow
  go_enter Tryd.func52, Tryd.ntmps52
  go_wp2_with (at_builtin; refine wpList_app rfl _ _ 52 rfl 58 i0 (.agg #[.int .i64 0, .bool false]) 2 16 Tryd.underlying52 hi hz0 hz1 hz2 rfl (by decide) _ m (S.flatMap sl) rfl hrow.out.1 (some ⟨w.heap.size + 1, 0, none⟩) 1 1 (sl (1, true)) rfl (reads_blk (Y.out.blk 0 rfl).1 1 1 2 rfl) (sl_one _) (by omega) (by omega) ?_)
  intro a7 c7 w7 ho7 hg7 hn7
  have Y7 := hid (Y.out.grown 2 rfl ho7 hg7 hn7).drop
  obtain ⟨g7, c7', e7⟩ := own_shape ho7 (by omega)
  cases e7
  clear ho7 hg7 hn7 h0 h1 hp fp0 hrow Y
  have hb7 := (Y7.out.blk 0 rfl).1
  have d0 := cell_of hb7 0
  have d1 := cell_of hb7 1
  have df := free_of hb7 0
  have dl := lt_of hb7
  have hb8 := (Y7.out.blk 3 rfl).1
  have q0 := cell_of hb8 0
  have q1 := cell_of hb8 1
  have k0 := free_of hb8 0
  have k1 := free_of hb8 1
  have kl := lt_of hb8
  simp only [List.getElem?_toArray, List.getElem?_cons_zero, List.getElem?_cons_succ] at d0 d1 q0 q1
  obtain ⟨n5, n5'⟩ := Y7.out.neBB 0 3 rfl rfl (by omega)
  clear hb7 hb8
  generalize w.heap.size = q at *
  go_wp2
  refine bodyPost_ret (v := .tuple #[hv (m, 1), .int .i64 0]) (by simp [results, Tryd.results52, go_sem, hv, *]) rfl ⟨rfl, ?_⟩
  have h := ((Y7.out.put 0 rfl 0 (.slice (some ⟨g7, 0, none⟩) (m + 1) c7)).put 3 rfl 0 (.int .i64 m)).put 3 rfl 1 (.int .i64 1)
  have h3 : Star w0 _ (rblkR p (.slice (some ⟨g7, 0, none⟩) (m + 1) c7) (.slice af 0 cf) :: Row 58 2 (.slice (some ⟨g7, 0, none⟩) (m + 1) c7) (m + 1) (S.flatMap sl ++ sl (1, true)) :: freeR (.slice af 0 cf) [] :: L) := (h.pull 3 rfl).drop
  have e : S.flatMap sl ++ sl (1, true) = (S ++ [(1, true)]).flatMap sl := by simp
  have hlen : m + 1 = (S ++ [((1 : Int), true)]).length := by rw [HM.out]; simp
  rw [e] at h3
  generalize m + 1 = m1 at *
  subst hlen
  exact RefR.close h3
set_option maxRecDepth 100000 in
set_option maxHeartbeats 4000000 in
theorem rtake_full (X : Star w0 w (RefR p S [] :: L)) (hS : S.length = 128) :
    Calls Tryd.prog 52 #[.pointer (some ⟨p, 0, none⟩)] w fun r w' => r = .returned (.tuple #[hv (0, 0), .int .i64 2]) ∧ Star w0 w' (RefR p S [] :: L) := by
  have X0 := hid ((X.alloc #[.int .i64 0, .int .i64 0] 42).swap)
  clear X
  obtain ⟨vs, vf, hY⟩ := RefR.open X0.out
  obtain ⟨h0, h1, hfr, hp⟩ := rblk_facts hY
  obtain ⟨av, cs, m, rfl, hm, hmc, hmx⟩ := rslots_shape hY
  obtain ⟨af, cf, n, rfl, hn, -, -⟩ := rfree_shape hY
  rw [List.length_nil] at hn
  subst hn
  have hm8 : m = 128 := by omega
  subst hm8
  have hb8 := (hY.blk 3 rfl).1
  have q0 := cell_of hb8 0
  have q1 := cell_of hb8 1
  have k0 := free_of hb8 0
  have k1 := free_of hb8 1
  have kl := lt_of hb8
  clear hY hfr hm hS hb8
  go_enter Tryd.func52, Tryd.ntmps52
  go_wp2
  refine bodyPost_ret (v := .tuple #[hv (0, 0), .int .i64 2]) (by simp [results, Tryd.results52, go_sem, hv, *]) rfl ⟨rfl, ?_⟩
  exact X0.out.swap.drop
theorem rtake_any {c : Int} (X : Star w0 w (RefR p S f :: L)) (ok : Ok S f c) : (∃ h S' f', takeM S f = some (h, S', f') ∧ Calls Tryd.prog 52 #[.pointer (some ⟨p, 0, none⟩)] w fun r w' => r = .returned (.tuple #[hv h, .int .i64 0]) ∧ Star w0 w' (RefR p S' f' :: L)) ∨
    (takeM S f = none ∧ Calls Tryd.prog 52 #[.pointer (some ⟨p, 0, none⟩)] w fun r w' => r = .returned (.tuple #[hv (0, 0), .int .i64 2]) ∧ Star w0 w' (RefR p S f :: L)) := by
  cases ht : takeM S f with
  | none =>
    obtain ⟨rfl, hl⟩ := ok.take_none ht
    exact .inr ⟨rfl, rtake_full X hl⟩
  | some x =>
    obtain ⟨h, S', f'⟩ := x
    have hfl := ok.flen
    refine .inl ⟨h, S', f', rfl, ?_⟩
    obtain ⟨_, ⟨i, rfl, h1, h2, rfl⟩ | ⟨rfl, rfl, hl, rfl, rfl⟩⟩ := ok.take ht
    · obtain ⟨x, g⟩ := h
      simp only at h1 h2
      subst h1
      exact rtake_free X f' i rfl (g, false) h2 (by omega)
    · exact rtake_new X hl
end
end Go.Proofs.YtminjgfobcnmhaaDoor.Pool
