/-
  HandlesApart: the walk.
-/
import Derived.Test.YtminjgfobcnmhaaDoorPoolPlain
import Derived.Test.YtminjgfobcnmhaaDoorNum
namespace Go.Proofs.YtminjgfobcnmhaaDoor.Pool
open Go Go.RowKit

/-- A call of a script. -/
structure OpH where
  kind : Int
  n : Int
  idx : Int
  gen : Int
def OpH.cells (o : OpH) : List Value := [.int .i64 o.kind, .int .i64 o.n, .int .i64 o.idx, .int .i64 o.gen]
theorem OpH.len (o : OpH) : o.cells.length = 4 := rfl
abbrev Ops (w : World) (v : Value) (os : List OpH) : Prop := Reads w v os.length 4 (os.flatMap OpH.cells)

theorem live_mem (S : List Slot) : ∀ (k : Nat) (h : Hand), h ∈ liveFrom k S → ∃ i : Nat, h.1 = ((k + i : Nat) : Int) ∧ S[i]? = some (h.2, true) := by
  induction S with
  | nil => intro k h hh; simp [liveFrom] at hh
  | cons s S ih =>
    intro k h hh
    obtain ⟨g, b⟩ := s
    cases b with
    | false =>
      simp only [liveFrom, Bool.false_eq_true, if_false] at hh
      obtain ⟨i, h1, h2⟩ := ih (k + 1) h hh
      exact ⟨i + 1, by rw [h1]; congr 1; omega, by simpa using h2⟩
    | true =>
      simp only [liveFrom, if_true, List.mem_cons] at hh
      rcases hh with rfl | hh
      · exact ⟨0, by simp, by simp⟩
      · obtain ⟨i, h1, h2⟩ := ih (k + 1) h hh
        exact ⟨i + 1, by rw [h1]; congr 1; omega, by simpa using h2⟩
theorem live_at (S : List Slot) (h : Hand) (hh : h ∈ live S) : ∃ i : Nat, h.1 = (i : Int) ∧ S[i]? = some (h.2, true) := by
  obtain ⟨i, h1, h2⟩ := live_mem S 0 h hh
  rw [Nat.zero_add] at h1
  exact ⟨i, h1, h2⟩
theorem live_len' (S : List Slot) : (live S).length ≤ S.length := live_le S 0

set_option maxRecDepth 100000 in
set_option maxHeartbeats 2000000 in
theorem run_any {w0 w : World} {L : List Res} {p : Nat} {S : List Slot} {f : List Nat} {c : Int} (X : Star w0 w (PoolR p S f c :: L)) (ok : Ok S f c) (os : List OpH) (v : Value) (hr : Ops w0 v os) (hn60 : os.length ≤ 60) (e : Value) (he : w0.cell? ⟨0, 0, none⟩ = some e) (het : ∃ T u, e = .iface T (.pointer (some u))) :
    Calls Tryd.prog 20 #[.pointer (some ⟨p, 0, none⟩), v] w fun r w' => r = .returned (.tuple #[]) ∧ ∃ S' f' c', Ok S' f' c' ∧ Star w0 w' (PoolR p S' f' c' :: L) := by
  obtain ⟨a, ca, rfl⟩ := hr.slice
  have HR := hid hr
  have X0 := hid X
  have OK0 := hid ok
  have HE := hid he
  have HET := hid het
  obtain ⟨n, hn⟩ : ∃ n, n = os.length := ⟨_, rfl⟩
  simp only [← hn] at HR ⊢
  have HN := hid hn
  rw [← hn] at hn60
  clear hr X ok he het hn
  go_enter Tryd.func20, Tryd.ntmps20
  go_wp2
  go_loopw [9] (fun iv wr => ∃ (j : Nat) (S' : List Slot) (f' : List Nat) (c' : Int), j ≤ n ∧ iv = .int .i64 j ∧ Ok S' f' c' ∧ Star w0 wr (PoolR p S' f' c' :: L)) (fun iv _ => n - (intOf iv).toNat)
  case atStart => exact ⟨0, S, f, c, by omega, rfl, OK0.out, X0.out⟩
  case round =>
    obtain ⟨j, S', f', c', hj, rfl, hok, hX⟩ := hrel
    have X := hid hX
    have OK := hid hok
    clear hX hok X0 OK0
    by_cases hjn : j < n
    · obtain ⟨b, off, cap, e1, hb, hcl⟩ := HR.out.open (by have := HN.out; omega)
      have hjo : j < os.length := by have := HN.out; omega
      obtain ⟨o, ho⟩ : ∃ o, os[j]? = some o := ⟨_, List.getElem?_eq_getElem hjo⟩
      have g0 := X.out.keepCell (hcl (j * 4 + 0) _ ((rows_get OpH.cells OpH.len os j 0 o ho (by omega)).trans rfl))
      have g1 := X.out.keepCell (hcl (j * 4 + 1) _ ((rows_get OpH.cells OpH.len os j 1 o ho (by omega)).trans rfl))
      have g2 := X.out.keepCell (hcl (j * 4 + 2) _ ((rows_get OpH.cells OpH.len os j 2 o ho (by omega)).trans rfl))
      have g3 := X.out.keepCell (hcl (j * 4 + 3) _ ((rows_get OpH.cells OpH.len os j 3 o ho (by omega)).trans rfl))
      rw [Nat.add_zero] at g0
      rw [← Nat.add_assoc] at g1 g2 g3
      obtain ⟨kind, on, oi, og⟩ := o
      cases e1
      clear hcl ho
      have X1 := hid ((X.out.alloc #[.int .i64 kind, .int .i64 on, .int .i64 oi, .int .i64 og] 44).swap)
      go_wp2_with fail
      refine (list_any X1.out (by have := OK.out.len; omega)).mono ?_
      rintro r w3 ⟨v3, rfl, hX⟩
      have X3 := hid hX
      have hq := hX.blk 2 rfl
      have q0 := cell_of hq.1 0
      have q1 := cell_of hq.1 1
      have hql := lt_of hq.1
      obtain ⟨a3, c3, e3, _⟩ := own_slice (hX.row 0 rfl).1
      subst e3
      have hm128 : (live S').length ≤ 128 := by have := live_len' S'; have := OK.out.len; omega
      obtain ⟨m, hm⟩ : ∃ m, m = (live S').length := ⟨_, rfl⟩
      have HM := hid hm
      have XP := hid (hX.drop)
      rw [← hm] at hm128
      simp only [← hm] at X3 ⊢
      clear hX hq X1 X hm g0 g1 g2 g3
      generalize wr.heap.size = q at *
      by_cases hk : kind = 2 ∧ 0 < m
      · obtain ⟨rfl, hm0⟩ := hk
        obtain ⟨i, hi, hmod⟩ := mod_small on m hm0 (by omega)
        obtain ⟨⟨hx, hg⟩, hh⟩ : ∃ h, (live S')[i]? = some h := ⟨_, List.getElem?_eq_getElem (by have := HM.out; omega)⟩
        obtain ⟨k, hk1, hk2⟩ := live_at S' _ (List.mem_of_getElem? hh)
        simp only at hk1 hk2
        subst hk1
        have hrow := X3.out.row 0 rfl
        obtain ⟨g3, c3', e3⟩ := own_shape hrow.1 (by omega)
        cases e3
        have e0 : w3.cell? ⟨g3, i * 2, none⟩ = some (.int .i64 k) := (hrow.1.cellAt (i * 2) (by omega)).trans ((rows_get hl hl_len (live S') i 0 _ hh (by omega)).trans rfl)
        have e1 : w3.cell? ⟨g3, i * 2 + 1, none⟩ = some (.int .i64 hg) := (hrow.1.cellAt (i * 2 + 1) (by omega)).trans ((rows_get hl hl_len (live S') i 1 _ hh (by omega)).trans rfl)
        have hgl := (hrow.1.lt g3 rfl).2
        have HK := hid hk2
        clear hrow hh hk2
        go_wp2_with fail
        refine (free_live XP.out OK.out HK.out).mono ?_
        rintro r w4 ⟨rfl, hX⟩
        have OK4 := hid (OK.out.free' HK.out)
        clear e0 e1 hgl
        go_wp2
        go_roundw
        case rel => exact ⟨j + 1, _, _, _, by omega, by go_num, OK4.out, ((hX.pull 1 rfl).drop)⟩
        case measure => simp [intOf]; omega
      · have hcase : takeM S' f' = none ∨ ∃ h S2 f2, takeM S' f' = some (h, S2, f2) := by
          cases takeM S' f' with
          | none => exact .inl rfl
          | some x => exact .inr ⟨x.1, x.2.1, x.2.2, rfl⟩
        have hm0 : kind = 2 → m = 0 := fun h => by rcases Nat.eq_zero_or_pos m with h' | h'; exact h'; exact absurd ⟨h, h'⟩ hk
        have hskip : (kind == 2) = false ∨ (kind = 2 ∧ m = 0) := by
          by_cases h2 : kind = 2
          · exact .inr ⟨h2, hm0 h2⟩
          · exact .inl (by simpa using h2)
        clear hk hm0
        rcases hcase with ht | ⟨h, S2, f2, ht⟩
        · have HT := hid ht
          clear ht
          rcases hskip with hs | ⟨rfl, rfl⟩
          all_goals
            go_wp2_with fail
            refine (take_none XP.out OK.out HT.out _ HE.out HET.out).mono ?_
            rintro r w4 ⟨rfl, hX⟩
            go_wp2
            go_roundw
            case rel => exact ⟨j + 1, _, _, _, by omega, by go_num, OK.out, ((hX.pull 1 rfl).drop)⟩
            case measure => simp [intOf]; omega
        · have HT := hid ht
          have OK4 := hid (OK.out.take ht).1
          clear ht
          rcases hskip with hs | ⟨rfl, rfl⟩
          all_goals
            go_wp2_with fail
            refine (take_some XP.out OK.out HT.out).mono ?_
            rintro r w4 ⟨rfl, hX⟩
            go_wp2
            go_roundw
            case rel => exact ⟨j + 1, _, _, _, by omega, by go_num, OK4.out, ((hX.pull 1 rfl).drop)⟩
            case measure => simp [intOf]; omega
    · go_wp2
      go_end0
      exact ⟨rfl, _, _, _, OK.out, X.out⟩
end Go.Proofs.YtminjgfobcnmhaaDoor.Pool
