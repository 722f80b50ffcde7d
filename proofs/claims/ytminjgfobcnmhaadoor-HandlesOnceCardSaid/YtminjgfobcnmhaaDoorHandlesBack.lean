/-
  HandlesBack: the walk.
-/
import Derived.Test.YtminjgfobcnmhaaDoorPoolRun
import Derived.Test.YtminjgfobcnmhaaDoorPoolFrom
import Derived.Test.YtminjgfobcnmhaaDoorErr
import Derived.Test.YtminjgfobcnmhaaDoorPart
namespace Go.Proofs.YtminjgfobcnmhaaDoor.HandlesBack
open Go Go.RowKit Go.Proofs.YtminjgfobcnmhaaDoor.Pool

def castL (l : List Nat) : List Int := l.map (fun i : Nat => (i : Int))
theorem castL_back (l : List Nat) : (castL l).map Int.toNat = l := by
  unfold castL
  rw [List.map_map]
  conv => rhs; rw [← List.map_id l]
  apply List.map_congr_left
  intro x _
  simp
theorem freeR_ints {w0 w : World} {L : List Res} (X : Star w0 w L) (i : Nat) {v : Value} {l : List Nat} (hi : L[i]? = some (freeR v l)) : Ints w v (castL l) := by
  have := Reads.of_own (X.row i hi).1
  unfold Ints
  rw [show (castL l).length = l.length by simp [castL], show (castL l).map (Value.int .i64) = l.map nv by simp [castL, nv]]
  exact this

/-- Handles that live, each of another place. -/
structure Lv (S : List Slot) (hs : List Hand) : Prop where
  all : ∀ h ∈ hs, ∃ i : Nat, h.1 = (i : Int) ∧ S[i]? = some (h.2, true)
  nodup : (hs.map (·.1)).Nodup
theorem Lv.len {S : List Slot} {hs : List Hand} (h : Lv S hs) : hs.length ≤ S.length := by
  have h1 : ∀ x ∈ hs.map (·.1), 0 ≤ x := by
    intro x hx
    obtain ⟨y, hy, rfl⟩ := List.mem_map.1 hx
    obtain ⟨i, e, _⟩ := h.all y hy
    omega
  have h2 : ((hs.map (·.1)).map Int.toNat).Nodup := by
    have hn := h.nodup
    generalize hs.map (·.1) = l at *
    clear h
    induction l with
    | nil => simp
    | cons x l ih =>
      rw [List.nodup_cons] at hn
      rw [List.map_cons, List.nodup_cons]
      refine ⟨fun hm => ?_, ih (fun y hy => h1 y (List.mem_cons_of_mem _ hy)) hn.2⟩
      obtain ⟨y, hy, e⟩ := List.mem_map.1 hm
      have a1 := h1 y (List.mem_cons_of_mem _ hy)
      have a2 := h1 x List.mem_cons_self
      have : y = x := by omega
      exact hn.1 (this ▸ hy)
  have h3 := nodup_len h2 (n := S.length) (fun i hi => by
    obtain ⟨x, hx, rfl⟩ := List.mem_map.1 hi
    obtain ⟨y, hy, rfl⟩ := List.mem_map.1 hx
    obtain ⟨i, e, g⟩ := h.all y hy
    have := (List.getElem?_eq_some_iff.1 g).1
    omega)
  simpa using h3
theorem Lv.erase {S : List Slot} {hs : List Hand} (h : Lv S hs) {t : Nat} {i : Nat} {g : Int} (ht : hs[t]? = some ((i : Int), g)) (s : Slot) : Lv (S.set i s) (hs.eraseIdx t) := by
  obtain ⟨htl, hte⟩ := List.getElem?_eq_some_iff.1 ht
  have hsp : hs = hs.take t ++ ((i : Int), g) :: hs.drop (t + 1) := by
    rw [← hte, ← List.drop_eq_getElem_cons htl, List.take_append_drop]
  have hn := h.nodup
  rw [hsp, List.map_append, List.map_cons, List.nodup_append, List.nodup_cons] at hn
  obtain ⟨n1, ⟨n2, n3⟩, n4⟩ := hn
  rw [List.eraseIdx_eq_take_drop_succ]
  refine ⟨?_, ?_⟩
  · intro x hx
    have hne : x.1 ≠ (i : Int) := by
      rcases List.mem_append.1 hx with hx | hx
      · exact n4 _ (List.mem_map_of_mem hx) _ List.mem_cons_self
      · intro e
        exact n2 (List.mem_map.2 ⟨x, hx, e⟩)
    obtain ⟨k, hk1, hk2⟩ := h.all x (by
      rw [hsp]
      rcases List.mem_append.1 hx with hx | hx
      · exact List.mem_append_left _ hx
      · exact List.mem_append_right _ (List.mem_cons_of_mem _ hx))
    refine ⟨k, hk1, ?_⟩
    rw [List.getElem?_set_ne (by intro e; apply hne; rw [hk1, e])]
    exact hk2
  · rw [List.map_append, List.nodup_append]
    exact ⟨n1, n3, fun a ha b hb => n4 a ha b (List.mem_cons_of_mem _ hb)⟩
theorem Lv.take {S : List Slot} {f : List Nat} {c : Int} {hs : List Hand} (h : Lv S hs) (ok : Ok S f c) {x : Hand} {S' : List Slot} {f' : List Nat} (ht : takeM S f = some (x, S', f')) : Lv S' (hs ++ [x]) := by
  obtain ⟨_, ⟨i, _, h1, h2, rfl⟩ | ⟨_, _, hl, rfl, rfl⟩⟩ := ok.take ht
  · have hil := (List.getElem?_eq_some_iff.1 h2).1
    have hne : ∀ y ∈ hs, y.1 ≠ x.1 := by
      intro y hy e
      obtain ⟨k, hk1, hk2⟩ := h.all y hy
      have : k = i := by omega
      subst this
      rw [h2] at hk2
      simp at hk2
    refine ⟨fun y hy => ?_, ?_⟩
    · rcases List.mem_append.1 hy with hy | hy
      · obtain ⟨k, hk1, hk2⟩ := h.all y hy
        refine ⟨k, hk1, ?_⟩
        rw [List.getElem?_set_ne (by intro e; apply hne y hy; omega)]
        exact hk2
      · simp at hy; subst hy
        exact ⟨i, h1, by rw [List.getElem?_set_self hil]⟩
    · rw [List.map_append, List.nodup_append]
      refine ⟨h.nodup, by simp, fun a ha b hb => ?_⟩
      obtain ⟨y, hy, rfl⟩ := List.mem_map.1 ha
      simp at hb; subst hb
      exact hne y hy
  · refine ⟨fun y hy => ?_, ?_⟩
    · rcases List.mem_append.1 hy with hy | hy
      · obtain ⟨k, hk1, hk2⟩ := h.all y hy
        exact ⟨k, hk1, by rw [List.getElem?_append_left (List.getElem?_eq_some_iff.1 hk2).1]; exact hk2⟩
      · simp at hy; subst hy
        exact ⟨S.length, rfl, by simp⟩
    · rw [List.map_append, List.nodup_append]
      refine ⟨h.nodup, by simp, fun a ha b hb => ?_⟩
      obtain ⟨y, hy, rfl⟩ := List.mem_map.1 ha
      simp at hb; subst hb
      obtain ⟨k, hk1, hk2⟩ := h.all y hy
      have := (List.getElem?_eq_some_iff.1 hk2).1
      omega
theorem Lv.nil (S : List Slot) : Lv S [] := ⟨by simp, by simp⟩

set_option maxRecDepth 100000 in
set_option maxHeartbeats 4000000 in
theorem walk (os : List OpH) (more : Int) (v : Value) (w : World) (hr : Ops w v os) (hlo : os.length ≤ 9223372036854775807) (ad : Nat → Addr) (hE : Err.Errs w ad) :
    Calls Tryd.prog 11 #[v, .int .i64 more] w fun r w' => r = .returned (.bool true) ∧ Same w w' := by
  obtain ⟨i0, hi0, hz0, hz1, hz2⟩ := info_parts infoH
  obtain ⟨a, ca, rfl⟩ := hr.slice
  have HR := hid hr
  have HE := hid hE
  obtain ⟨n, hn⟩ : ∃ n, n = os.length := ⟨_, rfl⟩
  rw [← hn] at hlo
  simp only [← hn] at HR ⊢
  have HN := hid hn
  clear hr hE hn
  go_enter Tryd.func11, Tryd.ntmps11
  go_wp2_with fail
  refine (alive _).mono ?_
  rintro r w1 ⟨rfl, hs1⟩
  have X1 := hid ((Star.new w).go hs1)
  clear hs1
  by_cases h1 : 80 < n
  · go_wp2
    go_ret
    exact ⟨rfl, X1.out.same⟩
  go_wp2_with fail
  refine (new_any X1.out).mono ?_
  rintro r w2 ⟨p, rfl, hX⟩
  have X2 := hid ((hX.add (w' := w2.alloc (.cells #[] 42)) ((Chg.refl _).alloc _) (R := Row 42 2 (.slice (some ⟨w2.heap.size, 0, none⟩) 0 0) 0 []) ⟨World.ownsRow_lit (base := 0) w2 #[] 0 (Nat.zero_le _) (by unfold maxLen; omega) rfl, rfl⟩ (fun k h => by simp [Value.ownBlock] at h; omega)).swap)
  clear hX X1
  go_wp2_with fail
  go_loopw [6, 29] (fun lv iv wr => ∃ (j : Nat) (S : List Slot) (f : List Nat) (c : Int) (hs : List Hand) (m : Nat), j ≤ n ∧ m = hs.length ∧ iv = .int .i64 j ∧ Ok S f c ∧ Lv S hs ∧ Star w wr [PoolR p S f c, Row 42 2 lv m (hs.flatMap hl)]) (fun _ iv _ => n - (intOf iv).toNat)
  case atStart => exact ⟨0, [], [], 0, [], 0, by omega, rfl, rfl, Ok.new, Lv.nil _, X2.out⟩
  case round =>
    obtain ⟨j, S, f, c, hs, m, hj, hm, rfl, hok, hlv, hX⟩ := hrel
    have X := hid hX
    have OK := hid hok
    have LV := hid hlv
    have HM := hid hm
    have hm128 : m ≤ 128 := by have := hlv.len; have := hok.len; omega
    obtain ⟨al, cl, rfl, -⟩ := own_slice (hX.row 1 rfl).1
    clear hX hok hlv hm X2
    by_cases hjn : j < n
    · obtain ⟨b, off, cap, e1, hb, hcl⟩ := HR.out.open (by have := HN.out; omega)
      have hjo : j < os.length := by have := HN.out; omega
      obtain ⟨o, ho⟩ : ∃ o, os[j]? = some o := ⟨_, List.getElem?_eq_getElem hjo⟩
      have g0 := X.out.keepCell (hcl (j * 4 + 0) _ ((rows_get OpH.cells OpH.len os j 0 o ho (by omega)).trans rfl))
      have g1 := X.out.keepCell (hcl (j * 4 + 1) _ ((rows_get OpH.cells OpH.len os j 1 o ho (by omega)).trans rfl))
      have g2 := X.out.keepCell (hcl (j * 4 + 2) _ ((rows_get OpH.cells OpH.len os j 2 o ho (by omega)).trans rfl))
      have g3 := X.out.keepCell (hcl (j * 4 + 3) _ ((rows_get OpH.cells OpH.len os j 3 o ho (by omega)).trans rfl))
      rw [Nat.add_zero] at g0
      rw [← Nat.add_assoc] at g1 g2 g3
      obtain ⟨kind, on, oi, og⟩ := o
      cases e1
      clear hcl ho
      by_cases hk : kind = 2 ∧ 0 < m
      · obtain ⟨rfl, hm0⟩ := hk
        obtain ⟨t, hti, hmod⟩ := mod_small on m hm0 (by omega)
        obtain ⟨⟨hx, hg⟩, hh⟩ : ∃ h, hs[t]? = some h := ⟨_, List.getElem?_eq_getElem (by have := HM.out; omega)⟩
        obtain ⟨k, hk1, hk2⟩ := LV.out.all _ (List.mem_of_getElem? hh)
        simp only at hk1 hk2
        subst hk1
        have hrow := X.out.row 1 rfl
        obtain ⟨gu, cu, e3⟩ := own_shape hrow.1 (by omega)
        cases e3
        have e0 : wr.cell? ⟨gu, t * 2, none⟩ = some (.int .i64 k) := (hrow.1.cellAt (t * 2) (by omega)).trans ((rows_get hl hl_len hs t 0 _ hh (by omega)).trans rfl)
        have e1 : wr.cell? ⟨gu, t * 2 + 1, none⟩ = some (.int .i64 hg) := (hrow.1.cellAt (t * 2 + 1) (by omega)).trans ((rows_get hl hl_len hs t 1 _ hh (by omega)).trans rfl)
        have hgl := (hrow.1.lt gu rfl).2
        have HK := hid hk2
        have HH := hid hh
        clear hrow hh hk2
        have X3 := hid (X.out.go (w' := wr.alloc (.cells #[.int .i64 2, .int .i64 on, .int .i64 oi, .int .i64 og] 44)) ((Chg.refl _).alloc _))
        go_wp2_with fail
        refine (free_live X3.out OK.out HK.out).mono ?_
        rintro r w4 ⟨rfl, hX⟩
        have OK4 := hid (OK.out.free' HK.out)
        have LV4 := hid (LV.out.erase HH.out (gone hg))
        have X4 := hid hX
        clear e0 e1 hgl g0 g1 g2 g3 hX X X3
        go_wp2_with fail
        have hrow := (X4.out.row 1 rfl).1
        have hcap := own_cap hrow
        have hsrc := (Reads.of_own hrow).rest (t + 1) (cl - (t + 1)) (by omega) hcap
        rw [Nat.zero_add] at hsrc
        have hhead := own_take hrow t (by omega)
        have HHEAD := hid hhead
        have HSRC := hid hsrc
        have hw1 : IntKind.i64.wrap ((t : Int) + 1) = (t : Int) + 1 := IntWalk.i64_in _ (by omega)
        have hw2 : (0 : Int) ≤ (t : Int) + 1 := by omega
        have hw3 : ((t : Int) + 1).toNat = t + 1 := by omega
        have hw4 : t + 1 ≤ m := by omega
        have hw5 : t + 1 ≤ cl := by omega
        have hw6 : t ≤ cl := by omega
        have hw7 : (t : Int) + 1 ≤ (m : Int) := by omega
        have hw8 : (t : Int) + 1 ≤ (cl : Int) := by omega
        have hw9 : (t : Int) ≤ (cl : Int) := by omega
        have HUB := hid (rows_one hl hl_one hs)
        clear hrow hsrc hhead hcap
        go_region_law (refine step_app rfl (.tmp 57) (.tmp 61) 45 rfl 42 i0 (.agg #[.int .i64 0, .int .i64 0]) 2 16 Tryd.underlying45 hi0 hz0 hz1 hz2 rfl (by decide) (.slice (some ⟨gu, 0, none⟩) t cl) t ((hs.flatMap hl).take (t * 2)) (by simp [Act.eval, Act.put]) (by exact own_chg (S := fun _ => False) HHEAD.out (by repeat (first | exact Chg.refl _ | refine Chg.drew ?_)) (fun _ _ f => f)) (if cl = t + 1 then some ⟨gu, 0, none⟩ else some ⟨gu, (t + 1) * 2, none⟩) (m - (t + 1)) (cl - (t + 1)) ((hs.flatMap hl).drop ((t + 1) * 2)) (by simp [Act.eval, Act.put]) (by exact HSRC.out.same (by repeat (first | exact Chg.refl _ | refine Chg.drew ?_))) (fun u hu => HUB.out u (List.mem_of_mem_drop hu)) (by omega) (by omega) ?_; intro a8 c8 w8; rw [show t + (m - (t + 1)) = m - 1 from by omega]; intro ho8 hg8 hn8)
        have hle : m - 1 = (hs.eraseIdx t).length := by rw [List.length_eraseIdx]; have := HM.out; split <;> omega
        rw [rows_take hl hl_len, rows_drop hl hl_len, ← List.flatMap_append, ← List.eraseIdx_eq_take_drop_succ] at ho8
        have X8 := hid ((X4.out.go (by repeat (first | exact Chg.refl _ | refine Chg.drew ?_))).grown 1 rfl ho8 hg8 hn8)
        have HLE := hid hle
        clear ho8 hg8 hn8 hle HHEAD HSRC HUB hw1 hw2 hw3 hw4 hw5 hw6 hw7 hw8 hw9 X4
        go_wp2
        go_roundw
        case rel => exact ⟨j + 1, _, _, _, _, m - 1, by omega, HLE.out, by go_num, OK4.out, LV4.out, X8.out⟩
        case measure => simp [intOf]; omega
      · have hcase : takeM S f = none ∨ ∃ h S2 f2, takeM S f = some (h, S2, f2) := by
          cases takeM S f with
          | none => exact .inl rfl
          | some x => exact .inr ⟨x.1, x.2.1, x.2.2, rfl⟩
        have hm0 : kind = 2 → m = 0 := fun h => by rcases Nat.eq_zero_or_pos m with h' | h'; exact h'; exact absurd ⟨h, h'⟩ hk
        have hskip : (kind == 2) = false ∨ (kind = 2 ∧ m = 0) := by
          by_cases h2 : kind = 2
          · exact .inr ⟨h2, hm0 h2⟩
          · exact .inl (by simpa using h2)
        clear hk hm0
        have X3 := hid (X.out.go (w' := wr.alloc (.cells #[.int .i64 kind, .int .i64 on, .int .i64 oi, .int .i64 og] 44)) ((Chg.refl _).alloc _))
        rcases hcase with ht | ⟨h, S2, f2, ht⟩
        · have HT := hid ht
          clear ht
          rcases hskip with hsk | ⟨rfl, rfl⟩
          · go_wp2_with fail
            refine (take_none X3.out OK.out HT.out _ HE.out.c1 ⟨_, _, rfl⟩).mono ?_
            rintro r w4 ⟨rfl, hX⟩
            have X4 := hid (hX.go (w' := w4.alloc (.cells #[.int .i64 0, .int .i64 0] 42)) ((Chg.refl _).alloc _))
            clear hX g0 g1 g2 g3 X X3
            go_wp2
            go_roundw
            case rel => exact ⟨j + 1, _, _, _, _, _, by omega, HM.out, by go_num, OK.out, LV.out, X4.out⟩
            case measure => simp [intOf]; omega
          · go_wp2_with fail
            refine (take_none X3.out OK.out HT.out _ HE.out.c1 ⟨_, _, rfl⟩).mono ?_
            rintro r w4 ⟨rfl, hX⟩
            have X4 := hid (hX.go (w' := w4.alloc (.cells #[.int .i64 0, .int .i64 0] 42)) ((Chg.refl _).alloc _))
            clear hX g0 g1 g2 g3 X X3
            go_wp2
            go_roundw
            case rel => exact ⟨j + 1, _, _, _, _, _, by omega, HM.out, by go_num, OK.out, LV.out, X4.out⟩
            case measure => simp [intOf]; omega
        · have HT := hid ht
          have OK4 := hid (OK.out.take ht).1
          have LV4 := hid (LV.out.take OK.out ht)
          clear ht
          obtain ⟨hx, hg⟩ := h
          rcases hskip with hsk | ⟨rfl, rfl⟩
          · go_wp2_with fail
            refine (take_some X3.out OK.out HT.out).mono ?_
            rintro r w4 ⟨rfl, hX⟩
            have X4 := hid hX
            have hrow := hid (hX.row 1 rfl).1
            clear hX g0 g1 g2 g3 X X3
            go_wp2_with (at_builtin; go_loud (refine wpList_app rfl _ _ 45 rfl 42 i0 (.agg #[.int .i64 0, .int .i64 0]) 2 16 Tryd.underlying45 hi0 hz0 hz1 hz2 rfl (by decide) _ m (hs.flatMap hl) rfl (own_chg (S := fun _ => False) hrow.out (by repeat (first | exact Chg.refl _ | refine Chg.drew ?_ | refine Chg.alloc _ ?_)) (fun _ _ f => f)) (some _) 1 1 (hl (hx, hg)) rfl (reads_blk (cs := #[.int .i64 hx, .int .i64 hg]) (E := 42) (f := (0, 0)) (by first | exact alloc_new _ _ | exact alloc2_new _ _ _) 1 1 2 rfl) (hl_one _) (by omega) (by omega) ?_); intro a7 c7 w7 ho7 hg7 hn7)
            have X7 := hid ((X4.out.go (by repeat (first | exact Chg.refl _ | refine Chg.drew ?_ | refine Chg.alloc _ ?_))).grown 1 rfl ho7 hg7 hn7)
            clear ho7 hg7 hn7 hrow X4
            go_wp2
            go_roundw
            case rel =>
              refine ⟨j + 1, _, _, _, _, m + 1, by omega, ?_, by go_num, OK4.out, LV4.out, ?_⟩
              rotate_left
              · have h := X7.out
                rw [show hs.flatMap hl ++ hl (hx, hg) = (hs ++ [(hx, hg)]).flatMap hl by simp] at h
                exact h
              · rw [List.length_append, ← HM.out]; rfl
            case measure => simp [intOf]; omega
          · go_wp2_with fail
            refine (take_some X3.out OK.out HT.out).mono ?_
            rintro r w4 ⟨rfl, hX⟩
            have X4 := hid hX
            have hrow := hid (hX.row 1 rfl).1
            clear hX g0 g1 g2 g3 X X3
            go_wp2_with (at_builtin; go_loud (refine wpList_app rfl _ _ 45 rfl 42 i0 (.agg #[.int .i64 0, .int .i64 0]) 2 16 Tryd.underlying45 hi0 hz0 hz1 hz2 rfl (by decide) _ 0 (hs.flatMap hl) rfl (own_chg (S := fun _ => False) hrow.out (by repeat (first | exact Chg.refl _ | refine Chg.drew ?_ | refine Chg.alloc _ ?_)) (fun _ _ f => f)) (some _) 1 1 (hl (hx, hg)) rfl (reads_blk (cs := #[.int .i64 hx, .int .i64 hg]) (E := 42) (f := (0, 0)) (by first | exact alloc_new _ _ | exact alloc2_new _ _ _) 1 1 2 rfl) (hl_one _) (by omega) (by omega) ?_); intro a7 c7 w7 ho7 hg7 hn7)
            have X7 := hid ((X4.out.go (by repeat (first | exact Chg.refl _ | refine Chg.drew ?_ | refine Chg.alloc _ ?_))).grown 1 rfl ho7 hg7 hn7)
            clear ho7 hg7 hn7 hrow X4
            go_wp2
            go_roundw
            case rel =>
              refine ⟨j + 1, _, _, _, _, 0 + 1, by omega, ?_, by go_num, OK4.out, LV4.out, ?_⟩
              rotate_left
              · have h := X7.out
                rw [show hs.flatMap hl ++ hl (hx, hg) = (hs ++ [(hx, hg)]).flatMap hl by simp] at h
                exact h
              · rw [List.length_append, ← HM.out]; rfl
            case measure => simp [intOf]; omega
    · clear HR
      have XP := hid ((X.out.swap).drop)
      clear X
      have hS := OK.out.len
      have hf := OK.out.flen
      go_wp2_with fail
      refine (slots_any XP.out (by omega) (by omega)).mono ?_
      rintro r w4 ⟨vs, vf, rfl, hX⟩
      obtain ⟨as4, cs4, e4, _⟩ := own_slice (hX.row 1 rfl).1
      obtain ⟨af4, cf4, e5, _⟩ := own_slice (hX.row 0 rfl).1
      subst e4 e5
      have X4 := hid hX
      have IF := hid (freeR_ints hX 0 rfl)
      have IS := hid (Reads.of_own (hX.row 1 rfl).1)
      clear hX XP
      go_wp2_with fail
      refine (from_any S (castL f) _ _ _ IS.out IF.out (by omega) (by simp [castL]; omega) _ (X4.out.keepCell HE.out.c6)).mono ?_
      rintro r w5 hF
      rcases hF with ⟨_, q, rfl, hQ⟩ | ⟨hF, _⟩
      rotate_left
      · exact absurd OK.out.form hF
      have X5 := hid ((X4.out.lift hQ).pull 3 rfl)
      clear hQ X4 IF IS
      rw [castL_back, ← OK.out.count] at X5
      have X6 : Hid (Star w w5 [PoolR p S f c, PoolR q S f c]) := hid (((X5.out.pull 2 rfl).drop.pull 2 rfl).drop)
      clear X5
      obtain ⟨mo, hmo, hmod⟩ := mod_small more 140 (by omega) (by omega)
      have hmod2 : wrap64 ((IntKind.u64.wrap more).tmod 140) = (mo : Int) := hmod
      clear hmod
      go_wp2_with fail
      rw [hmod2]
      clear hmod2
      go_loopw [96] (fun iv wx => ∃ (i : Nat) (S : List Slot) (f : List Nat) (c : Int), i ≤ mo ∧ iv = .int .i64 i ∧ Ok S f c ∧ Star w wx [PoolR p S f c, PoolR q S f c]) (fun iv _ => mo - (intOf iv).toNat)
      case atStart => exact ⟨0, S, f, c, by omega, rfl, OK.out, X6.out⟩
      case round =>
        obtain ⟨i, S, f, c, hi, rfl, hok, hX⟩ := hrel
        have X := hid hX
        have OK := hid hok
        clear hX hok X6
        by_cases him : i < mo
        · have hcase : takeM S f = none ∨ ∃ h S2 f2, takeM S f = some (h, S2, f2) := by
            cases takeM S f with
            | none => exact .inl rfl
            | some x => exact .inr ⟨x.1, x.2.1, x.2.2, rfl⟩
          rcases hcase with ht | ⟨h, S2, f2, ht⟩
          · have HT := hid ht
            clear ht
            go_wp2_with fail
            refine (take_none X.out OK.out HT.out _ HE.out.c1 ⟨_, _, rfl⟩).mono ?_
            rintro r w6 ⟨rfl, hX⟩
            have X7 := hid ((hX.alloc #[.int .i64 0, .int .i64 0] 42).pull 2 rfl)
            clear hX X
            go_wp2_with fail
            generalize w6.heap.size = q6 at *
            refine (take_none X7.out OK.out HT.out _ HE.out.c1 ⟨_, _, rfl⟩).mono ?_
            rintro r w7 ⟨rfl, hX⟩
            have X8 := hid (hX.alloc #[.int .i64 0, .int .i64 0] 42)
            clear hX X7
            have hb6 := X8.out.blk 2 rfl
            have a0 := cell_of hb6.1 0
            have a1 := cell_of hb6.1 1
            have al := lt_of hb6.1
            clear hb6
            go_wp2_with fail
            refine (Err.num ad 2 (by omega) _ (HE.out.same X8.out.same)).mono ?_
            rintro r w8 ⟨rfl, hs8⟩
            have X9 := hid (X8.out.go hs8)
            clear hs8 X8 a0 a1 al
            go_wp2_with fail
            refine (Err.num ad 2 (by omega) _ (HE.out.same X9.out.same)).mono ?_
            rintro r w9 ⟨rfl, hs9⟩
            have X10 := hid (X9.out.go hs9)
            clear hs9 X9
            go_wp2
            go_roundw
            case rel =>
              have hrel : ∃ (i' : Nat) (S : List Slot) (f : List Nat) (c : Int), i' ≤ mo ∧ Value.int .i64 ((i : Int) + 1) = .int .i64 i' ∧ Ok S f c ∧ Star w w9 [PoolR p S f c, PoolR q S f c] := ⟨i + 1, _, _, _, by omega, by go_num, OK.out, ((X10.out.drop.pull 2 rfl).pull 2 rfl).drop⟩
              first | exact hrel | ((repeat apply Exists.intro); exact ⟨hrel, rfl⟩)
            case measure => simp [intOf]; omega
          · have HT := hid ht
            have OK4 := hid (OK.out.take ht).1
            clear ht
            obtain ⟨hx, hg⟩ := h
            go_wp2_with fail
            refine (take_some X.out OK.out HT.out).mono ?_
            rintro r w6 ⟨rfl, hX⟩
            have X7 := hid ((hX.alloc #[.int .i64 hx, .int .i64 hg] 42).pull 2 rfl)
            clear hX X
            go_wp2_with fail
            generalize w6.heap.size = q6 at *
            refine (take_some X7.out OK.out HT.out).mono ?_
            rintro r w7 ⟨rfl, hX⟩
            have X8 := hid (hX.alloc #[.int .i64 hx, .int .i64 hg] 42)
            clear hX X7
            have hb6 := X8.out.blk 2 rfl
            have a0 := cell_of hb6.1 0
            have a1 := cell_of hb6.1 1
            have al := lt_of hb6.1
            clear hb6
            go_wp2_with fail
            refine (Err.num ad 0 (by omega) _ (HE.out.same X8.out.same)).mono ?_
            rintro r w8 ⟨rfl, hs8⟩
            have X9 := hid (X8.out.go hs8)
            clear hs8 X8 a0 a1 al
            go_wp2_with fail
            refine (Err.num ad 0 (by omega) _ (HE.out.same X9.out.same)).mono ?_
            rintro r w9 ⟨rfl, hs9⟩
            have X10 := hid (X9.out.go hs9)
            clear hs9 X9
            go_wp2
            go_roundw
            case rel =>
              have hrel : ∃ (i' : Nat) (S : List Slot) (f : List Nat) (c : Int), i' ≤ mo ∧ Value.int .i64 ((i : Int) + 1) = .int .i64 i' ∧ Ok S f c ∧ Star w w9 [PoolR p S f c, PoolR q S f c] := ⟨i + 1, _, _, _, by omega, by go_num, OK4.out, ((X10.out.drop.pull 2 rfl).pull 2 rfl).drop⟩
              first | exact hrel | ((repeat apply Exists.intro); exact ⟨hrel, rfl⟩)
            case measure => simp [intOf]; omega
        · go_wp2_with fail
          refine (count_any (X.out.swap)).mono ?_
          rintro r w6 ⟨rfl, rfl⟩
          go_wp2_with fail
          refine (count_any (X.out)).mono ?_
          rintro r w7 ⟨rfl, rfl⟩
          go_wp2
          go_ret
          exact ⟨rfl, X.out.same⟩
end Go.Proofs.YtminjgfobcnmhaaDoor.HandlesBack
