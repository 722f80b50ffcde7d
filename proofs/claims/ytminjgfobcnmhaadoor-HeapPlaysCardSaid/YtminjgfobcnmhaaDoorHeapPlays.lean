/-
  HeapPlays: the walk.
-/
import Derived.Test.YtminjgfobcnmhaaDoorHeapPutAny
import Derived.Test.YtminjgfobcnmhaaDoorInOps
import Derived.Test.YtminjgfobcnmhaaDoorErr
namespace Go.Proofs.YtminjgfobcnmhaaDoor.HeapPlays
open Go Go.RowKit Go.Proofs.YtminjgfobcnmhaaDoor.Hp

/-- The model's row: it reads as l, and lies apart from the heap. -/
structure MRow (wr : World) (p : Nat) (v mv : Value) (l : List (Int × Int)) : Prop where
  reads : Reads wr mv l.length 2 (flat l)
  shape : (mv = .slice none 0 0 ∧ l = []) ∨ ∃ b off cap, mv = .slice (some ⟨b, off, none⟩) l.length cap ∧ l.length ≤ cap ∧ b < wr.heap.size ∧ ¬ HpS p v b

theorem MRow.step {a b : World} {p : Nat} {v v' mv : Value} {l : List (Int × Int)} (h : MRow a p v mv l) (hc : Chg (HpS p v) a b) (hn : NewOr a v v') : MRow b p v' mv l := by
  rcases h.shape with ⟨h1, h2⟩ | ⟨b', off, cap, h1, h2, h3, h4⟩
  · subst h1; subst h2
    exact ⟨⟨none, 0, rfl, rfl, fun _ => ⟨rfl, rfl⟩, fun a ha => by cases ha⟩, .inl ⟨rfl, rfl⟩⟩
  · refine ⟨h.reads.chg hc (fun a c e _ => by rw [h1] at e; cases e; exact h4), .inr ⟨b', off, cap, h1, h2, Nat.lt_of_lt_of_le h3 hc.size, ?_⟩⟩
    rintro (hp | hp)
    · exact h4 (.inl hp)
    · rcases hn with e | e
      · exact h4 (.inr (hp.trans e))
      · have := e b' hp.symm; omega
theorem MRow.go {a b : World} {p : Nat} {v mv : Value} {l : List (Int × Int)} (h : MRow a p v mv l) (hs : Same a b) : MRow b p v mv l :=
  h.step (hs.mono (fun _ _ f => f.elim)) (.inl rfl)

structure Play (w wr : World) (p : Nat) (v mv : Value) (es l : List (Int × Int)) : Prop where
  live : Live w wr p v es
  row : MRow wr p v mv l
  perm : es.Perm l
  rises : Rising l
  most : l.length ≤ 16384
theorem Play.go {w a b : World} {p : Nat} {v mv : Value} {es l : List (Int × Int)} (h : Play w a p v mv es l) (hs : Same a b) : Play w b p v mv es l := ⟨h.live.go hs, h.row.go hs, h.perm, h.rises, h.most⟩
theorem Play.len {w a : World} {p : Nat} {v mv : Value} {es l : List (Int × Int)} (h : Play w a p v mv es l) : es.length = l.length := h.perm.length_eq
theorem MRow.slice {a : World} {p : Nat} {v mv : Value} {l : List (Int × Int)} (h : MRow a p v mv l) : ∃ x c, mv = .slice x l.length c := by
  rcases h.shape with ⟨h1, h2⟩ | ⟨b', off, cap, h1, _⟩
  · subst h2; exact ⟨_, _, h1⟩
  · exact ⟨_, _, h1⟩

/-- What the loop of many pushes keeps. -/
structure Often (w wx : World) (p q m i : Nat) (v mv : Value) (es : List (Int × Int)) (o : Obj) : Prop where
  le : i ≤ m
  live : Live w wx p v es
  len : es.length = min i 16384
  row : MRow wx p v mv []
  op : wx.heap[q]? = some o
  apart : ¬ HpS p v q

set_option maxRecDepth 100000 in
set_option maxHeartbeats 4000000 in
theorem walk (os : List OpI) (v : Value) (w : World) (hr : Reads w v os.length 3 (os.flatMap OpI.cells)) (hm : os.length ≤ 9223372036854775807) (hall : ∀ o ∈ os, Reads w o.v o.es.length 2 (flat o.es) ∧ o.es.length ≤ 9223372036854775807) (ad : Nat → Addr) (hE : Err.Errs w ad) :
    Calls Tryd.prog 10 #[v] w fun r w' => r = .returned (.bool true) ∧ Same w w' := by
  obtain ⟨i0, hi, hz0, hz1, hz2⟩ := info_parts info
  obtain ⟨a, c, rfl⟩ := hr.slice
  have HR := hid hr
  have HALL := hid hall
  have HE := hid hE
  obtain ⟨n, hn⟩ : ∃ n, n = os.length := ⟨_, rfl⟩
  rw [← hn] at hm
  simp only [← hn] at HR ⊢
  have HN := hid hn
  clear hr hall hE hn
  go_enter Tryd.func10, Tryd.ntmps10
  go_wp2_with fail
  refine (alive _).mono ?_
  rintro r w1 ⟨rfl, hs1⟩
  have S1 := hid hs1
  clear hs1
  by_cases h1 : 60 < n
  · go_wp2
    go_ret
    exact ⟨rfl, S1.out⟩
  go_wp2_with fail
  refine (live_new w w1 S1.out).mono ?_
  rintro r w2 ⟨rfl, h2', hs2⟩
  have hp2 := h2'.hp.lt
  have X2 := hid (Play.mk (mv := .slice (some ⟨w2.heap.size, 0, none⟩) 0 0) (l := []) (h2'.go ((Chg.refl _).alloc (.cells #[] 64))) ⟨Reads.of_own (World.ownsRow_lit (base := 0) (e := 64) w2 #[] 0 (Nat.zero_le _) (by decide) rfl), .inr ⟨_, _, _, rfl, Nat.le_refl _, by simp, by rintro (h | h); omega; simp [Value.ownBlock] at h⟩⟩ (List.Perm.refl _) List.Pairwise.nil (by simp))
  clear h2' hs2
  generalize w1.heap.size = p at *
  go_wp2_with fail
  go_loopw [4, 27] (fun mv iv wr => ∃ (j : Nat) (v : Value) (es l : List (Int × Int)), j ≤ n ∧ iv = .int .i64 j ∧ Play w wr p v mv es l) (fun _ iv _ => n - (intOf iv).toNat)
  case atStart => exact ⟨0, _, [], [], Nat.zero_le _, rfl, X2.out⟩
  case round =>
    obtain ⟨j, v, es, l, hj, rfl, hX⟩ := hrel
    have X := hid hX
    clear hX X2
    obtain ⟨mx, mc, rfl⟩ := X.out.row.slice
    by_cases hlt : j < n
    · obtain ⟨b, off, cap, e1, hb, hcl⟩ := HR.out.open (by omega)
      cases e1
      obtain ⟨o, ho⟩ : ∃ o, os[j]? = some o := ⟨os[j]'(by have := HN.out; omega), by simp⟩
      obtain ⟨c0, c1, c2⟩ := ops_get os j o ho
      have g0 := X.out.live.same.keep (hcl _ _ c0)
      have g1 := X.out.live.same.keep (hcl _ _ c1)
      have g2 := X.out.live.same.keep (hcl _ _ c2)
      rw [← Nat.add_assoc] at g1 g2
      obtain ⟨hre, hme⟩ := HALL.out o (List.mem_of_getElem? ho)
      obtain ⟨kind, nn, ov, ys⟩ := o
      simp only at g0 g1 g2 hre hme
      obtain ⟨ya, yc, rfl⟩ := hre.slice
      have HY := hid hre
      obtain ⟨ny, hny⟩ : ∃ ny, ny = ys.length := ⟨_, rfl⟩
      rw [← hny] at hme
      simp only [← hny] at HY g2
      have HNY := hid hny
      clear hcl ho c0 c1 c2 hre hny
      by_cases h60 : 60 < ny
      · go_wp2
        go_ret
        exact ⟨rfl, X.out.live.same.alloc _⟩
      have X1 := hid (X.out.go ((Chg.refl _).alloc (.cells #[.int .i64 kind, .int .i64 nn, .slice ya ny yc] 73)))
      have HO := hid (alloc_new wr (.cells #[.int .i64 kind, .int .i64 nn, .slice ya ny yc] 73))
      by_cases k1 : kind = 1
      · subst k1
        have HUB := hid (flat_one ys)
        have hA1 := X1.out.live.hp.lt
        go_wp2_with (at_builtin; refine wpList_app rfl _ _ 22 rfl 31 i0 (.agg #[.int .i64 0, .int .i64 0]) 2 16 Tryd.underlying22 hi hz0 hz1 hz2 rfl (by decide) _ 0 [] rfl (by have h := World.ownsRow_lit (base := 0) (e := 31) (size := 2) (wr.alloc (.cells #[.int .i64 1, .int .i64 nn, .slice ya ny yc] 73)) #[] 0 (Nat.zero_le _) (by decide) rfl; rw [World.size_alloc] at h; exact h) ya ny yc (flat ys) rfl ((HY.out.same X1.out.live.same).same ((Chg.refl _).alloc _)) HUB.out (by omega) (by omega) ?_; intro a4 c4 w4; rw [show 0 + ny = ny from Nat.zero_add _, List.nil_append]; intro ho4 hg4 hn4)
        have hs4 : Same (wr.alloc (.cells #[.int .i64 1, .int .i64 nn, .slice ya ny yc] 73)) w4 := Chg.grown ((Chg.refl _).alloc _) hg4 (fun k e hk => by have : wr.heap.size + 1 = k := Option.some.inj e; simp at hk; omega)
        have ha4 : After (wr.alloc (.cells #[.int .i64 1, .int .i64 nn, .slice ya ny yc] 73)) (.slice a4 ny c4) := hn4.after (fun i e => by have : wr.heap.size + 1 = i := Option.some.inj e; simp; omega) (by simp)
        have hsep4 : Sep p v (.slice a4 ny c4) := fun k hk h => by
          have := ha4 k hk
          rcases h with h | h
          · omega
          · have := own_lt X1.out.live.hp.own k h.symm; omega
        have hqn : ¬ HpS p v wr.heap.size := by
          rintro (h | h)
          · have := X.out.live.hp.lt; omega
          · have := own_lt X.out.live.hp.own _ h.symm; omega
        have HQN := hid hqn
        clear hqn
        have X4 := hid (X1.out.go hs4)
        have HO4 := hid (hs4.heap HO.out (fun f => f))
        have q2 := cell_of HO4.out 2
        have hqb := lt_of HO4.out
        have IN4 := hid ho4
        have HSEP := hid hsep4
        clear ho4 hg4 hn4 hs4 ha4 hsep4 hA1 X1 X HO
        have hln := X4.out.len
        have hlm := X4.out.most
        generalize hql : wr.heap.size = qo at *
        clear hql
        by_cases hfull : 16384 - (es.length : Int) < ny
        · have HE4 := hid (HE.out.same X4.out.live.same)
          refine (push_full p v es a4 ny c4 w4 X4.out.live.hp hme hfull _ HE4.out.c1).mono ?_
          rintro r w5 ⟨rfl, rfl⟩
          have hfull2 : 16384 - (l.length : Int) < ny := by omega
          have HLN := hid hln
          clear hfull hln
          go_wp2_with fail
          refine (Err.num ad 2 (by omega) _ HE4.out).mono ?_
          rintro r w5 ⟨rfl, hs5⟩
          have X5 := hid (X4.out.go hs5)
          clear hs5
          go_wp2_with fail
          refine (len_any p v es _ X5.out.live.hp).mono ?_
          rintro r w6 ⟨rfl, rfl⟩
          rw [HLN.out]
          go_wp2
          go_roundw
          case rel => exact ⟨j + 1, v, es, l, by omega, by go_num, X5.out⟩
          case measure => simp [intOf]; omega
        · refine (live_push X4.out.live ys a4 ny c4 HNY.out (Reads.of_own IN4.out) (fun b e h => by
            obtain ⟨g, c, e'⟩ := own_shape IN4.out h
            cases e; cases e'
            exact HSEP.out g rfl) (by omega)).mono ?_
          rintro r w5 ⟨rfl, v5, es5, h5, hp5, hc5, hn5⟩
          have H5 := hid h5
          have P5 := hid (hp5.trans (X4.out.perm.append_right ys))
          have R5 := hid (X4.out.row.step hc5 hn5)
          have IN5 := hid (own_chg IN4.out hc5 (fun k hk => HSEP.out k hk))
          have HO5 := hid (hc5.heap HO4.out HQN.out)
          have q5 := cell_of HO5.out 2
          have hqb5 := lt_of HO5.out
          have hfull2 : ¬ (16384 - (l.length : Int) < ny) := by omega
          have hlens : l.length + ny ≤ 16384 := by omega
          have HRIS := hid X4.out.rises
          clear h5 hp5 hc5 hn5 hfull hln hlm q2 hqb X4 IN4 HSEP HO4 HQN g0 g1 g2
          go_wp2_with fail
          go_loopw [4, 59] (fun mv iv wx => ∃ (k : Nat) (l' : List (Int × Int)), k ≤ ny ∧ iv = .int .i64 k ∧ l'.Perm (l ++ ys.take k) ∧ Rising l' ∧ MRow wx p v5 mv l' ∧ Same w5 wx) (fun _ iv _ => ny - (intOf iv).toNat)
          case atStart => exact ⟨0, l, Nat.zero_le _, rfl, by simp, HRIS.out, R5.out, Chg.refl _⟩
          case round =>
            obtain ⟨k, l', hk, rfl, hlp, hlr, hrow, hsx⟩ := hrel
            have HLP := hid hlp
            have HLR := hid hlr
            have HROW := hid hrow
            have HSX := hid hsx
            clear hlp hlr hrow hsx
            by_cases hkn : k < ny
            · obtain ⟨b2, off2, cap2, e1, hb2, hcl2⟩ := HY.out.open (by omega)
              cases e1
              have hxk := at_eq (es := ys) (k := k) (by have := HNY.out; omega)
              have s1 := HSX.out.keep (H5.out.same.keep (hcl2 (k * 2) _ (flat_0 _ _ _ hxk)))
              have s2 := HSX.out.keep (H5.out.same.keep (hcl2 (k * 2 + 1) _ (flat_1 _ _ _ hxk)))
              rw [← Nat.add_assoc] at s2
              obtain ⟨gi, ci, e2⟩ := own_shape IN5.out (by omega)
              cases e2
              have HIN := hid ((IN5.out.cellAt (k * 2) (by omega)).trans (flat_0 _ _ _ hxk))
              have HIN' := hid ((IN5.out.cellAt (k * 2 + 1) (by omega)).trans (flat_1 _ _ _ hxk))
              have HTK := hid (show ((at_ ys k) :: (l ++ ys.take k)).Perm (l ++ ys.take (k + 1)) by
                have hk' : k < ys.length := by have := HNY.out; omega
                rw [List.take_succ_eq_append_getElem hk']
                have : at_ ys k = ys[k] := by simp [at_, List.getD, hk']
                rw [this, ← List.append_assoc]
                exact (List.perm_append_comm (l₁ := [ys[k]])))
              clear hcl2 hxk
              generalize at_ ys k = e at *
              have hll : l'.length ≤ 16384 := by have h := HLP.out.length_eq; have := HNY.out; simp at h; omega
              obtain ⟨mx', mc', rfl⟩ := HROW.out.slice
              go_wp2_with fail
              have hsA : Same wr (wr.alloc (.cells #[.int .i64 e.1, .int .i64 e.2] 31)) := (Chg.refl _).alloc _
              have HQ := hid (alloc_new wr (.cells #[.int .i64 e.1, .int .i64 e.2] 31))
              have hRA := HROW.out.go hsA
              have hHA := hid (H5.out.hp.chg (HSX.out.trans hsA (fun _ _ f => f)) (fun _ _ f => f))
              refine (put_any l' e _ _ hRA.reads (by omega) (by
                rcases hRA.shape with h | ⟨b9, o9, c9, h1, h2, h3, _⟩
                · exact .inl h
                · exact .inr ⟨b9, o9, c9, h1, h2, h3⟩)).mono ?_
              rintro r w6 ⟨u6, rfl, k6, hpl6, hf6, hs6⟩
              have HS6 := hid ((HSX.out.trans hsA (fun _ _ f => f)).trans hs6 (fun _ _ f => f))
              have hq6 := hs6.heap HQ.out (fun f => f)
              have c0 := cell_of hq6 0
              have c1 := cell_of hq6 1
              have d0 := HS6.out.keep HIN.out
              have d1 := HS6.out.keep HIN'.out
              have hqb6 := lt_of hq6
              obtain ⟨g6, cp6, e6⟩ := own_shape hf6.1 (by omega)
              subst e6
              have hg6 : ¬ HpS p v5 g6 := by
                have h1 := hf6.2 g6 rfl
                rintro (h | h)
                · have := hHA.out.lt; omega
                · have := own_lt hHA.out.own _ h.symm; omega
              have R6 := hid (MRow.mk (l := ins l' k6 e) (by rw [ins_length _ _ _ hpl6.le]; exact Reads.of_own hf6.1) (.inr ⟨g6, 0, cp6, by rw [ins_length _ _ _ hpl6.le], by rw [ins_length _ _ _ hpl6.le]; exact own_cap hf6.1, own_lt hf6.1 g6 rfl, hg6⟩) : MRow w6 p v5 (.slice (some ⟨g6, 0, none⟩) (l'.length + 1) cp6) (ins l' k6 e))
              have PL6 := hid hpl6
              clear hq6 hpl6 hf6 hs6 hsA s1 s2 hRA hHA hg6
              generalize wr.heap.size = qq at *
              go_wp2_with fail
              go_quiet (fail)
              go_wp2
              go_roundw
              case rel => exact ⟨k + 1, ins l' k6 e, by omega, by go_num, ((ins_perm l' k6 e).trans (HLP.out.cons e)).trans HTK.out, ins_rising l' k6 e HLR.out PL6.out, R6.out.go ((Chg.refl _).drewN _), HS6.out.drewN _⟩
              case measure => simp [intOf]; omega
            · have htk : ys.take k = ys := List.take_of_length_le (by have := HNY.out; omega)
              obtain ⟨mx', mc', rfl⟩ := HROW.out.slice
              have hlp := HLP.out
              rw [htk] at hlp
              have hlen : es5.length = l'.length := (P5.out.trans hlp.symm).length_eq
              have hmost : l'.length ≤ 16384 := by have h := hlp.length_eq; have := HNY.out; simp at h; omega
              have X9 := hid (Play.mk (H5.out.go HSX.out) HROW.out (P5.out.trans hlp.symm) HLR.out hmost : Play w wr p v5 _ es5 l')
              have HLEN := hid hlen
              clear htk hlp hlen hmost
              go_wp2_with fail
              refine (len_any p v5 es5 _ X9.out.live.hp).mono ?_
              rintro r w10 ⟨rfl, rfl⟩
              rw [HLEN.out]
              go_wp2
              go_roundw
              case rel => exact ⟨j + 1, v5, es5, l', by omega, by go_num, X9.out⟩
              case measure => simp [intOf]; omega
      by_cases k2 : kind = 2
      · subst k2
        cases l with
        | nil =>
          have hes : es = [] := List.eq_nil_of_length_eq_zero (by have := X.out.len; simpa using this)
          subst hes
          have HE1 := hid (HE.out.same X1.out.live.same)
          clear X
          go_wp2_with fail
          refine (peek_none p v _ X1.out.live.hp _ HE1.out.c2).mono ?_
          rintro r w4 ⟨rfl, hs4⟩
          have X4 := hid ((X1.out.go hs4).go ((Chg.refl _).alloc (.cells #[.int .i64 0, .int .i64 0] 31)))
          have HE4 := hid ((HE1.out.same hs4).same ((Chg.refl _).alloc (.cells #[.int .i64 0, .int .i64 0] 31)))
          have HQ4 := hid (alloc_new w4 (.cells #[.int .i64 0, .int .i64 0] 31))
          clear hs4
          go_wp2_with fail
          generalize w4.alloc (.cells #[.int .i64 0, .int .i64 0] 31) = w5 at *
          generalize w4.heap.size = q4 at *
          refine (pop_none p v _ X4.out.live.hp _ _ HE4.out.c2).mono ?_
          rintro r w6 ⟨rfl, hs6⟩
          have X6 := hid ((X4.out.go hs6).go ((Chg.refl _).alloc (.cells #[.int .i64 0, .int .i64 0] 31)))
          have HE6 := hid ((HE4.out.same hs6).same ((Chg.refl _).alloc (.cells #[.int .i64 0, .int .i64 0] 31)))
          have hq4 := hs6.heap HQ4.out (fun f => f)
          have c0 := cell_of hq4 0
          have c1 := cell_of hq4 1
          have hq4l := lt_of hq4
          have HN3 := hid (Err.num ad 3 (by omega))
          clear hs6 hq4
          go_wp2_with fail
          refine (HN3.out _ HE6.out).mono ?_
          rintro r w7 ⟨rfl, hs7⟩
          have X7 := hid (X6.out.go hs7)
          have HE7 := hid (HE6.out.same hs7)
          clear hs7
          go_wp2_with fail
          refine (HN3.out _ HE7.out).mono ?_
          rintro r w8 ⟨rfl, hs8⟩
          have X8 := hid (X7.out.go hs8)
          clear hs8
          go_wp2_with fail
          refine (len_any p v [] _ X8.out.live.hp).mono ?_
          rintro r w9 ⟨rfl, rfl⟩
          go_wp2
          go_roundw
          case rel => exact ⟨j + 1, v, [], [], by omega, by go_num, X8.out⟩
          case measure => simp [intOf]; omega
        | cons x l =>
          rcases X.out.row.shape with ⟨_, h⟩ | ⟨mb, mo, mcp, e1, hcap, hbl, hsp⟩
          · cases h
          cases e1
          have hle : 0 < es.length := by have := X.out.len; simp at this; omega
          have hlm : es.length ≤ 1000000 := by have := X.out.len; have := X.out.most; omega
          have hx : at_ es 0 = x := by
            have h0 : at_ es 0 ∈ es := List.mem_of_getElem? (at_eq hle)
            have h1 := least_mem es X.out.live.heap x (X.out.perm.symm.subset List.mem_cons_self)
            have h2 : le x (at_ es 0) := by
              rcases List.mem_cons.1 (X.out.perm.subset h0) with h | h
              · rw [h]; exact le_refl _
              · exact (List.pairwise_cons.1 X.out.rises).1 _ h
            exact le_antisymm h1 h2
          have HX := hid hx
          have hz := at_eq hle
          rw [hx] at hz
          have HZ := hid hz
          have HLE := hid hle
          have HLM := hid hlm
          obtain ⟨L, hL⟩ : ∃ L, L = l.length := ⟨_, rfl⟩
          have HLL := hid hL
          rw [List.length_cons, ← hL] at hcap
          simp only [List.length_cons, ← hL] at X1 ⊢
          clear hx hz hle hlm X hL
          go_wp2_with fail
          refine (peek_some p v es x _ X1.out.live.hp HZ.out).mono ?_
          rintro r w4 ⟨rfl, hs4⟩
          have hq4n : ¬ HpS p v w4.heap.size := by
            have h := (X1.out.go hs4).live.hp
            rintro (h1 | h1)
            · have := h.lt; omega
            · have := own_lt h.own _ h1.symm; omega
          have HQN := hid hq4n
          clear hq4n
          have X4 := hid ((X1.out.go hs4).go ((Chg.refl _).alloc (.cells #[.int .i64 x.1, .int .i64 x.2] 31)))
          have HQ4 := hid (alloc_new w4 (.cells #[.int .i64 x.1, .int .i64 x.2] 31))
          clear hs4
          go_wp2_with fail
          generalize w4.alloc (.cells #[.int .i64 x.1, .int .i64 x.2] 31) = w5 at *
          generalize w4.heap.size = q4 at *
          refine (pop_some p v es w5 X4.out.live.hp X4.out.live.heap HLE.out HLM.out).mono ?_
          rintro r w6 ⟨rfl, v6, es6, h6, hh6, hp6, hc6, hn6⟩
          rw [HX.out] at hp6 ⊢
          have X6 := hid (Live.go (X4.out.live.step h6 hh6 hc6 hn6) ((Chg.refl _).alloc (.cells #[.int .i64 x.1, .int .i64 x.2] 31)))
          have R6 := hid ((X4.out.row.step hc6 hn6).go ((Chg.refl _).alloc (.cells #[.int .i64 x.1, .int .i64 x.2] 31)))
          have P6 := hid (List.Perm.cons_inv (hp6.trans X4.out.perm))
          have q40 := (hc6.heap HQ4.out HQN.out)
          have Q4 := hid (alloc_old (.cells #[.int .i64 x.1, .int .i64 x.2] 31) q40)
          have Q6 := hid (alloc_new w6 (.cells #[.int .i64 x.1, .int .i64 x.2] 31))
          have HRISE := hid (List.pairwise_cons.1 X1.out.rises).2
          have hmost := X1.out.most
          simp only [List.length_cons] at hmost
          have HMOST := hid hmost
          have hlen6 : es6.length = L := by rw [HLL.out]; exact P6.out.length_eq
          have HLEN6 := hid hlen6
          clear h6 hh6 hp6 hc6 hn6 q40 X1 X4 hmost hlen6 HO HX HZ HLE HLM HQ4 HQN g0 g1 g2
          go_wp2_with fail
          generalize w6.alloc (.cells #[.int .i64 x.1, .int .i64 x.2] 31) = w7 at *
          generalize w6.heap.size = q6 at *
          obtain ⟨b', off', cap', e2, hb2, hcl2⟩ := R6.out.reads.open (by simp)
          cases e2
          have m0 := hcl2 0 (.int .i64 x.1) (by simp [flat, fl])
          have m1 := hcl2 1 (.int .i64 x.2) (by simp [flat, fl])
          rw [Nat.add_zero] at m0
          have c0 := cell_of Q4.out 0
          have c1 := cell_of Q4.out 1
          have d0 := cell_of Q6.out 0
          have d1 := cell_of Q6.out 1
          clear hcl2
          go_quiet (fail)
          have hsx : Same w7 (w7.drewN nq) := (Chg.refl _).drewN _
          have X8 := hid (X6.out.go hsx)
          have R8 := hid (R6.out.go hsx)
          generalize w7.drewN nq = w8 at *
          have hrest := R8.out.reads.rest 1 (mc - 1) (by simp) hcap
          have hsep8 : mb < w8.heap.size ∧ ¬ HpS p v6 mb := by
            rcases R8.out.shape with ⟨h, _⟩ | ⟨b9, o9, c9, h, _, h3, h4⟩
            · cases h
            · cases h; exact ⟨h3, h4⟩
          have HSEP8 := hid hsep8
          have hfl : (flat (x :: l)).drop (1 * 2) = flat l := by simp [flat, fl]
          rw [hfl, Nat.add_sub_cancel] at hrest
          have hmost := HMOST.out
          clear hsx hsep8 hfl m0 m1 c0 c1 d0 d1 X6 R6 R8 Q4 Q6 HMOST
          by_cases hmc : mc = 1
          · have hl0 : l = [] := List.eq_nil_of_length_eq_zero (by omega)
            subst hl0
            have hmc' : 1 = mc := hmc.symm
            subst hmc'
            rw [if_pos rfl] at hrest
            have R9 := hid (MRow.mk hrest (.inr ⟨mb, mo, _, rfl, by simp, HSEP8.out.1, HSEP8.out.2⟩) : MRow w8 p v6 _ [])
            clear hrest hmc
            go_wp2_with fail
            refine (len_any p v6 es6 _ X8.out.hp).mono ?_
            rintro r w9 ⟨rfl, rfl⟩
            rw [HLEN6.out]
            go_wp2
            go_roundw
            case rel => exact ⟨j + 1, v6, es6, [], by omega, by go_num, X8.out, R9.out, P6.out, HRISE.out, by simp⟩
            case measure => simp [intOf]; omega
          · rw [if_neg hmc] at hrest
            have R9 := hid (MRow.mk hrest (.inr ⟨mb, mo + 1 * 2, _, rfl, by omega, HSEP8.out.1, HSEP8.out.2⟩) : MRow w8 p v6 _ l)
            have hm1 : 1 ≤ mc := by omega
            clear hrest
            go_wp2_with fail
            refine (len_any p v6 es6 _ X8.out.hp).mono ?_
            rintro r w9 ⟨rfl, rfl⟩
            rw [HLEN6.out]
            go_wp2
            go_roundw
            case rel => exact ⟨j + 1, v6, es6, l, by omega, by go_num, X8.out, R9.out, P6.out, HRISE.out, by omega⟩
            case measure => simp [intOf]; omega
      by_cases k3 : kind = 3
      · subst k3
        go_wp2_with fail
        refine (clear_any p v es _ X1.out.live.hp).mono ?_
        rintro r w4 ⟨rfl, hh4, hc4⟩
        have X4 := hid (Play.mk (X1.out.live.step hh4 (by intro k hk h; simp at h) hc4 (.inr (by simp [Value.ownBlock]))) ⟨⟨none, 0, rfl, rfl, fun _ => ⟨rfl, rfl⟩, fun a ha => by cases ha⟩, .inl ⟨rfl, rfl⟩⟩ (List.Perm.refl _) List.Pairwise.nil (by simp) : Play w w4 p (.slice none 0 0) (.slice none 0 0) [] [])
        clear hh4 hc4
        go_wp2_with fail
        refine (len_any p _ [] _ X4.out.live.hp).mono ?_
        rintro r w5 ⟨rfl, rfl⟩
        go_wp2
        go_roundw
        case rel => exact ⟨j + 1, _, [], [], by omega, by go_num, X4.out⟩
        case measure => simp [intOf]; omega
      by_cases k4 : kind = 4
      · subst k4
        by_cases hskip : ny = 0 ∨ 0 < l.length
        · rcases hskip with h0 | h0
          · subst h0
            go_wp2_with fail
            refine (len_any p v es _ X1.out.live.hp).mono ?_
            rintro r w4 ⟨rfl, rfl⟩
            rw [X1.out.len]
            go_wp2
            go_roundw
            case rel => exact ⟨j + 1, v, es, l, by omega, by go_num, X1.out⟩
            case measure => simp [intOf]; omega
          · by_cases hny0 : ny = 0
            · subst hny0
              go_wp2_with fail
              refine (len_any p v es _ X1.out.live.hp).mono ?_
              rintro r w4 ⟨rfl, rfl⟩
              rw [X1.out.len]
              go_wp2
              go_roundw
              case rel => exact ⟨j + 1, v, es, l, by omega, by go_num, X1.out⟩
              case measure => simp [intOf]; omega
            · go_wp2_with fail
              refine (len_any p v es _ X1.out.live.hp).mono ?_
              rintro r w4 ⟨rfl, rfl⟩
              rw [X1.out.len]
              go_wp2
              go_roundw
              case rel => exact ⟨j + 1, v, es, l, by omega, by go_num, X1.out⟩
              case measure => simp [intOf]; omega
        · have hny : 0 < ny := by omega
          have hl0 : l = [] := List.eq_nil_of_length_eq_zero (by omega)
          subst hl0
          have hes0 : es = [] := List.eq_nil_of_length_eq_zero (by have := X1.out.len; simpa using this)
          subst hes0
          obtain ⟨m, hml, hme2⟩ := mod_small nn 20000 (by omega) (by omega)
          have hqn : ¬ HpS p v wr.heap.size := by
            rintro (h | h)
            · have := X.out.live.hp.lt; omega
            · have := own_lt X.out.live.hp.own _ h.symm; omega
          have HQN := hid hqn
          have hme3 : wrap64 ((IntKind.u64.wrap nn).tmod 20000) = (m : Int) := hme2
          have LV := hid X1.out.live
          have RW := hid X1.out.row
          clear hskip X hqn hme2 X1
          go_wp2_with fail
          rw [hme3]
          clear hme3 g0 g1 g2
          generalize wr.alloc (.cells #[.int .i64 4, .int .i64 nn, .slice ya ny yc] 73) = w3 at *
          generalize wr.heap.size = q at *
          have hz : (((ny : Nat) : Int) == 0) = false := by simp; omega
          try simp only [hz, List.length_nil]
          have HZ0 := hid hz
          clear hz
          go_loopw [150] (fun iv wx => ∃ (i : Nat) (v : Value) (es : List (Int × Int)), iv = .int .i64 i ∧ Often w wx p q m i v (.slice mx 0 mc) es (.cells #[.int .i64 4, .int .i64 nn, .slice ya ny yc] 73 (0, 0))) (fun iv _ => m - (intOf iv).toNat)
          case atStart => exact ⟨0, v, [], rfl, Nat.zero_le _, LV.out, by simp, RW.out, HO.out, HQN.out⟩
          case round =>
            obtain ⟨i, v, es, rfl, hi2, hlv, hlen, hrow, hop, hnq⟩ := hrel
            have LVi := hid hlv
            have ROWi := hid hrow
            have OPi := hid hop
            have NQi := hid hnq
            have HLEN := hid hlen
            have o2 := cell_of hop 2
            have hqb := lt_of hop
            clear hlv hrow hop hnq hlen
            by_cases him : i < m
            · obtain ⟨b2, off2, cap2, e1, hb2, hcl2⟩ := HY.out.open (by omega)
              cases e1
              have hxk := at_eq (es := ys) (k := 0) (by have := HNY.out; omega)
              have s1 := LVi.out.same.keep (hcl2 0 _ (flat_0 ys 0 _ hxk))
              have s2 := LVi.out.same.keep (hcl2 1 _ (flat_1 ys 0 _ hxk))
              rw [Nat.add_zero] at s1
              clear hcl2 hxk
              generalize at_ ys 0 = e at *
              have hsA : Same wr (wr.alloc (.cells #[.int .i64 e.1, .int .i64 e.2] 31)) := (Chg.refl _).alloc _
              have LVA := hid (LVi.out.go hsA)
              have OPA := hid (alloc_old (.cells #[.int .i64 e.1, .int .i64 e.2] 31) OPi.out)
              have ROWA := hid (ROWi.out.go hsA)
              have hpl := LVi.out.hp.lt
              have HWO := hid (fun k hk => own_lt LVi.out.hp.own k hk)
              have HQB := hid hqb
              clear hsA
              by_cases hlow : i < 16384
              · have hlowi : (i : Int) < 16384 := by omega
                go_wp2_with fail
                refine (live_push LVA.out [e] _ 1 1 rfl (reads_lit #[.int .i64 e.1, .int .i64 e.2] _ 1 2 (by omega) rfl) (by
                  intro b e _ h
                  cases e
                  rcases h with h | h
                  · simp at h; omega
                  · have := HWO.out _ h.symm; simp at this) (by have := HLEN.out; omega)).mono ?_
                rintro r w5 ⟨rfl, v5, es5, h5, hp5, hc5, hn5⟩
                have L5 := hid h5
                have R5 := hid (ROWA.out.step hc5 hn5)
                have O5 := hid (hc5.heap OPA.out NQi.out)
                have hnq5 : ¬ HpS p v5 q := by
                  rintro (h | h)
                  · exact NQi.out (.inl h)
                  · rcases hn5 with e' | e'
                    · exact NQi.out (.inr (h.trans e'))
                    · have h9 := e' q h.symm; have := HQB.out; simp at h9; omega
                have N5 := hid hnq5
                have hl5 : es5.length = min (i + 1) 16384 := by have h1 := hp5.length_eq; have := HLEN.out; simp at h1; omega
                have HL5 := hid hl5
                clear h5 hp5 hc5 hn5 hnq5 hl5 s1 s2 o2
                go_wp2_with fail
                go_roundw
                case rel => exact ⟨i + 1, v5, es5, by go_num, by omega, L5.out, HL5.out, R5.out, O5.out, N5.out⟩
                case measure => simp [intOf]; omega
              · have hlowi : ¬ (i : Int) < 16384 := by omega
                have HEi := hid (HE.out.same LVA.out.same)
                go_wp2_with fail
                refine (push_full p v es _ 1 1 _ LVA.out.hp (by omega) (by have := HLEN.out; omega) _ HEi.out.c1).mono ?_
                rintro r w5 ⟨rfl, rfl⟩
                go_wp2_with fail
                go_roundw
                case rel => exact ⟨i + 1, v, es, by go_num, by omega, LVA.out, by have := HLEN.out; omega, ROWA.out, OPA.out, NQi.out⟩
                case measure => simp [intOf]; omega
            · have hle : es.length = min m 16384 := by have := HLEN.out; omega
              have hmi : (if (16384 : Int) < (m : Int) then (16384 : Int) else (m : Int)) = ((es.length : Nat) : Int) := by split <;> omega
              have HLE := hid hle
              have HMI := hid hmi
              clear hle hmi
              go_wp2_with fail
              refine (len_any p v es _ LVi.out.hp).mono ?_
              rintro r w6 ⟨rfl, rfl⟩
              rw [← HMI.out]
              go_wp2_with (first
                | (go_at_call 33; refine (clear_any p v es _ LVi.out.hp).mono ?_; rintro r w4 ⟨rfl, hh4, hc4⟩; have X4 := hid (Play.mk (LVi.out.step hh4 (by intro k hk h; simp at h) hc4 (.inr (by simp [Value.ownBlock]))) (ROWi.out.step hc4 (.inr (by simp [Value.ownBlock]))) (List.Perm.refl _) List.Pairwise.nil (by simp) : Play w w4 p (.slice none 0 0) (.slice mx 0 mc) [] []); clear hh4 hc4)
                | (go_at_call 17; refine (len_any p _ [] _ X4.out.live.hp).mono ?_; rintro r w5 ⟨rfl, rfl⟩))
              go_roundw
              case rel => first | exact ⟨j + 1, _, [], [], by omega, by go_num, X4.out⟩ | ((repeat apply Exists.intro); refine ⟨⟨j + 1, _, [], [], by omega, by go_num, X4.out⟩, rfl⟩)
              case measure => simp [intOf]; omega
      go_wp2_with fail
      refine (len_any p v es _ X1.out.live.hp).mono ?_
      rintro r w4 ⟨rfl, rfl⟩
      rw [X1.out.len]
      go_wp2
      go_roundw
      case rel => exact ⟨j + 1, v, es, l, by omega, by go_num, X1.out⟩
      case measure => simp [intOf]; omega
    · go_wp2
      go_ret
      exact ⟨rfl, X.out.live.same⟩
end Go.Proofs.YtminjgfobcnmhaaDoor.HeapPlays
