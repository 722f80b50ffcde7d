/-
  HeapRises: the walk.
-/
import Derived.Test.YtminjgfobcnmhaaDoorHeapSort
import Derived.Test.YtminjgfobcnmhaaDoorHeapR
import Derived.Test.YtminjgfobcnmhaaDoorMapE
import Derived.Test.YtminjgfobcnmhaaDoorKeyS
import Derived.Test.YtminjgfobcnmhaaDoorPart
namespace Go.Proofs.YtminjgfobcnmhaaDoor.HeapRises
open Go Go.RowKit Go.Proofs.YtminjgfobcnmhaaDoor.Hp

theorem laidOut' : laidOutB Tryd.prog = true := by kernel_rfl
theorem keyLaw : WideMaps.KeyLaw Tryd.prog 31 := deep_law_laid laidOut' (m := 3) (by omega) (of_decide_eq_true (by kernel_rfl)) (by kernel_rfl) (by rw [Tryd.underlying31])
theorem keyed : Maps.Keyed Tryd.prog 31 := Maps.Keyed.of_law keyLaw
theorem zeroI (w : World) : (zeroValue 3).run Tryd.prog w = .ok (.int .i64 0) w := by kernel_rfl
noncomputable def keyE (e : Int × Int) : Lit := (keyOf Tryd.prog 31 (.agg #[.int .i64 e.1, .int .i64 e.2])).getD .nil
theorem keyE_ok (e : Int × Int) (h : (Lit.int .i64 e.1).wf = true ∧ (Lit.int .i64 e.2).wf = true) : keyOf Tryd.prog 31 (.agg #[.int .i64 e.1, .int .i64 e.2]) = some (keyE e) := by
  obtain ⟨kl, hk⟩ := pair_key (P := Tryd.prog) (K := 31) (I := 3) Tryd.underlying31 ⟨rfl, rfl⟩ ⟨rfl, rfl⟩ ⟨by decide, by decide⟩ Tryd.underlying3 (by kernel_rfl) (by kernel_rfl) (by kernel_rfl) (Tryd.prog.types.size - 1) (by kernel_rfl) e.1 e.2 h.1 h.2
  unfold keyE
  rw [hk]
  rfl

section
variable (kf : Int × Int → Lit)
/-- How many entries have a key. -/
noncomputable def cntK (l : List (Int × Int)) (kl : Lit) : Int := ((l.filter (fun e => @decide (kf e = kl) (Classical.propDecidable _))).length : Nat)
noncomputable def oneK (e : Int × Int) (kl : Lit) : Int := @ite _ (kf e = kl) (Classical.propDecidable _) 1 0
theorem cntK_nil (kl : Lit) : cntK kf [] kl = 0 := rfl
theorem cntK_snoc (l : List (Int × Int)) (e : Int × Int) (kl : Lit) : cntK kf (l ++ [e]) kl = cntK kf l kl + oneK kf e kl := by
  unfold cntK oneK
  rw [List.filter_append, List.length_append]
  by_cases h : kf e = kl
  · simp [h]
  · simp [h]
theorem cntK_perm {a b : List (Int × Int)} (h : a.Perm b) (kl : Lit) : cntK kf a kl = cntK kf b kl := by
  unfold cntK
  rw [(h.filter _).length_eq]
theorem cntK_bd (l : List (Int × Int)) (kl : Lit) : 0 ≤ cntK kf l kl ∧ cntK kf l kl ≤ l.length := by
  unfold cntK
  have := List.length_filter_le (fun e => @decide (kf e = kl) (Classical.propDecidable _)) l
  omega
theorem upd_cnt {f : Lit → Option Int} {g : Lit → Int} (h : ∀ kl, (f kl).getD 0 = g kl) (e : Int × Int) (d : Int) (y : Int) (hy : y = (f (kf e)).getD 0 + d) (kl : Lit) : (updO f (kf e) (some y) kl).getD 0 = g kl + d * oneK kf e kl := by
  by_cases hk : kl = kf e
  · have h1 : oneK kf e kl = 1 := by unfold oneK; exact if_pos hk.symm
    rw [h1, hk, updO_same, hy, h]
    simp
  · have h1 : oneK kf e kl = 0 := by unfold oneK; exact if_neg (fun e => hk e.symm)
    rw [h1, updO_other _ _ hk, h]
    simp
end

section
variable {w0 w : World} {L : List Res} {p : Nat} {es : List (Int × Int)}
theorem heap_pushes (X : Star w0 w (heapR p es :: L)) (ys : List (Int × Int)) (ad : Option Addr) (n c : Nat) (hn : n = ys.length) (hr : Reads w0 (.slice ad n c) n 2 (flat ys)) (hf : n + es.length ≤ 16384) :
    Calls Tryd.prog 15 #[.pointer (some ⟨p, 0, none⟩), .slice ad n c] w fun r w' => r = .returned .nilIface ∧ ∃ es', es'.Perm (es ++ ys) ∧ Star w0 w' (heapR p es' :: L) := by
  obtain ⟨F, ⟨v, h, hh, rfl⟩, h2, h3⟩ := X.at 0 rfl
  refine (push_ok p v es ys ad n c w h hh hn (X.reads hr) (fun b hb hn0 hs => ?_) hf).mono ?_
  · subst hb
    obtain ⟨b', off, cap, e, hlt, -⟩ := hr.open (by omega)
    cases e
    have := h2 _ hs
    simp at this hlt
    omega
  · rintro r w' ⟨rfl, v', es', hP⟩
    exact ⟨rfl, es', hP.perm, h3 w' (heapR p es') (HpS p v') ⟨v', hP.hp, hP.heap, rfl⟩ hP.chg (NewOr.hps hP.new)⟩
theorem heap_popL (X : Star w0 w (heapR p es :: L)) (hn : 0 < es.length) (hm : es.length ≤ 1000000) :
    Calls Tryd.prog 16 #[.pointer (some ⟨p, 0, none⟩)] w fun r w' => ∃ e es', r = .returned (.tuple #[.agg #[.int .i64 e.1, .int .i64 e.2], .nilIface]) ∧ (e :: es').Perm es ∧ (∀ b ∈ es', le e b) ∧ Star w0 w' (heapR p es' :: L) := by
  obtain ⟨F, ⟨v, h, hh, rfl⟩, h2, h3⟩ := X.at 0 rfl
  refine (pop_some p v es w h hh hn hm).mono ?_
  rintro r w' ⟨rfl, v', es', k1, k2, k3, k4, k5⟩
  exact ⟨_, es', rfl, k3, fun b hb => least_mem es hh b (k3.subset (List.mem_cons_of_mem _ hb)), h3 w' (heapR p es') (HpS p v') ⟨v', k1, k2, rfl⟩ k4 (NewOr.hps k5)⟩
theorem heap_popN (X : Star w0 w (heapR p [] :: L)) (T : TypeId) (x : Addr) (he : w0.cell? ⟨1, 0, none⟩ = some (.iface T (.pointer (some x)))) :
    Calls Tryd.prog 16 #[.pointer (some ⟨p, 0, none⟩)] w fun r w' => r = .returned (.tuple #[.agg #[.int .i64 0, .int .i64 0], .iface T (.pointer (some x))]) ∧ Star w0 w' (heapR p [] :: L) := by
  obtain ⟨F, ⟨v, h, hh, rfl⟩, h2, h3⟩ := X.at 0 rfl
  refine (pop_none p v w h T x (X.same.keep he)).mono ?_
  rintro r w' ⟨rfl, hs⟩
  exact ⟨rfl, X.go hs⟩
end

set_option maxRecDepth 100000 in
set_option maxHeartbeats 4000000 in
theorem walk (xs : List (Int × Int)) (hw : ∀ x ∈ xs, (Lit.int .i64 x.1).wf = true ∧ (Lit.int .i64 x.2).wf = true) (v : Value) (w : World) (hr : Reads w v xs.length 2 (flat xs)) (hm : xs.length ≤ 9223372036854775807) (T : TypeId) (ex : Addr) (he : w.cell? ⟨1, 0, none⟩ = some (.iface T (.pointer (some ex)))) :
    Calls Tryd.prog 3 #[v] w fun r w' => r = .returned (.bool true) ∧ Same w w' := by
  obtain ⟨a, c, rfl⟩ := hr.slice
  have HR := hid hr
  have HE := hid he
  have HW := hid hw
  obtain ⟨n, hn⟩ : ∃ n, n = xs.length := ⟨_, rfl⟩
  rw [← hn] at hm HR ⊢
  have HN := hid hn
  clear hn hr he hw
  have hmm := @run_makeMap Tryd.prog
  go_enter Tryd.func3, Tryd.ntmps3
  go_wp2_with fail
  refine (alive _).mono ?_
  rintro r w1 ⟨rfl, hs1⟩
  have X1 := hid ((Star.new w).go hs1)
  clear hs1
  by_cases h1 : 300 < n
  · go_wp2
    go_ret
    exact ⟨rfl, X1.out.same⟩
  go_wp2_with fail
  refine (heap_new X1.out).mono ?_
  rintro r w2 ⟨p, rfl, hX, -⟩
  have X2 := hid hX
  clear hX X1
  go_wp2_with fail
  refine (heap_pushes X2.out xs _ n _ HN.out HR.out (by simp; omega)).mono ?_
  rintro r w3 ⟨rfl, es, hp, hX⟩
  have PE := hid (show es.Perm xs from hp)
  have X3 := hid (hX.mapNew Tryd.prog 31 intE)
  clear hX X2 hp
  go_wp2_with fail
  clear hmm
  generalize w3.heap.size = b at *
  go_loopw [28] (fun iv wr => ∃ (k m : Nat) (f : Lit → Option Int), k ≤ n ∧ m ≤ k ∧ iv = .int .i64 k ∧ (∀ kl, (f kl).getD 0 = cntK keyE (xs.take k) kl) ∧ Star w wr [MapR Tryd.prog 31 intE b m f, heapR p es]) (fun iv _ => n - (intOf iv).toNat)
  case atStart => exact ⟨0, 0, _, by omega, by omega, rfl, fun kl => by simp [cntK_nil], X3.out⟩
  case round =>
    obtain ⟨k, m, f, hk, hmk, rfl, hf, hX⟩ := hrel
    have X := hid hX
    have FC := hid hf
    clear hX hf X3
    by_cases hlt : k < n
    · obtain ⟨b1, off, cap, e1, hb, hcl⟩ := HR.out.open (by omega)
      cases e1
      have hxk := at_eq (es := xs) (k := k) (by have := HN.out; omega)
      have g1 := X.out.keepCell (hcl (k * 2) _ (flat_0 _ _ _ hxk))
      have g2 := X.out.keepCell (hcl (k * 2 + 1) _ (flat_1 _ _ _ hxk))
      rw [← Nat.add_assoc] at g2
      have HTK := hid (show xs.take (k + 1) = xs.take k ++ [at_ xs k] by
        have hk' : k < xs.length := by have := HN.out; omega
        rw [List.take_succ_eq_append_getElem hk']
        simp [at_, List.getD, hk'])
      have HKE := hid (keyE_ok (at_ xs k) (HW.out _ (List.mem_of_getElem? hxk)))
      clear hcl hxk
      generalize at_ xs k = e at *
      obtain ⟨ea, eb⟩ := e
      go_wp2_with fail
      have X4 := hid (X.out.alloc #[.int .i64 ea, .int .i64 eb] 31)
      have X5 := hid (X4.out.go ((Chg.refl _).drew))
      have hM := X5.out.map 1 rfl
      have hq := (X5.out.blk 0 rfl).1
      have c0 := cell_of hq 0
      have c1 := cell_of hq 1
      obtain ⟨st, w5, hE, hL2, hC2, -, hS⟩ := hM.1.entry keyLaw Tryd.underlying29 zeroI (by omega) HKE.out
      have hL1 := hM.1.look false keyed Tryd.underlying29 (zeroI _) HKE.out
      have hbq : b ≠ wr.heap.size := by have := X.out.map 0 rfl; exact Nat.ne_of_lt this.1.lt
      have d0 := (hC2.cell (p := ⟨wr.heap.size, 0, none⟩) (lt_of hq) (fun e => hbq e.symm)).trans c0
      have d1 := (hC2.cell (p := ⟨wr.heap.size, 1, none⟩) (lt_of hq) (fun e => hbq e.symm)).trans c1
      have dl : wr.heap.size < w5.heap.size := Nat.lt_of_lt_of_le (lt_of hq) hC2.size
      obtain ⟨y, hy⟩ : ∃ y, y = (f (keyE (ea, eb))).getD 0 := ⟨_, rfl⟩
      have hyb : 0 ≤ y ∧ y ≤ 300 := by
        rw [hy, FC.out]
        have := cntK_bd keyE (xs.take k) (keyE (ea, eb))
        have hl := List.length_take_le k xs
        omega
      have hv : valO intE (f (keyE (ea, eb))) (.int .i64 0) = .int .i64 y := by
        rw [hy]
        cases f (keyE (ea, eb)) <;> rfl
      rw [if_neg (by decide), hv] at hL1
      rw [← hy] at hE hL2
      obtain ⟨w6, hS6, hM6, hC6⟩ := hS (y + 1)
      have HFY := hid (upd_cnt keyE FC.out (ea, eb) 1 (y + 1) (by rw [hy]))
      have X6 := hid ((X5.out.mapSet 1 rfl hM6 hC6).drop)
      have hwy : IntKind.i64.wrap (y + 1) = y + 1 := IntWalk.i64_in _ (by omega)
      have e1 : (intE.val y) = .int .i64 y := rfl
      have e2 : (intE.val (y + 1)) = .int .i64 (y + 1) := rfl
      rw [e1] at hE hL2
      rw [e2] at hS6
      simp only [List.getElem?_toArray, List.getElem?_cons_zero, List.getElem?_cons_succ] at c0 c1 d0 d1
      clear hM hS hC2 hq hM6 hC6 hy hv e1 e2 X5 X4 X
      go_region
      clear c0 c1 d0 d1 dl g1 g2 hE hL1 hL2 hS6 hwy
      go_wp2
      go_roundw
      case rel => exact ⟨k + 1, _, _, by omega, by split <;> omega, by go_num, fun kl => by rw [HFY.out, HTK.out, cntK_snoc]; omega, X6.out⟩
      case measure => simp [intOf]; omega
    · have hkn : k = n := by omega
      subst hkn
      have FX := hid (show ∀ kl, (f kl).getD 0 = cntK keyE xs kl - cntK keyE [] kl from fun kl => by rw [FC.out, List.take_of_length_le (by have := HN.out; omega), cntK_nil]; omega)
      have X7 := hid (X.out.alloc #[.int .i64 0, .int .i64 0] 31)
      clear FC X
      go_wp2_with fail
      generalize wr.alloc _ = w7 at *
      generalize wr.heap.size = q at *
      go_loopw [42] (fun iv wx => ∃ (j m : Nat) (f : Lit → Option Int) (l : Int × Int) (es ps : List (Int × Int)), j ≤ k ∧ iv = .int .i64 j ∧ ps.length = j ∧ (ps ++ es).Perm xs ∧ (0 < j → ∀ b ∈ es, le l b) ∧ (∀ kl, (f kl).getD 0 = cntK keyE xs kl - cntK keyE ps kl) ∧ m ≤ k + j ∧ Star w wx [Blk q #[.int .i64 l.1, .int .i64 l.2] 31, MapR Tryd.prog 31 intE b m f, heapR p es]) (fun iv _ => k - (intOf iv).toNat)
      case atStart => exact ⟨0, _, _, (0, 0), es, [], by omega, rfl, rfl, PE.out, fun h => by omega, FX.out, by omega, X7.out⟩
      case round =>
        obtain ⟨j, m, f, l, es, ps, hj, rfl, hps, hpe, hle, hfc, hmj, hX⟩ := hrel
        have X := hid hX
        have PS := hid hps
        have PE := hid hpe
        have LE := hid hle
        have FC := hid hfc
        clear hX hps hpe hle hfc X7 FX
        have hlen : j + es.length = k := by have := PE.out.length_eq; rw [List.length_append, PS.out, ← HN.out] at this; exact this
        by_cases hjk : j < k
        · go_wp2_with fail
          refine (heap_popL (X.out.pull 2 rfl) (by omega) (by omega)).mono ?_
          rintro r w8 ⟨e, es', rfl, hpm, hmin, hX⟩
          have X8 := hid hX
          have PM := hid hpm
          have MIN := hid hmin
          have HLE := hid (show 0 < j → le l e from fun h => LE.out h e (hpm.subset List.mem_cons_self))
          have hxe : e ∈ xs := PE.out.subset (List.mem_append_right _ (hpm.subset List.mem_cons_self))
          have HKE := hid (keyE_ok e (HW.out _ hxe))
          have hq8 := (X8.out.blk 1 rfl).1
          have l0 := cell_of hq8 0
          have l1 := cell_of hq8 1
          have lf0 := free_of hq8 0
          have lf1 := free_of hq8 1
          have ll := lt_of hq8
          simp only [List.getElem?_toArray, List.getElem?_cons_zero, List.getElem?_cons_succ] at l0 l1
          clear hX hpm hmin hxe hq8
          have hcase : j = 0 ∨ (0 < j ∧ (l.1 < e.1 ∨ (l.1 = e.1 ∧ l.2 ≤ e.2))) := by
            rcases Nat.eq_zero_or_pos j with h | h
            · exact .inl h
            · exact .inr ⟨h, (le_iff _ _).1 (HLE.out h)⟩
          clear HLE
          obtain ⟨ea, eb⟩ := e
          obtain ⟨la, lb⟩ := l
          simp only at l0 l1 hcase
          have hq9 := hid (X8.out.alloc #[.int .i64 ea, .int .i64 eb] 31)
          have X9 := hid (hq9.out.go ((Chg.refl _).drew))
          have hM := X9.out.map 3 rfl
          have hq := (X9.out.blk 0 rfl).1
          have c0 := cell_of hq 0
          have c1 := cell_of hq 1
          have hqq : q ≠ w8.heap.size := Nat.ne_of_lt ll
          have hbq : b ≠ w8.heap.size := Nat.ne_of_lt (X8.out.map 2 rfl).1.lt
          have hqb := (X9.out.blk 2 rfl).1
          obtain ⟨st, w5, hE, hL2, hC2, hz2, hS⟩ := hM.1.entry keyLaw Tryd.underlying29 zeroI (by omega) HKE.out
          have hL1 := hM.1.look false keyed Tryd.underlying29 (zeroI _) HKE.out
          have d0 := (hC2.cell (p := ⟨w8.heap.size, 0, none⟩) (lt_of hq) (fun e => hbq e.symm)).trans c0
          have d1 := (hC2.cell (p := ⟨w8.heap.size, 1, none⟩) (lt_of hq) (fun e => hbq e.symm)).trans c1
          have dl : w8.heap.size < w5.heap.size := Nat.lt_of_lt_of_le (lt_of hq) hC2.size
          obtain ⟨y, hy⟩ : ∃ y, y = (f (keyE (ea, eb))).getD 0 := ⟨_, rfl⟩
          have hyb : -300 ≤ y ∧ y ≤ 300 := by
            rw [hy, FC.out]
            have := cntK_bd keyE xs (keyE (ea, eb))
            have := cntK_bd keyE ps (keyE (ea, eb))
            have := HN.out
            have := PS.out
            omega
          have hv : valO intE (f (keyE (ea, eb))) (.int .i64 0) = .int .i64 y := by
            rw [hy]
            cases f (keyE (ea, eb)) <;> rfl
          rw [if_neg (by decide), hv] at hL1
          rw [← hy] at hE hL2
          obtain ⟨w6, hS6, hM6, hC6⟩ := hS (y - 1)
          have HFY := hid (upd_cnt keyE FC.out (ea, eb) (-1) (y - 1) (by rw [hy]; omega))
          have X6 := hid (X9.out.mapSet 3 rfl hM6 hC6)
          have hk6 := (X6.out.blk 0 rfl).1
          have hk7 := (X6.out.blk 2 rfl).1
          have k0 := cell_of hk6 0
          have k1 := cell_of hk6 1
          have kl := lt_of hk6
          have m0 := free_of hk7 0
          have m1 := free_of hk7 1
          have n0 := cell_of hk7 0
          have n1 := cell_of hk7 1
          have ml := lt_of hk7
          have hwy : IntKind.i64.wrap (y - 1) = y - 1 := IntWalk.i64_in _ (by omega)
          have e1 : (intE.val y) = .int .i64 y := rfl
          have e2 : (intE.val (y - 1)) = .int .i64 (y - 1) := rfl
          rw [e1] at hE hL2
          rw [e2] at hS6
          simp only [List.getElem?_toArray, List.getElem?_cons_zero, List.getElem?_cons_succ] at c0 c1 d0 d1 k0 k1 n0 n1
          have hqq' : ¬ w8.heap.size = q := fun e => hqq e.symm
          clear hM hS hC2 hq hM6 hC6 hy hv e1 e2 X9 X8 X hk6 hk7 hqb hbq hz2 hq9
          have X7 : Hid (Star w ((w6.setCell ⟨q, 0, none⟩ (.int .i64 ea)).setCell ⟨q, 1, none⟩ (.int .i64 eb)) [Blk q #[.int .i64 ea, .int .i64 eb] 31, MapR Tryd.prog 31 intE b (if (f (keyE (ea, eb))).isSome then m else m + 1) (updO f (keyE (ea, eb)) (some (y - 1))), heapR p es']) := hid (((((X6.out.drop).put 1 rfl 0 (.int .i64 ea)).put 1 rfl 1 (.int .i64 eb)).pull 2 rfl).pull 2 rfl)
          clear X6
          have REL : Hid (∃ (j' m : Nat) (f : Lit → Option Int) (l : Int × Int) (es ps : List (Int × Int)), j' ≤ k ∧ Value.int .i64 ((j : Int) + 1) = .int .i64 j' ∧ ps.length = j' ∧ (ps ++ es).Perm xs ∧ (0 < j' → ∀ b ∈ es, le l b) ∧ (∀ kl, (f kl).getD 0 = cntK keyE xs kl - cntK keyE ps kl) ∧ m ≤ k + j' ∧ Star w ((w6.setCell ⟨q, 0, none⟩ (.int .i64 ea)).setCell ⟨q, 1, none⟩ (.int .i64 eb)) [Blk q #[.int .i64 l.1, .int .i64 l.2] 31, MapR Tryd.prog 31 intE b m f, heapR p es]) := by
            refine hid ⟨j + 1, _, _, (ea, eb), es', ps ++ [(ea, eb)], by omega, by go_num, by rw [List.length_append, PS.out]; rfl, ?_, fun _ => MIN.out, fun kl => ?_, ?_, X7.out⟩
            · rw [List.append_assoc]
              exact (PM.out.append_left ps).trans PE.out
            · rw [HFY.out, cntK_snoc]; omega
            · split <;> omega
          rcases hcase with hj0 | ⟨hj0, h | ⟨rfl, h⟩⟩
          · subst hj0
            go_wp2_with fail
            go_region
            go_wp2
            go_roundw
            case rel => exact REL.out
            case measure => simp [intOf]; omega
          · have a1 : ¬ ea < la := by omega
            have a2 : (ea == la) = false := by simp; omega
            go_wp2_with fail
            go_region
            go_wp2
            go_roundw
            case rel => exact REL.out
            case measure => simp [intOf]; omega
          · have a1 : ¬ eb < lb := by omega
            go_wp2_with fail
            go_region
            go_wp2
            go_roundw
            case rel => exact REL.out
            case measure => simp [intOf]; omega
        · have hjk' : j = k := by omega
          subst hjk'
          have he0 : es = [] := List.eq_nil_of_length_eq_zero (by omega)
          subst he0
          have FZ := hid (show ∀ kl, (f kl).getD 0 = 0 from fun kl => by
            rw [FC.out, cntK_perm keyE (show ps.Perm xs by simpa using PE.out) kl]; omega)
          have hM := X.out.map 1 rfl
          clear FC PE LE PS
          go_wp2_with (at_range; refine wpList_rangeO rfl _ rfl keyed Tryd.underlying29 rfl hM.1 ?_)
          intro w8 left cnt hR _ hs
          have X8 := hid (X.out.rangeNew 1 rfl hR (Nat.le_refl _) hs)
          clear hR hs hM X
          generalize wr.heap.size = rr at *
          go_wp2_with fail
          go_loopw [12] (fun _ wy => ∃ left cnt, Star w wy [Blk q #[.int .i64 l.1, .int .i64 l.2] 31, RangeR Tryd.prog 31 intE b rr m f left cnt, heapR p []]) (fun _ wy => wy.rangeLeft b rr)
          case atStart => exact ⟨left, cnt, X8.out⟩
          case round =>
            obtain ⟨left, cnt, hX⟩ := hrel
            have X := hid hX
            have hR := hX.range 1 rfl
            clear hX X8
            go_wp2_with (at_next; refine wpList_nextO rfl _ rfl keyed rfl hR ?_ ?_)
            · intro _
              clear hR
              have HPN := hid (heap_popN (X.out.pull 2 rfl) T ex HE.out)
              go_wp2_with fail
              refine HPN.out.mono ?_
              rintro r w9 ⟨rfl, hX⟩
              have X9 := hid hX
              clear hX HPN X
              have HL := hid (heap_len (X9.out.go ((Chg.refl _).alloc (.cells #[.int .i64 0, .int .i64 0] 31))))
              go_wp2_with fail
              refine HL.out.mono ?_
              rintro r w10 ⟨rfl, rfl⟩
              go_wp2
              go_ret
              exact ⟨rfl, X9.out.same.alloc _⟩
            · intro x kl y w9 cnt' hk _ hy hR' hlt hc hen
              have X9 := hid (X.out.rangeSet 1 rfl hR' hc)
              have hy0 : y = 0 := by have := FZ.out kl; rw [hy] at this; exact this
              subst hy0
              have hen' : (Instr.entry (.pointer (some ⟨rr, 0, none⟩))).run Tryd.prog w9 = .ok (.tuple #[x, .int .i64 0]) w9 := hen
              have LT := hid hlt
              have RC := hid hR.cnt
              have RC' := hid hR'.cnt
              clear hR hR' hlt hc hk hy hen X
              rw [show intE.val 0 = Value.int .i64 0 from rfl]
              go_wp2
              go_roundw
              case rel => exact ⟨_, cnt', X9.out⟩
              case measure => rw [RC.out, RC'.out]; exact LT.out
end Go.Proofs.YtminjgfobcnmhaaDoor.HeapRises
