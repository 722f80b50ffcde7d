/-
  TableSets: the walk.
-/
import Derived.Test.YtegcnkcjmebheaaDoorAlive07
import Derived.Test.YtegcnkcjmebheaaDoorTabGet
import Derived.Test.YtegcnkcjmebheaaDoorRefP
import Derived.Test.YtegcnkcjmebheaaDoorRef06f
namespace Go.Proofs.YtegcnkcjmebheaaDoor.TableSets
open Go Go.RowKit Go.Maps Go.Proofs.YtegcnkcjmebheaaDoor.Mask Go.Proofs.YtegcnkcjmebheaaDoor.Tab
theorem mask_lt {vs : List Vl} (h : RefRight vs) : rowMask vs < 1024 := by
  refine Nat.lt_pow_two_of_testBit (n := 10) _ (fun i hi => ?_)
  unfold rowMask Mask.maskOf
  rw [fold_bit]
  simp only [Nat.zero_testBit, Bool.false_or, List.any_eq_false, List.mem_map]
  rintro _ ⟨x, hx, rfl⟩
  obtain ⟨k, hk, e⟩ := h.kind hx
  simp
  omega
theorem kinds_ok {vs : List Vl} (h : RefRight vs) : ∀ x ∈ vs, okKind x.k = true := by
  intro x hx
  obtain ⟨k, hk, e⟩ := h.kind hx
  simp only [okKind, Bool.and_eq_true, decide_eq_true_eq]
  omega
theorem okOf {v : Vl} (h : chkN v = 0) : okKind v.k = true := by
  cases e : okKind v.k with
  | true => rfl
  | false => rw [chk_kind e] at h; cases h
/-- The columns behind so many additions of one row. -/
abbrev colN (vs : List Vl) (i : Nat) : Nat → List Vl := fun k => (List.replicate i (rowOf vs k)).flatten
abbrev hN (i : Nat) : List Hd := (List.range i).map fun j : Nat => (((j : Int), (1 : Int)) : Hd)
theorem colN_succ (vs : List Vl) (i : Nat) : (fun k => colN vs i k ++ rowOf vs k) = colN vs (i + 1) := by
  funext k
  simp [colN, List.replicate_succ']
theorem hN_succ (i : Nat) : hN i ++ [((i : Int), (1 : Int))] = hN (i + 1) := by simp [hN, List.range_succ]
theorem hN_get (n i : Nat) (h : i < n) : (hN n)[i]? = some ((i : Int), (1 : Int)) := by simp [hN, h]
theorem flat_one {α : Type} (n : Nat) (a : α) : (List.replicate n [a]).flatten = List.replicate n a := by
  induction n with
  | zero => rfl
  | succ n ih => rw [List.replicate_succ, List.replicate_succ, List.flatten_cons, ih]; rfl
theorem colN_in {vs : List Vl} (h : RefRight vs) {k : Nat} (hk : k ∈ bitsOf (rowMask vs)) (n : Nat) : colN vs n k = List.replicate n (Tab.valOf vs k) := by
  show (List.replicate n (rowOf vs k)).flatten = _
  rw [h.row hk, flat_one]
theorem colN_le {vs : List Vl} (h : RefRight vs) (n k : Nat) : (colN vs n k).length ≤ n := by
  by_cases hk : k ∈ bitsOf (rowMask vs)
  · rw [colN_in h hk]; simp
  · show ((List.replicate n (rowOf vs k)).flatten).length ≤ n
    rw [h.not hk]
    simp
theorem find_in {vs : List Vl} (h : RefRight vs) {x : Vl} {kx : Nat} (hx : x.k = (kx : Int)) : (findK vs x.k).isSome = true ↔ kx ∈ bitsOf (rowMask vs) := by
  unfold findK
  rw [List.find?_isSome]
  constructor
  · rintro ⟨y, hy, e⟩
    have hm : y.k ∈ vs.map (·.k) := List.mem_map.2 ⟨y, hy, rfl⟩
    rw [← h.kinds, List.mem_map] at hm
    obtain ⟨k2, hk2, e2⟩ := hm
    have e3 : y.k = x.k := by simpa using e
    obtain rfl : k2 = kx := by omega
    exact hk2
  · intro hk
    have hm : (kx : Int) ∈ vs.map (·.k) := by
      rw [← h.kinds]
      exact List.mem_map.2 ⟨kx, hk, rfl⟩
    obtain ⟨y, hy, e⟩ := List.mem_map.1 hm
    exact ⟨y, hy, by simp [e, hx]⟩
section
variable {w : World}
set_option maxRecDepth 100000 in
set_option maxHeartbeats 4000000 in
theorem maskOf_any (v : Value) (vs : List Vl) (hok : ∀ x ∈ vs, okKind x.k = true) (hr : Reads w v vs.length 3 (vs.flatMap vc)) (hn : vs.length ≤ 100000) :
    Calls Tryd.prog 16 #[v] w fun r w' => r = .returned (mk (rowMask vs)) ∧ Same w w' := by
  have HO := hid hok
  have HR := hid hr
  have HN := hid hn
  clear hok hr hn
  go_enter Tryd.func16, Tryd.ntmps16
  go_wp2_with fail
  refine (ref_mask v vs HO.out HR.out HN.out).mono ?_
  rintro r w1 ⟨rfl, hs⟩
  have S := hid hs
  clear hs
  go_wp2
  go_ret
  exact ⟨rfl, S.out⟩
end
/-- The values of a row of the table. -/
def valAt (vs : List Vl) (x : Vl) (has : Bool) (which i : Nat) : Nat → Vl := if has = true ∧ i = which then putVal vs x else Tab.valOf vs
/-- The columns behind the setting. -/
def colS2 (vs : List Vl) (x : Vl) (has : Bool) (kx which n : Nat) : Nat → List Vl := if has = true then updX (colN vs n) kx ((colN vs n kx).set which x) else colN vs n
theorem colS2_le {vs : List Vl} (h : RefRight vs) (x : Vl) (has : Bool) (kx which n k : Nat) : (colS2 vs x has kx which n k).length ≤ n := by
  unfold colS2
  split
  · by_cases e : k = kx
    · subst e
      rw [updX_same, List.length_set]
      exact colN_le h n k
    · rw [updX_other _ _ e]
      exact colN_le h n k
  · exact colN_le h n k
theorem colS2_get {vs : List Vl} (h : RefRight vs) (x : Vl) (has : Bool) {kx : Nat} (hx : x.k = (kx : Int)) (hkx : has = true → kx ∈ bitsOf (rowMask vs)) (which n i : Nat) (hi : i < n) {k : Nat} (hk : k ∈ bitsOf (rowMask vs)) :
    (colS2 vs x has kx which n k)[i]? = some (valAt vs x has which i k) := by
  unfold colS2 valAt
  cases has with
  | false =>
    rw [if_neg (by simp), if_neg (by simp), colN_in h hk]
    simp [hi]
  | true =>
    rw [if_pos rfl]
    by_cases e : k = kx
    · subst e
      rw [updX_same, colN_in h hk, List.getElem?_set]
      by_cases ew : which = i
      · subst ew
        rw [if_pos rfl, if_pos (by simpa using hi), if_pos ⟨rfl, rfl⟩]
        unfold putVal
        rw [if_pos hx]
      · rw [if_neg ew, if_neg (fun hh => ew hh.2.symm)]
        simp [hi]
    · rw [updX_other _ _ e, colN_in h hk]
      have : Tab.valOf vs k = putVal vs x k := by
        unfold putVal
        rw [if_neg (by omega)]
      by_cases ew : i = which
      · rw [if_pos ⟨rfl, ew⟩, ← this]
        simp [hi]
      · rw [if_neg (fun hh => ew hh.2)]
        simp [hi]

def setsV (rv : Value) (many which : Int) (x : Vl) : Value := .agg #[rv, .int .i64 many, .int .i64 which, .int .i64 x.k, .int .i64 x.a, .int .i64 x.b]
set_option maxRecDepth 100000 in
set_option maxHeartbeats 16000000 in
theorem walk (rv : Value) (vs : List Vl) (many which : Int) (x : Vl) (w : World) (hr : Reads w rv vs.length 3 (vs.flatMap vc)) (hb : vs.length ≤ 9223372036854775807) (ad : Nat → Addr) (hE : Err.ErrsT w ad) (hT : Mask.Tab w) :
    Calls Tryd.prog 4 #[setsV rv many which x] w fun r w' => r = .returned (.bool true) ∧ Same w w' := by
  obtain ⟨a, cb, rfl⟩ := hr.slice
  obtain ⟨xk, xa, xb⟩ := x
  have HE := hid hE
  have HT := hid hT
  have HR := hid hr
  obtain ⟨n, hn⟩ : ∃ n, n = vs.length := ⟨_, rfl⟩
  have HN := hid hn
  rw [← hn] at hb HR ⊢
  have RR : Hid (∀ {W : World}, Same w W → Reads W (.slice a n cb) vs.length 3 (vs.flatMap vc)) := hid (fun hs => by rw [← HN.out]; exact HR.out.same hs)
  unfold setsV
  dsimp only
  have Z := hid ((Star.new w).alloc #[.slice a n cb, .int .i64 many, .int .i64 which, .int .i64 xk, .int .i64 xa, .int .i64 xb] 52)
  clear hE hT hr hn
  go_enter Tryd.func4, Tryd.ntmps4
  go_wp2_with fail
  generalize w.alloc _ = w1 at *
  generalize w.heap.size = q at *
  have hbk := (Z.out.blk 0 rfl).1
  have hql := lt_of hbk
  have c0 := cell_of hbk 0
  have c1 := cell_of hbk 1
  have c2 := cell_of hbk 2
  have c3 := cell_of hbk 3
  have c4 := cell_of hbk 4
  have c5 := cell_of hbk 5
  simp only [List.getElem?_toArray, List.getElem?_cons_zero, List.getElem?_cons_succ] at c0 c1 c2 c3 c4 c5
  clear hbk
  go_region_held3 (fun w' => w'.cell? ⟨q, 0, none⟩ = some (.slice a n cb) ∧ w'.cell? ⟨q, 1, none⟩ = some (.int .i64 many) ∧ w'.cell? ⟨q, 2, none⟩ = some (.int .i64 which) ∧ w'.cell? ⟨q, 3, none⟩ = some (.int .i64 xk) ∧ w'.cell? ⟨q, 4, none⟩ = some (.int .i64 xa) ∧ w'.cell? ⟨q, 5, none⟩ = some (.int .i64 xb)) (go_keep) (fail)
  have Z2 : Hid (Star w ((w1.alloc (.cells #[.int .i64 xk, .int .i64 xa, .int .i64 xb] 37)).drew) [Blk w1.heap.size #[.int .i64 xk, .int .i64 xa, .int .i64 xb] 37]) := hid ((((Z.out.alloc #[.int .i64 xk, .int .i64 xa, .int .i64 xb] 37).go ((Chg.refl _).drew)).swap).drop)
  rename_i hHeld
  clear hHeld c0 c1 c2 c3 c4 c5 hql Z
  generalize (w1.alloc _).drew = w2 at *
  generalize w1.heap.size = e at *
  go_wp2_with fail
  refine (alive_any ad (HE.out.same Z2.out.same) (HT.out.same Z2.out.same)).mono ?_
  rintro r w3 ⟨rfl, hs3⟩
  have Z3 := hid (Z2.out.go hs3)
  clear hs3 Z2
  by_cases h1 : n < 1
  · go_wp2_with fail
    go_ret
    exact ⟨rfl, Z3.out.same⟩
  · by_cases h10 : 10 < n
    · go_wp2_with fail
      go_ret
      exact ⟨rfl, Z3.out.same⟩
    · have hb3 := (Z3.out.blk 0 rfl).1
      have q0 := cell_of hb3 0
      have q1 := cell_of hb3 1
      have q2 := cell_of hb3 2
      have ql := lt_of hb3
      simp only [List.getElem?_toArray, List.getElem?_cons_zero, List.getElem?_cons_succ] at q0 q1 q2
      clear hb3
      go_wp2_with fail
      refine (ref_right _ vs (RR.out Z3.out.same) (by have := HN.out; omega)).mono ?_
      rintro r w4 ⟨B, rfl, hB, hs4⟩
      have Z4 := hid (Z3.out.go hs4)
      have k0 := hs4.keep q0
      have k1 := hs4.keep q1
      have k2 := hs4.keep q2
      have kl : e < w4.heap.size := Nat.lt_of_lt_of_le ql hs4.size
      clear hs4 Z3 q0 q1 q2 ql
      cases B with
      | false =>
        clear hB
        go_wp2_with fail
        go_ret
        exact ⟨rfl, Z4.out.same⟩
      | true =>
        have hRi := hB.1 rfl
        have RI := hid hRi
        clear hB hRi
        go_wp2_with fail
        refine (ref_check ⟨xk, xa, xb⟩ _).mono ?_
        rintro r w5 ⟨rfl, hs5⟩
        have Z5 := hid (Z4.out.go hs5)
        clear hs5 Z4 k0 k1 k2 kl
        obtain ⟨cn, hcn⟩ : ∃ cn, cn = chkN ⟨xk, xa, xb⟩ := ⟨_, rfl⟩
        rw [← hcn]
        have HCN := hid hcn
        clear hcn
        by_cases h0 : cn = 0
        · subst h0
          obtain ⟨mm, hm, hmod0⟩ := mod_small many 20 (by omega) (by omega)
          have hmod : wrap64 ((IntKind.u64.wrap many).tmod 20) = (mm : Int) := hmod0
          have hwu : IntKind.u64.wrap (1 + (mm : Int)) = 1 + (mm : Int) := by simp only [IntKind.wrap, IntKind.bits, IntKind.signed]; simp; omega
          obtain ⟨wh, hwh, hmd0⟩ := mod_small which (1 + mm) (by omega) (by omega)
          have hmd : wrap64 ((IntKind.u64.wrap which).tmod (1 + (mm : Int))) = (wh : Int) := by simpa using hmd0
          clear hmod0 hmd0
          go_wp2_with fail
          rw [hmd, show (1 : Int) + (mm : Int) = ((1 + mm : Nat) : Int) by omega]
          obtain ⟨mn, hmn⟩ : ∃ mn, mn = 1 + mm := ⟨_, rfl⟩
          rw [← hmn] at hwh ⊢
          have hmn20 : mn ≤ 20 := by omega
          clear hmd hwu hmod hmn hm
          refine (maskOf_any _ vs (kinds_ok RI.out) (RR.out Z5.out.same) (by have := HN.out; omega)).mono ?_
          rintro r w6 ⟨rfl, hs6⟩
          have Z6 := hid (Z5.out.go hs6)
          clear hs6 Z5
          go_wp2_with fail
          refine (new_any Z6.out (rowMask vs) (mask_lt RI.out) HT.out).mono ?_
          rintro r w7 ⟨t, kv, hok, rfl, hX⟩
          have HOK := hid hok
          have HC := hid (RI.out.cols hok)
          have X7 : Hid (Star w w7 (factR True :: tabL t (rowMask vs) kv (hN 0) (colN vs 0) [natRow kv (bitsOf (rowMask vs)), Blk e #[.int .i64 xk, .int .i64 xa, .int .i64 xb] 37])) := hid (Star.close_fact trivial hX)
          clear hX hok Z6
          go_wp2_with fail
          go_loopw [70] (fun iv wr => ∃ i : Nat, i ≤ mn ∧ iv = .int .i64 i ∧ Star w wr (factR True :: tabL t (rowMask vs) kv (hN i) (colN vs i) [natRow kv (bitsOf (rowMask vs)), Blk e #[.int .i64 xk, .int .i64 xa, .int .i64 xb] 37])) (fun iv _ => mn - (intOf iv).toNat)
          case atStart => exact ⟨0, by omega, rfl, X7.out⟩
          case round =>
            obtain ⟨i, hi, rfl, hX⟩ := hrel
            rename World => wz
            have X8 := hid hX
            clear hX X7
            by_cases him : i < mn
            · have HL := hid (show (hN i).length = i by simp)
              go_wp2_with fail
              refine (add_ok X8.out ((i : Int), 1) (.slice a n cb) vs (fun h => RR.out h.same) (by have := HN.out; omega) ad HE.out RI.out.takes (by rw [HL.out]; omega) HC.out (fun k => by have := colN_le RI.out i k; omega) RI.out.once).mono ?_
              rintro r w9 ⟨rfl, hX⟩
              rw [HL.out]
              have X9 : Hid (Star w w9 (factR True :: tabL t (rowMask vs) kv (hN (i + 1)) (colN vs (i + 1)) [natRow kv (bitsOf (rowMask vs)), Blk e #[.int .i64 xk, .int .i64 xa, .int .i64 xb] 37])) := hid (by
                rw [← hN_succ, ← colN_succ]
                exact hX)
              clear hX X8
              go_wp2_with fail
              go_roundw
              case rel => exact ⟨i + 1, by omega, by go_num, X9.out⟩
              case measure => simp [intOf]; omega
            · obtain rfl : i = mn := by omega
              have hXC := X8.out
              have hb3 := (hXC.blk 15 rfl).1
              have q0 := cell_of hb3 0
              have q1 := cell_of hb3 1
              have q2 := cell_of hb3 2
              have ql := lt_of hb3
              simp only [List.getElem?_toArray, List.getElem?_cons_zero, List.getElem?_cons_succ] at q0 q1 q2
              have X9 := hid hXC.drop
              obtain ⟨kx, hkx0⟩ : ∃ kx : Nat, xk = (kx : Int) ∧ kx < 10 := by
                have hk := okOf (HCN.out.symm)
                simp only [okKind, Bool.and_eq_true, decide_eq_true_eq] at hk
                exact ⟨xk.toNat, by omega, by omega⟩
              obtain ⟨rfl, hkx⟩ := hkx0
              have HHL := hid (show (hN i).length = i by simp)
              have HFI := hid (find_in RI.out (x := ⟨kx, xa, xb⟩) rfl)
              obtain ⟨F, hF⟩ : ∃ F, F = findK vs (kx : Int) := ⟨_, rfl⟩
              have HF := hid hF
              have HB10 := hid (bits10 (mask_lt RI.out))
              have HBL := hid (show (bitsOf (rowMask vs)).length ≤ 64 by
                have h := congrArg List.length RI.out.kinds
                rw [List.length_map, List.length_map] at h
                have := HN.out
                omega)
              clear hb3 hXC X8 hF him hi
              go_wp2_with fail
              cases F with
              | none =>
                have hno : kx ∉ bitsOf (rowMask vs) := fun h => by
                  have h2 := HFI.out.2 h
                  rw [show findK vs (Vl.k ⟨(kx : Int), xa, xb⟩) = none from HF.out.symm] at h2
                  cases h2
                have HNO : Hid (mapC t.cols (.int .i64 (kx : Int)) = none) := hid (by
                  rw [mapC_nat]
                  cases hc : t.cols kx with
                  | none => rfl
                  | some c => exact absurd ((HOK.out kx).1 (by rw [hc]; rfl)) hno)
                clear hno
                refine (set_kind X9.out wh (by rw [HHL.out]; exact hwh) ⟨kx, xa, xb⟩ (by dsimp only; omega) (by dsimp only; omega) HNO.out (ad 4) HE.out.c4).mono ?_
                rintro r wa ⟨rfl, hXa⟩
                have XA : Hid (Star w wa (tabL t (rowMask vs) kv (hN i) (colS2 vs ⟨kx, xa, xb⟩ false kx wh i) [natRow kv (bitsOf (rowMask vs)), Blk e #[.int .i64 kx, .int .i64 xa, .int .i64 xb] 37])) := hid hXa
                have hb3 := (XA.out.blk 14 rfl).1
                have k0 := cell_of hb3 0
                have k1 := cell_of hb3 1
                have k2 := cell_of hb3 2
                have kl := lt_of hb3
                simp only [List.getElem?_toArray, List.getElem?_cons_zero, List.getElem?_cons_succ] at k0 k1 k2
                have XB := hid XA.out
                clear hb3 XA X9 hXa q0 q1 q2 ql
                go_wp2_with fail
                refine (ref_find _ vs kx (RR.out XB.out.same) (by have := HN.out; omega)).mono ?_
                rintro r wc ⟨hr, hsc⟩
                rw [← HF.out] at hr
                dsimp only at hr
                subst hr
                have XC := hid (XB.out.go hsc)
                clear hsc XB HF k0 k1 k2 kl
                have XD := hid (XC.out.alloc #[.int .i64 0, .int .i64 0, .int .i64 0] 37).drop
                clear XC
                go_wp2_with fail
                go_loopw [100] (fun iv wr => ∃ j : Nat, j ≤ i ∧ iv = .int .i64 j ∧ Star w wr (tabL t (rowMask vs) kv (hN i) (colS2 vs ⟨kx, xa, xb⟩ false kx wh i) [natRow kv (bitsOf (rowMask vs)), Blk e #[.int .i64 kx, .int .i64 xa, .int .i64 xb] 37])) (fun iv _ => i - (intOf iv).toNat)
                case atStart => exact ⟨0, by omega, rfl, XD.out⟩
                case round =>
                  obtain ⟨j, hj, rfl, hX⟩ := hrel
                  rename World => wy
                  have XE := hid hX
                  have hb3 := (hX.blk 14 rfl).1
                  have k0 := cell_of hb3 0
                  have k1 := cell_of hb3 1
                  have k2 := cell_of hb3 2
                  have kl := lt_of hb3
                  simp only [List.getElem?_toArray, List.getElem?_cons_zero, List.getElem?_cons_succ] at k0 k1 k2
                  clear hX XD hb3
                  by_cases hji : j < i
                  · clear k0 k1 k2 kl
                    go_wp2_with fail
                    refine (entity_in XE.out HOK.out (fun k hk => by have := HB10.out k hk; omega) HBL.out j ((j : Int), 1) (hN_get i j hji) (by rw [HHL.out]; omega) (valAt vs ⟨kx, xa, xb⟩ false wh j) (fun k hk => colS2_get RI.out ⟨kx, xa, xb⟩ false rfl (fun h => by cases h) wh i j hji hk) (fun k => by have := colS2_le RI.out ⟨kx, xa, xb⟩ false kx wh i k; omega)).mono ?_
                    rintro r wf ⟨v, rfl, hXf⟩
                    have HEQ := hid (show (bitsOf (rowMask vs)).map (valAt vs ⟨kx, xa, xb⟩ false wh j) = vs from (by unfold valAt; rw [if_neg (fun h => absurd h.1 (by decide))]; exact RI.out.map))
                    obtain ⟨ys, hys⟩ : ∃ ys, ys = (bitsOf (rowMask vs)).map (valAt vs ⟨kx, xa, xb⟩ false wh j) := ⟨_, rfl⟩
                    rw [← hys] at hXf
                    have HYS := hid (hys.trans HEQ.out)
                    obtain ⟨yl, hyl⟩ : ∃ yl, yl = ys.length := ⟨_, rfl⟩
                    rw [← hyl] at hXf
                    have HYL := hid hyl
                    obtain ⟨va, vcp, rfl, -⟩ := own_slice (hXf.row 0 rfl).1
                    have XG := hid (hXf.alloc (enC (j : Int) 1 (.slice va yl vcp)) 46)
                    clear hXf XE hys hyl HEQ
                    have R1 : Hid (Reads (wf.alloc (.cells (enC (j : Int) 1 (.slice va yl vcp)) 46)) (.slice va yl vcp) ys.length 3 (ys.flatMap vc)) := hid (by rw [← HYL.out]; exact Reads.of_own (XG.out.row 1 rfl).1)
                    have R2 := hid (RR.out XG.out.same)
                    have HL2 := hid (show (vs).length ≤ 1000000 by have := HN.out; omega)
                    have XG2 : Hid (Star w (wf.alloc (.cells (enC (j : Int) 1 (.slice va yl vcp)) 46)) (tabL t (rowMask vs) kv (hN i) (colS2 vs ⟨kx, xa, xb⟩ false kx wh i) [natRow kv (bitsOf (rowMask vs)), Blk e #[.int .i64 kx, .int .i64 xa, .int .i64 xb] 37])) := hid (by
                      have h := XG.out.drop.drop
                      exact h)
                    have hbg := (XG.out.blk 0 rfl).1
                    have G0 := hid (cell_of hbg 0)
                    have G1 := hid (cell_of hbg 1)
                    simp only [List.getElem?_toArray, List.getElem?_cons_zero, List.getElem?_cons_succ] at G0 G1
                    clear XG hbg
                    dsimp only [enC]
                    go_wp2_with fail
                    refine (sameRow _ _ ys (vs) _ R1.out R2.out (by rw [HYS.out]; exact HL2.out) HL2.out).mono ?_
                    rintro r wg ⟨hr, hsg⟩
                    obtain rfl : r = .returned (.bool true) := hr.trans (by rw [HYS.out]; simp)
                    have XH := hid (XG2.out.go hsg)
                    have h0 := hsg.keep G0.out
                    have h1 := hsg.keep G1.out
                    have hl0 : wf.heap.size < wg.heap.size := World.block_lt_of_cell? wg _ h0
                    clear hsg XG2 R1 R2 G0 G1
                    go_wp2_with fail
                    go_roundw
                    case rel => exact ⟨j + 1, by omega, by go_num, XH.out⟩
                    case measure => simp [intOf]; omega
                  · go_wp2
                    go_ret
                    exact ⟨rfl, XE.out.same⟩
              | some y =>
                have hin : kx ∈ bitsOf (rowMask vs) := HFI.out.1 (by
                  rw [show findK vs (Vl.k ⟨(kx : Int), xa, xb⟩) = some y from HF.out.symm]
                  rfl)
                have HIN := hid hin
                obtain ⟨c, hc⟩ := Option.isSome_iff_exists.1 ((HOK.out kx).2 hin)
                have HCC := hid hc
                obtain ⟨yk, ya, yb⟩ := y
                clear hc
                refine (set_ok X9.out wh kx c (by rw [HHL.out]; exact hwh) hkx HCC.out ⟨kx, xa, xb⟩ rfl HCN.out.symm ad HE.out (by rw [colN_in RI.out hin, List.length_replicate]; exact hwh) (by have := colN_le RI.out i kx; omega)).mono ?_
                rintro r wa ⟨rfl, hXa⟩
                have XA : Hid (Star w wa (tabL t (rowMask vs) kv (hN i) (colS2 vs ⟨kx, xa, xb⟩ true kx wh i) [natRow kv (bitsOf (rowMask vs)), Blk e #[.int .i64 kx, .int .i64 xa, .int .i64 xb] 37])) := hid hXa
                clear hin
                have hb3 := (XA.out.blk 14 rfl).1
                have k0 := cell_of hb3 0
                have k1 := cell_of hb3 1
                have k2 := cell_of hb3 2
                have kl := lt_of hb3
                simp only [List.getElem?_toArray, List.getElem?_cons_zero, List.getElem?_cons_succ] at k0 k1 k2
                have XB := hid XA.out
                clear hb3 XA X9 hXa q0 q1 q2 ql
                go_wp2_with fail
                refine (ref_find _ vs kx (RR.out XB.out.same) (by have := HN.out; omega)).mono ?_
                rintro r wc ⟨hr, hsc⟩
                rw [← HF.out] at hr
                dsimp only at hr
                subst hr
                have XC := hid (XB.out.go hsc)
                clear hsc XB HF k0 k1 k2 kl
                have XD := hid (XC.out.alloc #[.int .i64 yk, .int .i64 ya, .int .i64 yb] 37).drop
                clear XC
                go_wp2_with fail
                go_loopw [100] (fun iv wr => ∃ j : Nat, j ≤ i ∧ iv = .int .i64 j ∧ Star w wr (tabL t (rowMask vs) kv (hN i) (colS2 vs ⟨kx, xa, xb⟩ true kx wh i) [natRow kv (bitsOf (rowMask vs)), Blk e #[.int .i64 kx, .int .i64 xa, .int .i64 xb] 37])) (fun iv _ => i - (intOf iv).toNat)
                case atStart => exact ⟨0, by omega, rfl, XD.out⟩
                case round =>
                  obtain ⟨j, hj, rfl, hX⟩ := hrel
                  rename World => wy
                  have XE := hid hX
                  have hb3 := (hX.blk 14 rfl).1
                  have k0 := cell_of hb3 0
                  have k1 := cell_of hb3 1
                  have k2 := cell_of hb3 2
                  have kl := lt_of hb3
                  simp only [List.getElem?_toArray, List.getElem?_cons_zero, List.getElem?_cons_succ] at k0 k1 k2
                  clear hX XD hb3
                  by_cases hji : j < i
                  · by_cases hjw : j = wh
                    · have hjb : ((j : Int) == (wh : Int)) = true := by simp [hjw]
                      have HJ := hid hjw
                      clear hjw
                      go_wp2_with fail
                      refine (ref_put _ vs ⟨kx, xa, xb⟩ (RR.out XE.out.same) (by have := HN.out; omega) (put_ok RI.out HCN.out.symm) (put_one RI.out _)).mono ?_
                      rintro r wp ⟨pv, rfl, hXp⟩
                      rw [put_row RI.out rfl HIN.out] at hXp
                      have XF := hid (tabSwap (tabIn (XE.out.lift hXp)))
                      clear hXp XE hjb k0 k1 k2 kl
                      go_wp2_with fail
                      refine (entity_in XF.out HOK.out (fun k hk => by have := HB10.out k hk; omega) HBL.out j ((j : Int), 1) (hN_get i j hji) (by rw [HHL.out]; omega) (valAt vs ⟨kx, xa, xb⟩ true wh j) (fun k hk => colS2_get RI.out ⟨kx, xa, xb⟩ true rfl (fun _ => HIN.out) wh i j hji hk) (fun k => by have := colS2_le RI.out ⟨kx, xa, xb⟩ true kx wh i k; omega)).mono ?_
                      rintro r wf ⟨v, rfl, hXf⟩
                      have HEQ := hid (show (bitsOf (rowMask vs)).map (valAt vs ⟨kx, xa, xb⟩ true wh j) = (bitsOf (rowMask vs)).map (putVal vs ⟨kx, xa, xb⟩) from (by unfold valAt; rw [if_pos ⟨rfl, HJ.out⟩]))
                      obtain ⟨ys, hys⟩ : ∃ ys, ys = (bitsOf (rowMask vs)).map (valAt vs ⟨kx, xa, xb⟩ true wh j) := ⟨_, rfl⟩
                      rw [← hys] at hXf
                      have HYS := hid (hys.trans HEQ.out)
                      obtain ⟨yl, hyl⟩ : ∃ yl, yl = ys.length := ⟨_, rfl⟩
                      rw [← hyl] at hXf
                      have HYL := hid hyl
                      obtain ⟨va, vcp, rfl, -⟩ := own_slice (hXf.row 0 rfl).1
                      have XG := hid (hXf.alloc (enC (j : Int) 1 (.slice va yl vcp)) 46)
                      clear hXf XF hys hyl HEQ
                      have R1 : Hid (Reads (wf.alloc (.cells (enC (j : Int) 1 (.slice va yl vcp)) 46)) (.slice va yl vcp) ys.length 3 (ys.flatMap vc)) := hid (by rw [← HYL.out]; exact Reads.of_own (XG.out.row 1 rfl).1)
                      have R2 := hid (Reads.of_own (XG.out.row 16 rfl).1)
                      have HL2 := hid (show ((bitsOf (rowMask vs)).map (putVal vs ⟨kx, xa, xb⟩)).length ≤ 1000000 by rw [List.length_map]; have := HBL.out; omega)
                      have XG2 : Hid (Star w (wf.alloc (.cells (enC (j : Int) 1 (.slice va yl vcp)) 46)) (tabL t (rowMask vs) kv (hN i) (colS2 vs ⟨kx, xa, xb⟩ true kx wh i) [natRow kv (bitsOf (rowMask vs)), Blk e #[.int .i64 kx, .int .i64 xa, .int .i64 xb] 37])) := hid (by
                        have h := XG.out.drop.drop
                        exact (tabOut (tabSwap h)).drop)
                      have hbg := (XG.out.blk 0 rfl).1
                      have G0 := hid (cell_of hbg 0)
                      have G1 := hid (cell_of hbg 1)
                      simp only [List.getElem?_toArray, List.getElem?_cons_zero, List.getElem?_cons_succ] at G0 G1
                      clear XG hbg
                      dsimp only [enC]
                      go_wp2_with fail
                      refine (sameRow _ _ ys ((bitsOf (rowMask vs)).map (putVal vs ⟨kx, xa, xb⟩)) _ R1.out R2.out (by rw [HYS.out]; exact HL2.out) HL2.out).mono ?_
                      rintro r wg ⟨hr, hsg⟩
                      obtain rfl : r = .returned (.bool true) := hr.trans (by rw [HYS.out]; simp)
                      have XH := hid (XG2.out.go hsg)
                      have h0 := hsg.keep G0.out
                      have h1 := hsg.keep G1.out
                      have hl0 : wf.heap.size < wg.heap.size := World.block_lt_of_cell? wg _ h0
                      clear hsg XG2 R1 R2 G0 G1
                      go_wp2_with fail
                      go_roundw
                      case rel => exact ⟨j + 1, by omega, by go_num, XH.out⟩
                      case measure => simp [intOf]; omega
                    · have hjb : ((j : Int) == (wh : Int)) = false := by simp; omega
                      have HJ := hid hjw
                      clear hjw k0 k1 k2 kl
                      go_wp2_with fail
                      refine (entity_in XE.out HOK.out (fun k hk => by have := HB10.out k hk; omega) HBL.out j ((j : Int), 1) (hN_get i j hji) (by rw [HHL.out]; omega) (valAt vs ⟨kx, xa, xb⟩ true wh j) (fun k hk => colS2_get RI.out ⟨kx, xa, xb⟩ true rfl (fun _ => HIN.out) wh i j hji hk) (fun k => by have := colS2_le RI.out ⟨kx, xa, xb⟩ true kx wh i k; omega)).mono ?_
                      rintro r wf ⟨v, rfl, hXf⟩
                      have HEQ := hid (show (bitsOf (rowMask vs)).map (valAt vs ⟨kx, xa, xb⟩ true wh j) = vs from (by unfold valAt; rw [if_neg (fun h => HJ.out h.2)]; exact RI.out.map))
                      obtain ⟨ys, hys⟩ : ∃ ys, ys = (bitsOf (rowMask vs)).map (valAt vs ⟨kx, xa, xb⟩ true wh j) := ⟨_, rfl⟩
                      rw [← hys] at hXf
                      have HYS := hid (hys.trans HEQ.out)
                      obtain ⟨yl, hyl⟩ : ∃ yl, yl = ys.length := ⟨_, rfl⟩
                      rw [← hyl] at hXf
                      have HYL := hid hyl
                      obtain ⟨va, vcp, rfl, -⟩ := own_slice (hXf.row 0 rfl).1
                      have XG := hid (hXf.alloc (enC (j : Int) 1 (.slice va yl vcp)) 46)
                      clear hXf XE hys hyl HEQ
                      have R1 : Hid (Reads (wf.alloc (.cells (enC (j : Int) 1 (.slice va yl vcp)) 46)) (.slice va yl vcp) ys.length 3 (ys.flatMap vc)) := hid (by rw [← HYL.out]; exact Reads.of_own (XG.out.row 1 rfl).1)
                      have R2 := hid (RR.out XG.out.same)
                      have HL2 := hid (show (vs).length ≤ 1000000 by have := HN.out; omega)
                      have XG2 : Hid (Star w (wf.alloc (.cells (enC (j : Int) 1 (.slice va yl vcp)) 46)) (tabL t (rowMask vs) kv (hN i) (colS2 vs ⟨kx, xa, xb⟩ true kx wh i) [natRow kv (bitsOf (rowMask vs)), Blk e #[.int .i64 kx, .int .i64 xa, .int .i64 xb] 37])) := hid (by
                        have h := XG.out.drop.drop
                        exact h)
                      have hbg := (XG.out.blk 0 rfl).1
                      have G0 := hid (cell_of hbg 0)
                      have G1 := hid (cell_of hbg 1)
                      simp only [List.getElem?_toArray, List.getElem?_cons_zero, List.getElem?_cons_succ] at G0 G1
                      clear XG hbg
                      dsimp only [enC]
                      go_wp2_with fail
                      refine (sameRow _ _ ys (vs) _ R1.out R2.out (by rw [HYS.out]; exact HL2.out) HL2.out).mono ?_
                      rintro r wg ⟨hr, hsg⟩
                      obtain rfl : r = .returned (.bool true) := hr.trans (by rw [HYS.out]; simp)
                      have XH := hid (XG2.out.go hsg)
                      have h0 := hsg.keep G0.out
                      have h1 := hsg.keep G1.out
                      have hl0 : wf.heap.size < wg.heap.size := World.block_lt_of_cell? wg _ h0
                      clear hsg XG2 R1 R2 G0 G1
                      go_wp2_with fail
                      go_roundw
                      case rel => exact ⟨j + 1, by omega, by go_num, XH.out⟩
                      case measure => simp [intOf]; omega
                  · go_wp2
                    go_ret
                    exact ⟨rfl, XE.out.same⟩
        · have hne : ((cn : Int) != 0) = true := by simp; omega
          clear h0
          go_wp2_with fail
          go_ret
          exact ⟨rfl, Z5.out.same⟩
end Go.Proofs.YtegcnkcjmebheaaDoor.TableSets
