/-
  Package heap: up, down, each by its contract.
-/
import Derived.Test.YtilobedihjkpjaaDoorHeapSwap
import Derived.Deep.RegionHeld3
namespace Go.Proofs.YtilobedihjkpjaaDoor.Hp

/-- At most. -/
def le (a b : Int × Int) : Prop := ah b a = false
theorem ah_iff (a b : Int × Int) : ah a b = true ↔ a.1 < b.1 ∨ (a.1 = b.1 ∧ a.2 < b.2) := by simp [ah]
theorem le_iff (a b : Int × Int) : le a b ↔ a.1 < b.1 ∨ (a.1 = b.1 ∧ a.2 ≤ b.2) := by
  unfold le
  rw [Bool.eq_false_iff, ne_eq, ah_iff]
  omega
theorem le_refl (a : Int × Int) : le a a := by rw [le_iff]; omega
theorem le_trans {a b c : Int × Int} (h : le a b) (k : le b c) : le a c := by rw [le_iff] at *; omega
theorem le_of_ah {a b : Int × Int} (h : ah a b = true) : le a b := by rw [le_iff]; rw [ah_iff] at h; omega
theorem le_antisymm {a b : Int × Int} (h : le a b) (k : le b a) : a = b := by
  rw [le_iff] at *
  exact Prod.ext (by omega) (by omega)
theorem le_total (a b : Int × Int) : le a b ∨ le b a := by rw [le_iff, le_iff]; omega

/-- The entry at a place. -/
def at_ (es : List (Int × Int)) (k : Nat) : Int × Int := es.getD k (0, 0)
theorem at_eq {es : List (Int × Int)} {k : Nat} (h : k < es.length) : es[k]? = some (at_ es k) := by simp [at_, List.getD, h]
def par (k : Nat) : Nat := (k - 1) / 2

def IsHeap (es : List (Int × Int)) : Prop := ∀ k, 0 < k → k < es.length → le (at_ es (par k)) (at_ es k)
def UpInv (es : List (Int × Int)) (i : Nat) : Prop :=
  (∀ k, 0 < k → k < es.length → k ≠ i → le (at_ es (par k)) (at_ es k)) ∧ (∀ k, 0 < i → 0 < k → k < es.length → par k = i → le (at_ es (par i)) (at_ es k))
def DownInv (es : List (Int × Int)) (i : Nat) : Prop :=
  (∀ k, 0 < k → k < es.length → par k ≠ i → le (at_ es (par k)) (at_ es k)) ∧ (∀ k, 0 < i → 0 < k → k < es.length → par k = i → le (at_ es (par i)) (at_ es k))

/-- Two entries change places. -/
def swp (es : List (Int × Int)) (i j : Nat) : List (Int × Int) := (es.set i (at_ es j)).set j (at_ es i)
theorem swp_length (es : List (Int × Int)) (i j : Nat) : (swp es i j).length = es.length := by simp [swp]
theorem swp_at (es : List (Int × Int)) (i j k : Nat) (hi : i < es.length) (hj : j < es.length) : at_ (swp es i j) k = if k = j then at_ es i else if k = i then at_ es j else at_ es k := by
  unfold swp at_
  simp only [List.getD_eq_getElem?_getD, List.getElem?_set, List.length_set]
  by_cases h1 : k = j
  · subst h1; simp [hj]
  · rw [if_neg (fun e => h1 e.symm), if_neg h1]
    by_cases h2 : k = i
    · subst h2; simp [hi]
    · rw [if_neg (fun e => h2 e.symm), if_neg h2]

theorem set_swap_perm {α : Type} : ∀ (l : List α) (i j : Nat) (a b : α), i < j → l[i]? = some a → l[j]? = some b → ((l.set i b).set j a).Perm l
  | [], i, j, a, b, _, h, _ => by simp at h
  | x :: l, 0, j + 1, a, b, _, hi, hj => by
    simp at hi hj
    subst hi
    simp only [List.set_cons_zero, List.set_cons_succ]
    have := List.getElem?_eq_some_iff.1 hj
    obtain ⟨hjl, rfl⟩ := this
    clear hj
    induction l generalizing j x with
    | nil => simp at hjl
    | cons y l ih =>
      cases j with
      | zero => simp; exact List.Perm.swap _ _ _
      | succ j =>
        simp only [List.getElem_cons_succ, List.set_cons_succ]
        have := ih x j (Nat.succ_pos _) (by simp at hjl; omega)
        exact (List.Perm.swap _ _ _).trans ((this.cons y).trans (List.Perm.swap _ _ _))
  | x :: l, i + 1, j + 1, a, b, h, hi, hj => by
    simp at hi hj
    simp only [List.set_cons_succ]
    exact (set_swap_perm l i j a b (by omega) hi hj).cons x

theorem swp_perm (es : List (Int × Int)) (i j : Nat) (hi : i < es.length) (hj : j < es.length) : (swp es i j).Perm es := by
  rcases Nat.lt_trichotomy i j with h | h | h
  · exact set_swap_perm es i j _ _ h (at_eq hi) (at_eq hj)
  · subst h
    have e : swp es i i = es := by
      unfold swp
      rw [List.set_set]
      apply List.ext_getElem?
      intro k
      rw [List.getElem?_set]
      split
      · rename_i h; subst h; exact (at_eq hi).symm
      · rfl
    rw [e]
  · unfold swp
    rw [List.set_comm _ _ (by omega)]
    exact set_swap_perm es j i _ _ h (at_eq hj) (at_eq hi)

theorem up_step (es : List (Int × Int)) (i : Nat) (h : UpInv es i) (hi : 0 < i) (hl : i < es.length) (ha : ah (at_ es i) (at_ es (par i)) = true) : UpInv (swp es (par i) i) (par i) := by
  have hp : par i < i := by unfold par; omega
  have hpl : par i < es.length := by omega
  constructor
  · intro k hk hkl hne
    rw [swp_length] at hkl
    rw [swp_at _ _ _ _ hpl hl, swp_at _ _ _ _ hpl hl]
    by_cases h1 : k = i
    · subst h1
      rw [if_pos rfl, if_neg (by omega), if_pos rfl]
      exact le_of_ah ha
    · rw [if_neg h1, if_neg hne]
      by_cases h2 : par k = i
      · rw [if_pos h2]
        exact h.2 k hi hk hkl h2
      · rw [if_neg h2]
        by_cases h3 : par k = par i
        · rw [if_pos h3]
          have := h.1 k hk hkl h1
          rw [h3] at this
          exact le_trans (le_of_ah ha) this
        · rw [if_neg h3]
          exact h.1 k hk hkl h1
  · intro k hpi hk hkl hpk
    rw [swp_length] at hkl
    have hpp : par (par i) < par i := by unfold par at *; omega
    rw [swp_at _ _ _ _ hpl hl, swp_at _ _ _ _ hpl hl, if_neg (by omega), if_neg (by omega)]
    have h0 := h.1 (par i) hpi hpl (by omega)
    by_cases h1 : k = i
    · subst h1
      rw [if_pos rfl]
      exact h0
    · rw [if_neg h1, if_neg (by unfold par at *; omega)]
      have := h.1 k hk hkl h1
      rw [hpk] at this
      exact le_trans h0 this

theorem up_end (es : List (Int × Int)) (i : Nat) (h : UpInv es i) (he : i = 0 ∨ ah (at_ es i) (at_ es (par i)) = false) : IsHeap es := by
  intro k hk hkl
  by_cases h1 : k = i
  · subst h1
    rcases he with he | he
    · omega
    · exact he
  · exact h.1 k hk hkl h1

/-- The lesser one of the places below. -/
theorem down_step (es : List (Int × Int)) (i c : Nat) (h : DownInv es i) (hc : c = 2 * i + 1 ∨ c = 2 * i + 2) (hl : c < es.length) (hm : ∀ k, k < es.length → (k = 2 * i + 1 ∨ k = 2 * i + 2) → le (at_ es c) (at_ es k))
    (ha : ah (at_ es c) (at_ es i) = true) : DownInv (swp es i c) c := by
  have hpc : par c = i := by unfold par; omega
  have hil : i < es.length := by omega
  have hic : i < c := by omega
  constructor
  · intro k hk hkl hne
    rw [swp_length] at hkl
    rw [swp_at _ _ _ _ hil hl, swp_at _ _ _ _ hil hl, if_neg hne]
    by_cases h1 : k = c
    · subst h1
      rw [if_pos rfl, hpc, if_pos rfl]
      exact le_of_ah ha
    · rw [if_neg h1]
      by_cases h2 : par k = i
      · rw [if_pos h2, if_neg (by unfold par at h2; omega)]
        exact hm k hkl (by unfold par at h2; omega)
      · rw [if_neg h2]
        by_cases h3 : k = i
        · subst h3
          rw [if_pos rfl]
          exact h.2 c hk (by omega) hl hpc
        · rw [if_neg h3]
          exact h.1 k hk hkl h2
  · intro k _ hk hkl hpk
    rw [swp_length] at hkl
    have hkc : c < k := by unfold par at hpk; omega
    rw [swp_at _ _ _ _ hil hl, swp_at _ _ _ _ hil hl, hpc, if_neg (by omega), if_pos rfl, if_neg (by omega), if_neg (by omega)]
    have := h.1 k hk hkl (by omega)
    rw [hpk] at this
    exact this

theorem down_end (es : List (Int × Int)) (i : Nat) (h : DownInv es i) (he : ∀ k, k < es.length → (k = 2 * i + 1 ∨ k = 2 * i + 2) → le (at_ es i) (at_ es k)) : IsHeap es := by
  intro k hk hkl
  by_cases h1 : par k = i
  · rw [h1]; exact he k hkl (by unfold par at h1; omega)
  · exact h.1 k hk hkl h1

theorem push_up (es : List (Int × Int)) (e : Int × Int) (h : IsHeap es) : UpInv (es ++ [e]) es.length := by
  have hat : ∀ k, k < es.length → at_ (es ++ [e]) k = at_ es k := by intro k hk; simp [at_, List.getD, List.getElem?_append_left hk]
  constructor
  · intro k hk hkl hne
    have hkl' : k < es.length := by simp at hkl; omega
    rw [hat k hkl', hat (par k) (by unfold par; omega)]
    exact h k hk hkl'
  · intro k _ hk hkl hpk
    simp at hkl
    unfold par at hpk
    omega

/-- The first entry is the least. -/
theorem least (es : List (Int × Int)) (h : IsHeap es) : ∀ k, k < es.length → le (at_ es 0) (at_ es k) := by
  intro k
  induction k using Nat.strongRecOn with
  | _ k ih =>
    intro hk
    by_cases h0 : k = 0
    · subst h0; exact le_refl _
    · have hp : par k < k := by unfold par; omega
      exact le_trans (ih (par k) hp (by omega)) (h k (by omega) hk)
theorem least_mem (es : List (Int × Int)) (h : IsHeap es) (e : Int × Int) (he : e ∈ es) : le (at_ es 0) e := by
  obtain ⟨k, hk, rfl⟩ := List.mem_iff_getElem.1 he
  have := least es h k hk
  simpa [at_, List.getD, hk] using this

/-- The last entry comes to the first place. -/
def popped (es : List (Int × Int)) : List (Int × Int) := (es.set 0 (at_ es (es.length - 1))).take (es.length - 1)
theorem pop_down (es : List (Int × Int)) (h : IsHeap es) : DownInv (popped es) 0 := by
  constructor
  · intro k hk hkl hne
    have hkl' : k < es.length - 1 := by simp [popped] at hkl; omega
    have hat : ∀ j, 0 < j → j < es.length - 1 → at_ (popped es) j = at_ es j := by
      intro j hj hjl
      simp only [at_, popped, List.getD_eq_getElem?_getD, List.getElem?_take, hjl, if_true]
      rw [List.getElem?_set_ne (by omega)]
    rw [hat k hk hkl', hat (par k) (by unfold par at *; omega) (by unfold par; omega)]
    exact h k hk (by omega)
  · intro k h0; omega
theorem popped_perm (es : List (Int × Int)) (h : 0 < es.length) : (at_ es 0 :: popped es).Perm es := by
  obtain ⟨n, hn⟩ : ∃ n, es.length = n + 1 := ⟨es.length - 1, by omega⟩
  unfold popped
  rw [hn, Nat.add_sub_cancel]
  cases es with
  | nil => simp at hn
  | cons x es =>
    simp at hn
    cases n with
    | zero => have : es = [] := List.eq_nil_of_length_eq_zero hn; subst this; simp [at_]
    | succ n =>
      have hl : at_ (x :: es) (n + 1) = at_ es n := by simp [at_]
      rw [hl]
      simp only [List.set_cons_zero, List.take_succ_cons]
      have e : es = es.take n ++ [at_ es n] := by
        rw [← List.take_append_drop n es]
        have hd : es.drop n = [at_ es n] := by
          rw [List.drop_eq_getElem_cons (by omega), List.drop_of_length_le (by omega)]
          simp [at_, List.getD, show n < es.length by omega]
        rw [hd, List.take_append_of_le_length (by simp; omega), List.take_take, Nat.min_self]
        congr 2
        rw [← hd, List.take_append_drop]
      have hx : at_ (x :: es) 0 = x := rfl
      rw [hx]
      refine List.Perm.cons x ?_
      refine List.Perm.trans (List.perm_append_comm (l₁ := [at_ es n]) (l₂ := es.take n)) ?_
      rw [← e]
end Go.Proofs.YtilobedihjkpjaaDoor.Hp
namespace Go.Proofs.YtilobedihjkpjaaDoor.Hp
open Go Go.RowKit

theorem swapY (p : Nat) (v : Value) (es : List (Int × Int)) (i j : Nat) (w : World) (h : Hp w p v es) (hi : i < es.length) (hj : j < es.length) (hn : ah (at_ es j) (at_ es i) = true) (hij : i ≠ j) :
    Calls Tryd.prog 133 #[.pointer (some ⟨p, 0, none⟩), .int .i64 i, .int .i64 j] w fun r w' => r = .returned (.bool true) ∧ Hp w' p v (swp es i j) ∧ Chg (HpS p v) w w' :=
  swap_yes p v es i j _ _ w h (at_eq hi) (at_eq hj) hn hij
theorem swapN (p : Nat) (v : Value) (es : List (Int × Int)) (i j : Nat) (w : World) (h : Hp w p v es) (hi : i < es.length) (hj : j < es.length) (hn : ah (at_ es j) (at_ es i) = false) :
    Calls Tryd.prog 133 #[.pointer (some ⟨p, 0, none⟩), .int .i64 i, .int .i64 j] w fun r w' => r = .returned (.bool false) ∧ Same w w' :=
  swap_no p v es i j _ _ w h (at_eq hi) (at_eq hj) hn

set_option maxRecDepth 100000 in
theorem up_any (p : Nat) (v : Value) (es : List (Int × Int)) (i : Nat) (w : World) (h : Hp w p v es) (hi : i < es.length) (hu : UpInv es i) :
    Calls Tryd.prog 122 #[.pointer (some ⟨p, 0, none⟩), .int .i64 i] w fun r w' => r = .returned (.tuple #[]) ∧ ∃ es', Hp w' p v es' ∧ IsHeap es' ∧ es'.Perm es ∧ Chg (HpS p v) w w' := by
  have hx := h.max
  have H := hid h
  have HU := hid hu
  clear h hu
  go_enter Tryd.func122, Tryd.ntmps122
  go_wp2_with fail
  go_loopw [1] (fun iv wr => ∃ (k : Nat) (es' : List (Int × Int)), iv = .int .i64 k ∧ k < es.length ∧ Hp wr p v es' ∧ UpInv es' k ∧ es'.Perm es ∧ Chg (HpS p v) w wr) (fun iv _ => (intOf iv).toNat)
  case atStart => exact ⟨i, es, rfl, hi, H.out, HU.out, List.Perm.refl _, Chg.refl _⟩
  case round =>
    obtain ⟨k, es', rfl, hk, hh, hu, hp, hc⟩ := hrel
    have HH := hid hh
    have HUk := hid hu
    have HP := hid hp
    have HC := hid hc
    have hlen := hid hp.length_eq
    clear hh hu hp hc
    cases k with
    | zero =>
      go_wp2
      go_end0
      exact ⟨rfl, es', HH.out, up_end es' 0 HUk.out (.inl rfl), HP.out, HC.out⟩
    | succ k =>
      have hkl : k + 1 < es'.length := by have := hlen.out; omega
      have hpl : par (k + 1) < es'.length := by unfold par; omega
      by_cases ha : ah (at_ es' (k + 1)) (at_ es' (par (k + 1))) = true
      · have HA := hid ha
        clear ha
        go_wp2_with fail
        rw [show ((k : Int) / 2) = ((par (k + 1) : Nat) : Int) from by unfold par; omega, show ((k : Int) + 1) = ((k + 1 : Nat) : Int) from by omega]
        refine (swapY _ _ _ _ _ _ HH.out hpl hkl HA.out (by unfold par; omega)).mono ?_
        rintro r w1 ⟨rfl, h1, c1⟩
        have H1 := hid h1
        have C1 := hid (HC.out.trans c1 (fun _ _ h => h))
        have U1 := hid (up_step es' (k + 1) HUk.out (by omega) hkl HA.out)
        have P1 := hid ((swp_perm es' (par (k + 1)) (k + 1) hpl hkl).trans HP.out)
        clear h1 c1
        go_wp2
        go_roundw
        case rel => exact ⟨par (k + 1), _, by unfold par; go_num, by unfold par; omega, H1.out, U1.out, P1.out, C1.out⟩
        case measure => simp [intOf]; omega
      · have ha' : ah (at_ es' (k + 1)) (at_ es' (par (k + 1))) = false := by simpa using ha
        have HA := hid ha'
        clear ha ha'
        go_wp2_with fail
        rw [show ((k : Int) / 2) = ((par (k + 1) : Nat) : Int) from by unfold par; omega, show ((k : Int) + 1) = ((k + 1 : Nat) : Int) from by omega]
        refine (swapN _ _ _ _ _ _ HH.out hpl hkl HA.out).mono ?_
        rintro r w1 ⟨rfl, c1⟩
        have H1 := hid (HH.out.chg c1 (fun _ _ f => f))
        have C1 := hid (HC.out.andSame c1)
        clear c1
        go_wp2
        go_end0
        exact ⟨rfl, es', H1.out, up_end es' (k + 1) HUk.out (.inr HA.out), HP.out, C1.out⟩

set_option maxRecDepth 100000 in
set_option maxHeartbeats 4000000 in
theorem down_any (p : Nat) (v : Value) (es : List (Int × Int)) (w : World) (h : Hp w p v es) (hl : es.length ≤ 1000000) (hu : DownInv es 0) :
    Calls Tryd.prog 124 #[.pointer (some ⟨p, 0, none⟩), .int .i64 0] w fun r w' => r = .returned (.tuple #[]) ∧ ∃ es', Hp w' p v es' ∧ IsHeap es' ∧ es'.Perm es ∧ Chg (HpS p v) w w' := by
  have H := hid h
  have HU := hid hu
  clear h hu
  go_enter Tryd.func124, Tryd.ntmps124
  go_wp2_with fail
  go_loopw [1] (fun iv wr => ∃ (k : Nat) (es' : List (Int × Int)), iv = .int .i64 k ∧ k ≤ es.length ∧ Hp wr p v es' ∧ DownInv es' k ∧ es'.Perm es ∧ Chg (HpS p v) w wr) (fun iv _ => es.length - (intOf iv).toNat)
  case atStart => exact ⟨0, es, rfl, Nat.zero_le _, H.out, HU.out, List.Perm.refl _, Chg.refl _⟩
  case round =>
    obtain ⟨k, es', rfl, hk, hh, hu, hp, hc⟩ := hrel
    have hlen := hid hp.length_eq
    obtain ⟨a, cp, rfl⟩ := hh.shape
    have h0 := hh.c0
    have HH := hid hh
    have HUk := hid hu
    have HP := hid hp
    have HC := hid hc
    clear hh hu hp hc
    obtain ⟨n, hn⟩ : ∃ n, n = es'.length := ⟨_, rfl⟩
    rw [← hn] at h0 
    have hnl : n ≤ 1000000 := by have := hlen.out; omega
    have HN := hid hn
    clear hn
    obtain ⟨c, hc⟩ : ∃ c, c = 2 * k + 1 := ⟨_, rfl⟩
    have HCk := hid hc
    have hcn : n ≤ c → (n : Int) ≤ 2 * k + 1 := by omega
    have HKC := hid (show (2 * (k : Int) + 1) = (c : Int) by omega)
    have hck : 2 * (k : Int) + 1 < n ↔ c < n := by omega
    have HCK := hid hck
    clear hck hc
    by_cases hch : c < n
    · obtain ⟨g, cp', hv⟩ := own_shape HH.out.own (by have := HN.out; omega)
      cases hv
      have hcl : c < es'.length := by have := HN.out; omega
      obtain ⟨e1, e2, _, _⟩ := HH.out.entry c _ (at_eq hcl)
      have hpl := HH.out.lt
      have hgl := (HH.out.own.lt g rfl).2
      have hch' := HCK.out.2 hch
      clear hcn
      by_cases h2 : c + 1 < n
      · have hcl2 : c + 1 < es'.length := by have := HN.out; omega
        obtain ⟨e3, e4, _, _⟩ := HH.out.entry (c + 1) _ (at_eq hcl2)
        go_wp2
        rw [HKC.out]
        generalize hA : at_ es' c = ea at *
        generalize hB : at_ es' (c + 1) = eb at *
        have HA := hid hA
        have HB := hid hB
        clear hA hB
        have hd : decide ((c : Int) + 1 < (n : Int)) = true := by simp; omega
        have hd1 : (c : Int) + 1 < (n : Int) := by omega
        have hd2 : (c : Int) < (n : Int) := by omega
        have hw0 : (0 : Int) ≤ (c : Int) + 1 := by omega
        have hw2 : ((c : Int) + 1).toNat = c + 1 := by omega
        have hw1 : IntKind.i64.wrap ((c : Int) + 1) = (c : Int) + 1 := IntWalk.i64_in _ (by omega)
        go_region_held3 (fun w' => w'.cell? ⟨p, 0, none⟩ = some (.slice (some ⟨g, 0, none⟩) n cp) ∧ w'.cell? ⟨g, c * 2, none⟩ = some (.int .i64 ea.1) ∧ w'.cell? ⟨g, c * 2 + 1, none⟩ = some (.int .i64 ea.2) ∧
            w'.cell? ⟨g, (c + 1) * 2, none⟩ = some (.int .i64 eb.1) ∧ w'.cell? ⟨g, (c + 1) * 2 + 1, none⟩ = some (.int .i64 eb.2))
          (go_keep)
          ((go_at_call 134; refine (ahead_any eb ea _).mono ?_; rintro r w' ⟨rfl, rfl⟩))
        have hs1 : Same wr (((wr.alloc (.cells #[.int .i64 eb.1, .int .i64 eb.2] 172)).alloc (.cells #[.int .i64 ea.1, .int .i64 ea.2] 172)).drew) := ((Chg.refl _).alloc _).alloc _ |>.drew
        generalize (((wr.alloc (.cells #[.int .i64 eb.1, .int .i64 eb.2] 172)).alloc (.cells #[.int .i64 ea.1, .int .i64 ea.2] 172)).drew) = w2 at *
        have HH2 := hid (HH.out.chg hs1 (fun _ _ f => f))
        have HC2 := hid (HC.out.andSame hs1)
        clear hs1 hd hw0 hw1 hw2 h0 e1 e2 e3 e4 HH HC
        have hkl : k < es'.length := by have := HCk.out; omega
        by_cases hab : ah eb ea = true
        · have hml : c + 1 < es'.length := hcl2
          have HAB := hid hab
          have hless : ∀ j, j < es'.length → (j = 2 * k + 1 ∨ j = 2 * k + 2) → le (at_ es' (c + 1)) (at_ es' j) := by
            intro j hj hjk
            have := HCk.out
            rcases hjk with h | h
            · rw [h, ← HCk.out, HB.out, HA.out]; exact le_of_ah hab
            · rw [h, show 2 * k + 2 = c + 1 by omega]; exact le_refl _
          have HL := hid hless
          clear hless hab
          rw [HAB.out]
          by_cases ha2 : ah (at_ es' (c + 1)) (at_ es' k) = true
          · have HA2 := hid ha2
            clear ha2
            go_wp2_with fail
            rw [show ((c : Int) + 1) = ((c + 1 : Nat) : Int) from by omega]
            refine (swapY _ _ _ _ _ _ HH2.out hkl hml HA2.out (by have := HCk.out; omega)).mono ?_
            rintro r w1 ⟨rfl, h1, c1⟩
            have H1 := hid h1
            have C1 := hid (HC2.out.trans c1 (fun _ _ h => h))
            have U1 := hid (down_step es' k (c + 1) HUk.out (by have := HCk.out; omega) hml (HL.out) HA2.out)
            have P1 := hid ((swp_perm es' k (c + 1) hkl hml).trans HP.out)
            clear h1 c1
            go_wp2
            go_roundw
            case rel => exact ⟨c + 1, _, by go_num, by have := hlen.out; omega, H1.out, U1.out, P1.out, C1.out⟩
            case measure => simp [intOf]; have := HCk.out; have := hlen.out; omega
          · have ha3 : ah (at_ es' (c + 1)) (at_ es' k) = false := by simpa using ha2
            have HA2 := hid ha3
            clear ha2 ha3
            go_wp2_with fail
            rw [show ((c : Int) + 1) = ((c + 1 : Nat) : Int) from by omega]
            refine (swapN _ _ _ _ _ _ HH2.out hkl hml HA2.out).mono ?_
            rintro r w1 ⟨rfl, c1⟩
            have H1 := hid (HH2.out.chg c1 (fun _ _ f => f))
            have C1 := hid (HC2.out.andSame c1)
            clear c1
            go_wp2
            refine bodyPost_ret (results_none rfl _ _ _) rfl ?_
            exact ⟨rfl, es', H1.out, down_end es' k HUk.out (fun j hj hjk => le_trans HA2.out ((HL.out) j hj hjk)), HP.out, C1.out⟩
        · have hab' : ah eb ea = false := by simpa using hab
          have hml : c < es'.length := hcl
          have HAB := hid hab'
          have hless : ∀ j, j < es'.length → (j = 2 * k + 1 ∨ j = 2 * k + 2) → le (at_ es' c) (at_ es' j) := by
            intro j hj hjk
            have := HCk.out
            rcases hjk with h | h
            · rw [h, ← HCk.out]; exact le_refl _
            · rw [h, show 2 * k + 2 = c + 1 by omega, HB.out, HA.out]; exact hab'
          have HL := hid hless
          clear hless hab hab'
          rw [HAB.out]
          by_cases ha2 : ah (at_ es' (c)) (at_ es' k) = true
          · have HA2 := hid ha2
            clear ha2
            go_wp2_with fail
            skip
            refine (swapY _ _ _ _ _ _ HH2.out hkl hml HA2.out (by have := HCk.out; omega)).mono ?_
            rintro r w1 ⟨rfl, h1, c1⟩
            have H1 := hid h1
            have C1 := hid (HC2.out.trans c1 (fun _ _ h => h))
            have U1 := hid (down_step es' k (c) HUk.out (by have := HCk.out; omega) hml (HL.out) HA2.out)
            have P1 := hid ((swp_perm es' k (c) hkl hml).trans HP.out)
            clear h1 c1
            go_wp2
            go_roundw
            case rel => exact ⟨c, _, by go_num, by have := hlen.out; omega, H1.out, U1.out, P1.out, C1.out⟩
            case measure => simp [intOf]; have := HCk.out; have := hlen.out; omega
          · have ha3 : ah (at_ es' (c)) (at_ es' k) = false := by simpa using ha2
            have HA2 := hid ha3
            clear ha2 ha3
            go_wp2_with fail
            skip
            refine (swapN _ _ _ _ _ _ HH2.out hkl hml HA2.out).mono ?_
            rintro r w1 ⟨rfl, c1⟩
            have H1 := hid (HH2.out.chg c1 (fun _ _ f => f))
            have C1 := hid (HC2.out.andSame c1)
            clear c1
            go_wp2
            refine bodyPost_ret (results_none rfl _ _ _) rfl ?_
            exact ⟨rfl, es', H1.out, down_end es' k HUk.out (fun j hj hjk => le_trans HA2.out ((HL.out) j hj hjk)), HP.out, C1.out⟩
      · have hn1 : n = c + 1 := by omega
        have HN1 := hid hn1
        have hd : decide ((c : Int) + 1 < (n : Int)) = false := by simp; omega
        have hw1 : IntKind.i64.wrap ((c : Int) + 1) = (c : Int) + 1 := IntWalk.i64_in _ (by omega)
        clear hn1
        go_wp2
        rw [HKC.out]
        go_quiet (fail)
        have hs1 : Same wr (wr.drewN nq) := (Chg.refl _).drewN _
        generalize wr.drewN nq = w2 at *
        have HH2 := hid (HH.out.chg hs1 (fun _ _ f => f))
        have HC2 := hid (HC.out.andSame hs1)
        clear hs1 hd hw1 h0 e1 e2 HH HC
        have hkl : k < es'.length := by have := HCk.out; omega
        have hml : c < es'.length := hcl
        have hless : ∀ j, j < es'.length → (j = 2 * k + 1 ∨ j = 2 * k + 2) → le (at_ es' c) (at_ es' j) := by
          intro j hj hjk
          have := HCk.out
          have := HN.out
          have := HN1.out
          rcases hjk with h | h
          · rw [h, ← HCk.out]; exact le_refl _
          · omega
        have HL := hid hless
        clear hless
        by_cases ha2 : ah (at_ es' (c)) (at_ es' k) = true
        · have HA2 := hid ha2
          clear ha2
          go_wp2_with fail
          skip
          refine (swapY _ _ _ _ _ _ HH2.out hkl hml HA2.out (by have := HCk.out; omega)).mono ?_
          rintro r w1 ⟨rfl, h1, c1⟩
          have H1 := hid h1
          have C1 := hid (HC2.out.trans c1 (fun _ _ h => h))
          have U1 := hid (down_step es' k (c) HUk.out (by have := HCk.out; omega) hml (HL.out) HA2.out)
          have P1 := hid ((swp_perm es' k (c) hkl hml).trans HP.out)
          clear h1 c1
          go_wp2
          go_roundw
          case rel => exact ⟨c, _, by go_num, by have := hlen.out; omega, H1.out, U1.out, P1.out, C1.out⟩
          case measure => simp [intOf]; have := HCk.out; have := hlen.out; omega
        · have ha3 : ah (at_ es' (c)) (at_ es' k) = false := by simpa using ha2
          have HA2 := hid ha3
          clear ha2 ha3
          go_wp2_with fail
          skip
          refine (swapN _ _ _ _ _ _ HH2.out hkl hml HA2.out).mono ?_
          rintro r w1 ⟨rfl, c1⟩
          have H1 := hid (HH2.out.chg c1 (fun _ _ f => f))
          have C1 := hid (HC2.out.andSame c1)
          clear c1
          go_wp2
          refine bodyPost_ret (results_none rfl _ _ _) rfl ?_
          exact ⟨rfl, es', H1.out, down_end es' k HUk.out (fun j hj hjk => le_trans HA2.out ((HL.out) j hj hjk)), HP.out, C1.out⟩
    · have hge := hcn (by omega)
      clear hcn
      go_wp2
      refine bodyPost_ret (results_none rfl _ _ _) rfl ?_
      exact ⟨rfl, es', HH.out, down_end es' k HUk.out (fun j hj hjk => by have := HN.out; have := HCk.out; omega), HP.out, HC.out⟩
end Go.Proofs.YtilobedihjkpjaaDoor.Hp
