/-
  Package table: Clone.
-/
import Derived.Test.YtegcnkcjmebheaaDoorTabOut
import Derived.Deep.RegionHeld3
namespace Go.Proofs.YtegcnkcjmebheaaDoor.Tab
open Go Go.RowKit Go.Maps Go.Proofs.YtegcnkcjmebheaaDoor.Mask
theorem star_hz {w0 w : World} {M : List Res} (n : Nat) (X : Star w0 w M) : Star w0 w (List.replicate n (factR True) ++ M) := by
  induction n with
  | zero => exact X
  | succ n ih => exact Star.close_fact trivial ih
theorem star_rot {w0 w : World} {M N : List Res} (Y : Star w0 w (M ++ N)) : Star w0 w (N ++ M) := Y.perm List.perm_append_comm
theorem nodup_ten : ∀ (n : Nat) {f : List Nat} (_ : f.Nodup) (_ : ∀ i ∈ f, i < n), f.length ≤ n := by
  intro n
  induction n with
  | zero =>
    intro f _ hb
    cases f with
    | nil => simp
    | cons x f => have := hb x List.mem_cons_self; omega
  | succ n ih =>
    intro f h hb
    by_cases hn : n ∈ f
    · have h1 := ih (h.erase n) (fun i hi => by
        have h2 := hb i (List.mem_of_mem_erase hi)
        have h3 := (h.mem_erase_iff).1 hi
        have := h3.1
        omega)
      rw [List.length_erase_of_mem hn] at h1
      omega
    · have := ih h (fun i hi => by have := hb i hi; have : i ≠ n := fun e => hn (e ▸ hi); omega)
      omega
theorem updX_self {α : Type} (X : Nat → α) (k : Nat) : updX X k (X k) = X := by
  funext i
  unfold updX
  split
  · rename_i h; rw [h]
  · rfl
section
variable {w0 w : World} {L : List Res} {t : Pl} {m : Nat} {kv : Value} {ks : List Nat} {H : List Hd} {X : Nat → List Vl}
/-- A table that is being made, ahead of another one whose columns are gone through. -/
abbrev twoT (p hp mb n : Nat) (cols : Nat → Option Nat) (t : Pl) (m : Nat) (kv : Value) (H : List Hd) (X : Nat → List Vl) (R : Res) (L : List Res) : List Res := tabB p hp m kv mb :: CH.R hp H 128 :: mapB mb n cols :: (colS cols X ++ (tabB t.p t.hp m kv t.mb :: CH.R t.hp H 128 :: R :: (colS t.cols X ++ L)))
theorem two_first {p hp mb n k c : Nat} {cols : Nat → Option Nat} {R : Res} (hk : k < 10) (hc : t.cols k = some c) (Y : Star w0 w (twoT p hp mb n cols t m kv H X R L)) :
    Star w0 w (CV.R c (X k) 128 :: tabB t.p t.hp m kv t.mb :: CH.R t.hp H 128 :: R :: ((colS t.cols X).eraseIdx k ++ (L ++ (tabB p hp m kv mb :: CH.R hp H 128 :: mapB mb n cols :: colS cols X)))) := by
  have h := star_rot (M := tabB p hp m kv mb :: CH.R hp H 128 :: mapB mb n cols :: colS cols X) (N := tabB t.p t.hp m kv t.mb :: CH.R t.hp H 128 :: R :: (colS t.cols X ++ L)) Y
  simp only [List.cons_append, List.append_assoc] at h
  exact colFirst hk hc h
theorem two_back {p hp mb n k c q : Nat} {cols : Nat → Option Nat} {R : Res} (hk : k < 10) (hc : t.cols k = some c)
    (Y : Star w0 w (CV.R q (X k) 128 :: CV.R c (X k) 128 :: tabB t.p t.hp m kv t.mb :: CH.R t.hp H 128 :: R :: ((colS t.cols X).eraseIdx k ++ (L ++ (tabB p hp m kv mb :: CH.R hp H 128 :: mapB mb n cols :: colS cols X))))) :
    Star w0 w (CV.R q (X k) 128 :: twoT p hp mb n cols t m kv H X R L) := by
  have h1 : Star w0 w (CV.R c (X k) 128 :: tabB t.p t.hp m kv t.mb :: CH.R t.hp H 128 :: R :: ((colS t.cols X).eraseIdx k ++ ((L ++ (tabB p hp m kv mb :: CH.R hp H 128 :: mapB mb n cols :: colS cols X)) ++ [CV.R q (X k) 128]))) := by
    refine Y.perm ((List.perm_append_comm (l₁ := [CV.R q (X k) 128]) (l₂ := CV.R c (X k) 128 :: tabB t.p t.hp m kv t.mb :: CH.R t.hp H 128 :: R :: ((colS t.cols X).eraseIdx k ++ (L ++ (tabB p hp m kv mb :: CH.R hp H 128 :: mapB mb n cols :: colS cols X))))).trans (List.Perm.of_eq ?_))
    simp
  have h2 := colBack hk hc h1
  rw [updX_self] at h2
  refine h2.perm ?_
  have e : tabB t.p t.hp m kv t.mb :: CH.R t.hp H 128 :: R :: (colS t.cols X ++ ((L ++ (tabB p hp m kv mb :: CH.R hp H 128 :: mapB mb n cols :: colS cols X)) ++ [CV.R q (X k) 128])) = (tabB t.p t.hp m kv t.mb :: CH.R t.hp H 128 :: R :: (colS t.cols X ++ L)) ++ ((tabB p hp m kv mb :: CH.R hp H 128 :: mapB mb n cols :: colS cols X) ++ [CV.R q (X k) 128]) := by simp
  rw [e]
  refine List.perm_append_comm.trans ?_
  refine ((List.perm_append_comm (l₁ := tabB p hp m kv mb :: CH.R hp H 128 :: mapB mb n cols :: colS cols X) (l₂ := [CV.R q (X k) 128])).append_right _).trans ?_
  simp
theorem two_start {p hp mb : Nat} {R : Res} (Y : Star w0 w (tabB p hp m kv mb :: MapR Tryd.prog 3 ptrE mb 0 (fun _ => none) :: CH.R hp H 128 :: tabB t.p t.hp m kv t.mb :: CH.R t.hp H 128 :: R :: (colS t.cols X ++ L))) :
    Star w0 w (twoT p hp mb 0 (fun _ => none) t m kv H X R L) := by
  have h3 : Star w0 w (tabB p hp m kv mb :: mapB mb 0 (fun _ => none) :: CH.R hp H 128 :: tabB t.p t.hp m kv t.mb :: CH.R t.hp H 128 :: R :: (colS t.cols X ++ L)) := Y.set 1 rfl (fun F h => ⟨h.1.congr (fun kl => by
    unfold mapC
    split
    · split <;> rfl
    · rfl), h.2⟩)
  exact (((star_hz 10 h3).pull 11 rfl).pull 12 rfl).pull 12 rfl
set_option maxRecDepth 100000 in
set_option maxHeartbeats 16000000 in
theorem clone_any (Y : Star w0 w (tabL t m kv H X (natRow kv ks :: L))) (hH : H.length ≤ 1000000) (hX : ∀ k, (X k).length ≤ 1000000) (hd : ∀ k c, t.cols k = some c → k < 10) :
    Calls Tryd.prog 28 #[.pointer (some ⟨t.p, 0, none⟩)] w fun r w' => ∃ t' : Pl, (∀ k, (t'.cols k).isSome = (t.cols k).isSome) ∧ r = .returned (.pointer (some ⟨t'.p, 0, none⟩)) ∧ Star w0 w' (tabL t' m kv H X (tabL t m kv H X (natRow kv ks :: L))) := by
  obtain ⟨ka, kc, rfl, -⟩ := own_slice (Y.row 13 rfl).1
  obtain ⟨kn, hkn⟩ : ∃ kn, kn = ks.length := ⟨_, rfl⟩
  rw [← hkn] at Y ⊢
  have HKN := hid hkn
  obtain ⟨LL, hLL⟩ : ∃ LL, LL = natRow (.slice ka kn kc) ks :: L := ⟨_, rfl⟩
  rw [← hLL] at Y ⊢
  have HLL := hid hLL
  have Y0 := hid Y
  have HH := hid hH
  have HXL := hid hX
  have HD := hid hd
  have hmm := @run_makeMap Tryd.prog
  have hbk := (Y.blk 0 rfl).1
  have b0 := cell_of hbk 0
  have b1 := cell_of hbk 1
  have b2 := cell_of hbk 2
  have b3 := cell_of hbk 3
  have bl := lt_of hbk
  simp only [List.getElem?_toArray, List.getElem?_cons_zero, List.getElem?_cons_succ] at b0 b1 b2 b3
  clear Y hH hX hbk hd hkn hLL
  go_enter Tryd.func28, Tryd.ntmps28
  go_upto_region 1 with (fail)
  go_cut [3] (fun s3 wx => ∃ p hp mb : Nat, s3 = .pointer (some ⟨p, 0, none⟩) ∧ Star w0 wx (twoT p hp mb 0 (fun _ => none) t m (.slice ka kn kc) H X (mapB t.mb t.n t.cols) LL))
  case first =>
    go_region_held3 (fun w' => w'.cell? ⟨t.p, 0, none⟩ = some (.pointer (some ⟨t.hp, 0, none⟩)) ∧ w'.cell? ⟨t.p, 1, none⟩ = some (mk m) ∧ w'.cell? ⟨t.p, 2, none⟩ = some (.slice ka kn kc)) (go_keep) (first
      | (go_at_call 51; refine (CH.clone_any ((Y0.out.swap).go ((Chg.refl _).drew)) HH.out).mono ?_; rintro r w5 ⟨q, rfl, hX5⟩; have Y5 := hid hX5; have hbk := (hX5.blk 2 rfl).1; have k0 := cell_of hbk 0; have k1 := cell_of hbk 1; have k2 := cell_of hbk 2; have kl := lt_of hbk; simp only [List.getElem?_toArray, List.getElem?_cons_zero, List.getElem?_cons_succ] at k0 k1 k2; clear hX5 hbk)
      | (go_at_call 51; refine (CH.clone_any (((Y0.out.go ((Chg.refl _).drew)).mapNew Tryd.prog 3 ptrE).pull 2 rfl) HH.out).mono ?_; rintro r w5 ⟨q, rfl, hX5⟩; have Y5 := hid hX5; have hbk := (hX5.blk 3 rfl).1; have k0 := cell_of hbk 0; have k1 := cell_of hbk 1; have k2 := cell_of hbk 2; have kl := lt_of hbk; simp only [List.getElem?_toArray, List.getElem?_cons_zero, List.getElem?_cons_succ] at k0 k1 k2; clear hX5 hbk))
    all_goals
      clear b0 b1 b2 b3 bl k0 k1 k2 kl
      rename_i hHeld
      clear hHeld
      go_wp2
      go_meet
      first
        | (refine ⟨_, q, w5.heap.size, rfl, two_start ?_⟩
           have h := (Y5.out.mapNew Tryd.prog 3 ptrE).alloc #[.pointer (some ⟨q, 0, none⟩), mk m, .slice ka kn kc, .map (some w5.heap.size)] 44
           rw [show (w5.alloc (.map #[] 0)).heap.size = w5.heap.size + 1 by simp] at h
           exact (((h.pull 4 rfl).pull 3 rfl).pull 3 rfl).pull 3 rfl)
        | (refine ⟨_, q, w.heap.size, rfl, two_start ?_⟩
           have h : Star w0 w5 (CH.R q H 128 :: CH.R t.hp H 128 :: MapR Tryd.prog 3 ptrE w.heap.size 0 (fun _ => none) :: tabB t.p t.hp m (.slice ka kn kc) t.mb :: mapB t.mb t.n t.cols :: (colS t.cols X ++ LL)) := Y5.out
           have h2 := h.alloc #[.pointer (some ⟨q, 0, none⟩), mk m, .slice ka kn kc, .map (some w.heap.size)] 44
           exact ((((h2.pull 2 rfl).pull 4 rfl).pull 3 rfl).pull 4 rfl).pull 4 rfl)
  case rest =>
    obtain ⟨p, hp, mb, rfl, hX⟩ := hcut
    rename World => w2
    have Y2 := hid hX
    have hbk := (hX.blk 13 rfl).1
    have d3 := cell_of hbk 3
    have dl := lt_of hbk
    simp only [List.getElem?_toArray, List.getElem?_cons_zero, List.getElem?_cons_succ] at d3
    clear hX hbk b0 b1 b2 b3 bl Y0
    go_wp2_with (at_range; refine wpList_rangeO rfl _ rfl keyed Tryd.underlying42 rfl (Y2.out.map 15 rfl).1 ?_)
    intro w4 left cnt hR hleft hs4
    have Y4 := hid (Y2.out.rangeNew 15 rfl hR (Nat.le_refl _) hs4)
    obtain ⟨rr, hrr⟩ : ∃ rr, rr = w2.heap.size := ⟨_, rfl⟩
    rw [← hrr] at Y4 ⊢
    have HLE := hid (show ∀ k : Nat, ((none : Option Nat)).isSome = ((t.cols k).isSome && !left (.int .i64 (k : Int))) from fun k => by
      cases hc : t.cols k with
      | none => rfl
      | some c =>
        have hk := HD.out k c hc
        have h1 := hleft (.int .i64 (k : Int)) (keyed.key (keyI k (by omega) (by omega)))
        rw [mapC_nat, hc] at h1
        rw [h1]
        rfl)
    clear hR hleft hs4 hrr Y2 d3 dl
    go_wp2_with fail
    go_loopw [4] (fun _ wy => ∃ (left : Lit → Bool) (cnt n : Nat) (cols : Nat → Option Nat) (vis : List Nat), n ≤ vis.length ∧ vis.Nodup ∧ (∀ k ∈ vis, k < 10 ∧ (cols k).isSome = true) ∧ (∀ k : Nat, (cols k).isSome = ((t.cols k).isSome && !left (.int .i64 (k : Int)))) ∧ Star w0 wy (twoT p hp mb n cols t m (.slice ka kn kc) H X (RangeR Tryd.prog 3 ptrE t.mb rr t.n (mapC t.cols) left cnt) LL)) (fun _ wy => wy.rangeLeft t.mb rr)
    case atStart => exact ⟨left, cnt, 0, fun _ => none, [], by simp, List.nodup_nil, by simp, HLE.out, Y4.out⟩
    case round =>
      obtain ⟨left, cnt, n, cols, vis, hnv, hnd, hvis, hdom, hY⟩ := hrel
      rename World => wz
      have YA := hid hY
      have hR := hY.range 15 rfl
      have HN := hid hnv
      have HND := hid hnd
      have HV := hid hvis
      have HDM := hid hdom
      clear hY Y4 hnv hnd hvis hdom
      go_wp2_with (at_next; refine wpList_nextO rfl _ rfl keyed rfl hR ?_ ?_)
      · intro hdone
        have hY6 := YA.out.rangeEnd 15 rfl
        have Y6 := hid hY6
        have HD6 := hid (show ∀ k : Nat, (cols k).isSome = (t.cols k).isSome from fun k => by rw [HDM.out k, hdone]; simp)
        clear hR hY6 YA hdone
        go_wp2
        go_ret
        exact ⟨⟨p, hp, mb, n, cols⟩, HD6.out, rfl, Y6.out⟩
      · intro x v kl w6 cnt' hk hlk hy' hR' hlt hc hen
        obtain ⟨c, hkc, rfl⟩ := hy'
        obtain ⟨k, rfl, hcc⟩ := mapC_some hkc
        have hk10 := HD.out k c hcc
        have hY6 := YA.out.rangeSet 15 rfl hR' hc
        have CX := hid (two_first hk10 hcc hY6)
        have KY := hid hk
        have HCC := hid hcc
        have HNO := hid (show (cols k).isSome = false by rw [HDM.out k, hlk]; simp)
        have HST := hid (show ∀ q j : Nat, (updX cols k (some q) j).isSome = ((t.cols j).isSome && !strike left (.int .i64 (k : Int)) (.int .i64 (j : Int))) from fun q j => by
          by_cases e : j = k
          · subst e
            rw [updX_same, strike_same left (keyed.key hk), hcc]
            rfl
          · rw [updX_other _ _ e, strike_other left (by simp only [ne_eq, Lit.int.injEq, true_and]; omega)]
            exact HDM.out j)
        have hv10 : vis.length ≤ 10 := nodup_ten 10 HND.out (fun a ha => (HV.out a ha).1)
        have HNB := hid (show n < 9223372036854775807 by have := HN.out; omega)
        have hbk := (hY6.blk 0 rfl).1
        have d3 := cell_of hbk 3
        have dl := lt_of hbk
        simp only [List.getElem?_toArray, List.getElem?_cons_zero, List.getElem?_cons_succ] at d3
        have LT := hid hlt
        have RC := hid hR.cnt
        clear hR hR' hlt hc hk hkc hlk YA hY6 hbk hv10
        have hen' : Sem.run Tryd.prog (Instr.entry (.pointer (some ⟨rr, 0, none⟩))) w6 = .ok (.tuple #[x, .pointer (some ⟨c, 0, none⟩)]) w6 := hen
        clear hen
        go_wp2_with fail
        clear hen'
        go_region_with (go_at_call 52; refine (CV.clone_any (CX.out.go ((Chg.refl _).drew)) (HXL.out k)).mono ?_; rintro r w5 ⟨q, rfl, hX5⟩; have hX6 := two_back hk10 HCC.out hX5; have hbk := (hX6.blk 1 rfl).1; have d3 := cell_of hbk 3; have dl := lt_of hbk; simp only [List.getElem?_toArray, List.getElem?_cons_zero, List.getElem?_cons_succ] at d3; have h5 := (hX6.map 3 rfl).1; obtain ⟨w9, hrun0, hM, hC⟩ := h5.store keyed Tryd.underlying42 HNB.out KY.out q; have hrun := (show (Instr.mapUpdate 42 (.map (some mb)) x (.pointer (some ⟨q, 0, none⟩))).run Tryd.prog w5 = .ok () w9 from hrun0); have X9 := hid (hX6.mapSet 3 rfl hM hC); clear hbk hX5 hX6 h5 hM hC hrun0)
        all_goals
          have h1 : Star w0 w9 (CV.R q (X k) 128 :: tabB p hp m (.slice ka kn kc) mb :: CH.R hp H 128 :: mapB mb (if (mapC cols (.int .i64 (k : Int))).isSome then n else n + 1) (updX cols k (some q)) :: (colS cols X ++ (tabB t.p t.hp m (.slice ka kn kc) t.mb :: CH.R t.hp H 128 :: RangeR Tryd.prog 3 ptrE t.mb rr t.n (mapC t.cols) (strike left (.int .i64 (k : Int))) cnt' :: (colS t.cols X ++ LL)))) := X9.out.set 3 rfl (fun F h => ⟨h.1.congr (mapC_upd cols k (some q)), h.2⟩)
          have h2 := colPut hk10 h1
          rw [updX_self] at h2
          have XA := hid h2
          have RC7 := hid (h2.range 15 rfl).cnt
          have hnv : k ∉ vis := fun hm => by
            have h3 := (HV.out k hm).2
            rw [HNO.out] at h3
            cases h3
          have HVN := hid hnv
          clear h1 h2 hnv X9 hrun d3 dl CX
          go_wp2
          go_roundw
          case rel =>
            refine ⟨_, cnt', _, updX cols k (some q), k :: vis, ?_, List.nodup_cons.2 ⟨HVN.out, HND.out⟩, fun j hj => ?_, HST.out q, XA.out⟩
            · have := HN.out
              simp only [List.length_cons]
              split <;> omega
            · rcases List.mem_cons.1 hj with rfl | hj
              · exact ⟨hk10, by rw [updX_same]; rfl⟩
              · refine ⟨(HV.out j hj).1, ?_⟩
                by_cases e : j = k
                · subst e
                  rw [updX_same]
                  rfl
                · rw [updX_other _ _ e]
                  exact (HV.out j hj).2
          case measure => rw [RC.out, RC7.out]; exact LT.out
end
end Go.Proofs.YtegcnkcjmebheaaDoor.Tab
