/-
  Package jump: along and Expand, by their contracts.
-/
import Derived.Test.YtdihnjhbopogoaaDoorExpP
import Derived.Test.YtdihnjhbopogoaaDoorStepGo
import Derived.Test.YtdihnjhbopogoaaDoorRouteCosts
import Derived.Test.YtdihnjhbopogoaaDoorErr
namespace Go.Proofs.YtdihnjhbopogoaaDoor.Jmp
open Go Go.RowKit Go.Proofs.YtdihnjhbopogoaaDoor.Steps Go.Proofs.YtdihnjhbopogoaaDoor.Route Go.Proofs.YtdihnjhbopogoaaDoor.Err
/-- What along answers. -/
def alongA (w w' : World) (r : Ending) : Option (List Nat) → Prop
  | some m => ∃ v, r = .returned (.tuple #[v, .bool true]) ∧ Star w w' [Row 3 1 v m.length (gC m)]
  | none => r = .returned (.tuple #[.slice none 0 0, .bool false]) ∧ Same w w'
section
variable {w : World} {p pg pc : Nat} {G : Gr}
set_option maxRecDepth 100000 in
set_option maxHeartbeats 8000000 in
theorem along_any (hG : Gnd 93 w p pg pc G) (a b : Nat) (ha : a < G.fs.length) :
    Calls Tryd.prog 40 #[.pointer (some ⟨p, 0, none⟩), .int .i64 a, .int .i64 b] w fun r w' => alongA w w' r (G.along a b) := by
  obtain ⟨i0, hi0, hz0, hz1, hz2⟩ := info_parts infoInt
  have H := hid hG
  have HA := hid ha
  obtain ⟨x, hx⟩ : ∃ x, x = G.along a b := ⟨_, rfl⟩
  rw [← hx]
  have HX := hid hx
  have X0 := hid (Star.new w)
  clear hG hx ha
  go_enter Tryd.func40, Tryd.ntmps40
  go_wp2_with fail
  go_loopw [13] (fun dv wr => ∃ d : Nat, d ≤ 8 ∧ dv = .int .i64 d ∧ (∀ e, e < d → G.alongD a b e = none) ∧ Star w wr []) (fun dv _ => 8 - (intOf dv).toNat)
  case atStart => exact ⟨0, by omega, rfl, fun e he => by omega, X0.out⟩
  case round =>
    obtain ⟨d, hd, rfl, hno, hX⟩ := hrel
    have HNO := hid hno
    have X1 := hid hX
    clear hno hX X0
    by_cases hd8 : d < 8
    · have X2 := hid (X1.out.nilRow 3 1)
      clear X1
      go_wp2_with fail
      go_loopw [9, 10] (fun ov tv wx => ∃ (t : Nat) (acc : List Nat), tv = .int .i64 t ∧ G.alongD a b d = (upto b (G.ray t d)).map (acc ++ ·) ∧ acc.length + G.room t d ≤ 31 ∧ Star w wx [Row 3 1 ov acc.length (gC acc)]) (fun _ tv _ => G.room (intOf tv).toNat d)
      case atStart => exact ⟨a, [], rfl, by unfold Gr.alongD; cases upto b (G.ray a d) <;> simp, by simpa using Gr.room_in H.out.ok HA.out d, X2.out⟩
      case round =>
        obtain ⟨t, acc, rfl, hal, hrm, hX⟩ := hrel
        have X3 := hid hX
        have HAL := hid hal
        obtain ⟨oa, oc, rfl, -⟩ := own_slice (hX.row 0 rfl).1
        have H3 := hid (H.out.same hX.same)
        clear hal hX X2
        go_wp2_with fail
        refine (go_any H3.out t d).mono ?_
        rintro r w4 ⟨rfl, hs4⟩
        rw [Gr.goI_nat]
        have X4 := hid (X3.out.go hs4)
        clear hs4 X3 H3
        cases hgo : G.go t d with
        | none =>
          have HN := hid (show G.alongD a b d = none by rw [HAL.out, Gr.ray_none hgo]; rfl)
          unfold goV
          clear hgo
          go_wp2
          go_roundw
          case rel =>
            refine ⟨d + 1, by omega, by go_num, fun e he => ?_, (X4.out.alloc _ _).drop.drop⟩
            by_cases h : e = d
            · subst h; exact HN.out
            · exact HNO.out e (by omega)
          case measure => simp [intOf]; omega
        | some q =>
          obtain ⟨u, k⟩ := q
          have hroom := Gr.go_room H.out.ok hgo
          have HAL2 := hid (show G.alongD a b d = (upto b (u :: G.ray u d)).map (acc ++ ·) by rw [HAL.out, Gr.ray_go H.out.ok hgo])
          obtain ⟨m, hm⟩ : ∃ m, m = acc.length := ⟨_, rfl⟩
          have HM := hid hm
          rw [← hm] at hrm X4 ⊢
          have XD := hid ((X4.out.alloc #[.int .i64 d, .int .i64 u, .int .i64 k] 37).alloc #[.int .i64 u] 3)
          rw [World.size_alloc] at XD
          unfold goV
          clear hgo X4 hm HAL
          by_cases hub : u = b
          · subst hub
            have HN := hid (show x = some (acc ++ [u]) by
              rw [HX.out, Gr.along_at hd8 HNO.out (by rw [HAL2.out]; unfold upto; rw [if_pos rfl]; rfl)])
            go_wp2_with (at_builtin; refine wpList_app rfl (.tmp 28) (.tmp 30) 24 rfl 3 i0 (.int .i64 0) 1 8 Tryd.underlying24 hi0 hz0 hz1 hz2 rfl (by decide) _ m (gC acc) rfl (XD.out.row 2 rfl).1 (some ⟨w4.heap.size + 1, 0, none⟩) 1 1 [.int .i64 u] rfl (reads_blk (XD.out.blk 0 rfl).1 1 1 1 rfl) (by simp [Value.oneCell']) (by omega) (by omega) ?_; intro a5 c5 w5 ho5 hg5 hn5; have X5 := hid ((XD.out.grown 2 rfl ho5 hg5 hn5).drop).drop; clear ho5 hg5 hn5)
            go_ret2
            rw [HN.out]
            refine ⟨_, rfl, ?_⟩
            rw [List.length_append, List.length_singleton, ← HM.out, show gC (acc ++ [u]) = gC acc ++ [.int .i64 u] by simp [gC]]
            exact X5
          · have HN := hid (show G.alongD a b d = (upto b (G.ray u d)).map ((acc ++ [u]) ++ ·) by
              rw [HAL2.out]
              conv => lhs; unfold upto
              rw [if_neg hub]
              cases upto b (G.ray u d) <;> simp)
            have hbb : ((u : Int) == (b : Int)) = false := by rw [beq_eq_false_iff_ne]; omega
            clear hub
            go_wp2_with (at_builtin; refine wpList_app rfl (.tmp 28) (.tmp 30) 24 rfl 3 i0 (.int .i64 0) 1 8 Tryd.underlying24 hi0 hz0 hz1 hz2 rfl (by decide) _ m (gC acc) rfl (XD.out.row 2 rfl).1 (some ⟨w4.heap.size + 1, 0, none⟩) 1 1 [.int .i64 u] rfl (reads_blk (XD.out.blk 0 rfl).1 1 1 1 rfl) (by simp [Value.oneCell']) (by omega) (by omega) ?_; intro a5 c5 w5 ho5 hg5 hn5; have X5 := hid ((XD.out.grown 2 rfl ho5 hg5 hn5).drop.drop); clear ho5 hg5 hn5)
            go_roundw
            case rel =>
              have hrel : ∃ (t : Nat) (acc' : List Nat), Value.int .i64 (u : Int) = .int .i64 t ∧ G.alongD a b d = (upto b (G.ray t d)).map (acc' ++ ·) ∧ acc'.length + G.room t d ≤ 31 ∧ Star w w5 [Row 3 1 (.slice a5 (m + 1) c5) acc'.length (gC acc')] := by
                refine ⟨u, acc ++ [u], rfl, HN.out, by rw [List.length_append, List.length_singleton, ← HM.out]; omega, ?_⟩
                rw [List.length_append, List.length_singleton, ← HM.out, show gC (acc ++ [u]) = gC acc ++ [.int .i64 u] by simp [gC]]
                exact X5.out
              obtain ⟨t', acc', e1, e2, e3, e4⟩ := hrel
              exact ⟨_, _, _, _, ⟨t', e1, acc', e2, e3, e4⟩, rfl, rfl, rfl, rfl⟩
            case measure => simp [intOf]; omega
    · have HN := hid (show x = none by rw [HX.out]; exact Gr.along_no (fun e he => HNO.out e (by omega)))
      go_wp2
      go_ret2
      rw [HN.out]
      exact ⟨rfl, X1.out.same⟩

/-- The errors that jumps need. -/
structure _root_.Go.Proofs.YtdihnjhbopogoaaDoor.Err.ErrsJ (w : World) (ad : Nat → Addr) : Prop where
  c0 : w.cell? ⟨1, 0, none⟩ = some (.iface 137 (.pointer (some (ad 0))))
  c2 : w.cell? ⟨0, 0, none⟩ = some (.iface 137 (.pointer (some (ad 2))))
  c6 : w.cell? ⟨7, 0, none⟩ = some (.iface 137 (.pointer (some (ad 6))))
  c8 : w.cell? ⟨2, 0, none⟩ = some (.iface 137 (.pointer (some (ad 8))))
theorem _root_.Go.Proofs.YtdihnjhbopogoaaDoor.Err.ErrsJ.same {w w' : World} {ad : Nat → Addr} (h : ErrsJ w ad) (hs : Same w w') : ErrsJ w' ad := ⟨hs.keep h.c0, hs.keep h.c2, hs.keep h.c6, hs.keep h.c8⟩
section
variable {w : World} {p g c B : Nat} {G : Gr}
set_option maxRecDepth 100000 in
theorem notFree2 (h : Gnd 93 w p g c G) (hB : w.cell? ⟨B, 0, none⟩ = some (.pointer (some ⟨p, 0, none⟩))) (t : Int) : Calls Tryd.prog 39 #[.int .i64 t, .pointer (some ⟨B, 0, none⟩)] w fun r w' => r = .returned (.bool (!G.freeI t)) ∧ w = w' := by
  have H := hid h
  clear h
  go_enter Tryd.func39, Tryd.ntmps39
  go_wp2_with fail
  refine (free_any H.out t).mono ?_
  rintro r w' ⟨rfl, rfl⟩
  go_wp2
  go_ret
  exact ⟨rfl, rfl⟩
set_option maxRecDepth 100000 in
set_option maxHeartbeats 1000000 in
theorem idxFree2 (h : Gnd 93 w p g c G) (hB : w.cell? ⟨B, 0, none⟩ = some (.pointer (some ⟨p, 0, none⟩))) (v : Value) (xs : List Int) (hr : Ints w v xs) (hall : ∀ x ∈ xs, G.has x = true) (hx : xs.length ≤ 1000000) :
    Calls Tryd.prog 64 #[v, .func (.func 39) #[] #[.pointer (some ⟨B, 0, none⟩)]] w fun r w' => ∃ k : Int, r = .returned (.int .i64 k) ∧ decide (0 ≤ k) = xs.any (fun t => !G.free t.toNat) ∧ w = w' := by
  obtain ⟨a, cp, rfl⟩ := hr.slice
  have HR := hid hr
  have H := hid h
  have HA := hid hall
  obtain ⟨n, hn⟩ : ∃ n, n = xs.length := ⟨_, rfl⟩
  rw [← hn] at hx
  simp only [← hn] at HR ⊢
  have HN := hid hn
  have HB := hid hB
  clear hr h hall hn hB
  go_enter Tryd.func64, Tryd.ntmps64
  go_wp2
  go_loopw [8] (fun iv wr => ∃ k : Nat, k ≤ n ∧ iv = .int .i64 k ∧ w = wr ∧ ∀ x ∈ xs.take k, G.free x.toNat = true) (fun iv _ => n - (intOf iv).toNat)
  case atStart => exact ⟨0, by omega, rfl, rfl, by simp⟩
  case round =>
    obtain ⟨k, hk, rfl, rfl, hA⟩ := hrel
    have HK := hid hA
    clear hA
    by_cases hkn : k < n
    · obtain ⟨b, off, cap, e1, hb, hcl⟩ := HR.out.open (by have := HN.out; omega)
      cases e1
      have hkx : k < xs.length := by have := HN.out; omega
      have hg := hcl k (.int .i64 xs[k]) (by simp [hkx])
      have hh := HA.out xs[k] (List.getElem_mem hkx)
      have hh2 : 0 ≤ xs[k] ∧ xs[k] < G.fs.length := of_decide_eq_true hh
      obtain ⟨t, ht⟩ := Int.eq_ofNat_of_zero_le hh2.1
      have hts : ∀ x ∈ xs.take (k + 1), x ∈ xs.take k ∨ x = t := by
        intro x hx
        rw [List.take_succ_eq_append_getElem hkx, List.mem_append] at hx
        rcases hx with hx | hx
        · exact .inl hx
        · simp at hx; exact .inr (by rw [hx, ht])
      have hmem : (t : Int) ∈ xs := by rw [← ht]; exact List.getElem_mem hkx
      have HTS := hid hts
      have HM := hid hmem
      have htl : t < G.fs.length := by omega
      rw [ht] at hg
      clear hcl hh hh2 ht hts hmem
      go_wp2_with fail
      refine (notFree2 H.out HB.out t).mono ?_
      rintro r w' ⟨rfl, rfl⟩
      rw [Gr.freeI_nat]
      cases hf : G.free t with
      | true =>
        go_wp2
        go_roundw
        case rel =>
          refine ⟨k + 1, by omega, by go_num, (by first | rfl | trivial), fun x hx => ?_⟩
          rcases HTS.out x hx with h | h
          · exact HK.out x h
          · rw [h, Int.toNat_natCast]; exact hf
        case measure => simp [intOf]; omega
      | false =>
        go_wp2
        go_ret
        refine ⟨_, rfl, ?_, rfl⟩
        rw [decide_eq_true (by omega), eq_comm, List.any_eq_true]
        exact ⟨_, HM.out, by rw [Int.toNat_natCast, hf]; rfl⟩
    · go_wp2
      go_ret
      refine ⟨_, rfl, ?_, rfl⟩
      rw [decide_eq_false (by omega), eq_comm, List.any_eq_false]
      intro x hx
      rw [HK.out x (by rw [List.take_of_length_le (by have := HN.out; omega)]; exact hx)]
      simp
set_option maxRecDepth 100000 in
theorem anyBlocked2 (h : Gnd 93 w p g c G) (hB : w.cell? ⟨B, 0, none⟩ = some (.pointer (some ⟨p, 0, none⟩))) (v : Value) (xs : List Int) (hr : Ints w v xs) (hall : ∀ x ∈ xs, G.has x = true) (hx : xs.length ≤ 1000000) :
    Calls Tryd.prog 38 #[v, .func (.func 39) #[] #[.pointer (some ⟨B, 0, none⟩)]] w fun r w' => r = .returned (.bool (xs.any (fun t => !G.free t.toNat))) ∧ w = w' := by
  have H := hid (idxFree2 h hB v xs hr hall hx)
  obtain ⟨y, hy⟩ : ∃ y, xs.any (fun t => !G.free t.toNat) = y := ⟨_, rfl⟩
  rw [hy]
  have HY := hid hy
  clear h hB hr hall hy
  go_enter Tryd.func38, Tryd.ntmps38
  go_wp2_with fail
  refine H.out.mono ?_
  rintro r w' ⟨k, rfl, hk, rfl⟩
  have HK := hid hk
  clear hk
  go_wp2
  go_ret
  exact ⟨ret_bool (HK.out.trans HY.out), rfl⟩
end
/-- What Expand answers. -/
def expandA (ad : Nat → Addr) (w w' : World) (r : Ending) (z : Option (List Nat) × Int) : Prop :=
  match z.1 with
  | some l => ∃ v, r = .returned (.tuple #[v, errV ad z.2.toNat]) ∧ Star w w' [Row 3 1 v l.length (gC l)]
  | none => r = .returned (.tuple #[.slice none 0 0, errV ad z.2.toNat]) ∧ Same w w'
theorem expT_step {G : Gr} {ns acc : List Nat} {k a d : Nat} (ha : ns[k]? = some a) (hd : ns[k + 1]? = some d) (h : G.expT ns = (G.expT (ns.drop k)).map (acc ++ ·)) : G.expT ns = (G.along a d).bind fun m => (G.expT (ns.drop (k + 1))).map ((acc ++ m) ++ ·) := by
  obtain ⟨h1, h2⟩ := List.getElem?_eq_some_iff.1 ha
  obtain ⟨h3, h4⟩ := List.getElem?_eq_some_iff.1 hd
  rw [h, List.drop_eq_getElem_cons h1, h2, List.drop_eq_getElem_cons h3, h4]
  simp only [Gr.expT]
  cases G.along a d with
  | none => rfl
  | some m =>
    simp only [Option.bind_some]
    cases G.expT (d :: ns.drop (k + 1 + 1)) <;> simp
theorem expT_end {G : Gr} {ns acc : List Nat} {k : Nat} (hk : k + 1 = ns.length) (h : G.expT ns = (G.expT (ns.drop k)).map (acc ++ ·)) : G.expT ns = some acc := by
  have hl : k < ns.length := by omega
  rw [h, List.drop_eq_getElem_cons hl, List.drop_eq_nil_of_le (by omega)]
  simp [Gr.expT]
set_option maxRecDepth 100000 in
set_option maxHeartbeats 8000000 in
theorem expand_any (h : Gnd 93 w p pg pc G) (a : Option Addr) (m cp : Nat) (xs : List Int) (hr : Ints w (.slice a m cp) xs) (hcap : m ≤ cp) (hx : xs.length ≤ 100000) (ad : Nat → Addr) (hE : ErrsJ w ad) :
    Calls Tryd.prog 14 #[.pointer (some ⟨p, 0, none⟩), .slice a m cp] w fun r w' => expandA ad w w' r (G.expand xs) := by
  obtain ⟨i0, hi0, hz0, hz1, hz2⟩ := info_parts infoInt
  obtain rfl : m = xs.length := by obtain ⟨_, _, e⟩ := hr.slice; cases e; rfl
  have HR := hid hr
  have H := hid h
  have HE := hid hE
  obtain ⟨z, hz⟩ : ∃ z, z = G.expand xs := ⟨_, rfl⟩
  rw [← hz]
  have HZ := hid hz
  clear hr h hE hz
  have X0 := hid ((Star.new w).alloc #[.pointer (some ⟨p, 0, none⟩)] 28)
  by_cases h0 : xs.length = 0
  · have hx0 : xs = [] := List.eq_nil_of_length_eq_zero h0
    subst hx0
    have e3 := (HE.out.same X0.out.same).c2
    go_enter Tryd.func14, Tryd.ntmps14
    go_wp2
    go_quiet (fail)
    go_wp2
    go_ret2
    rw [HZ.out]
    exact ⟨rfl, X0.out.same.drewN _⟩
  · obtain ⟨n, hn⟩ : ∃ n, n = xs.length := ⟨_, rfl⟩
    have HN := hid hn
    have HNE := hid (show xs ≠ [] from fun e => h0 (by rw [e]; rfl))
    obtain ⟨b, off, cap, e1, hb, hcl⟩ := HR.out.cells (by omega)
    cases e1
    have HC := hid hcl
    have HRN : Hid (Ints w (.slice (some ⟨b, off, none⟩) n cp) xs) := hid (by rw [HN.out]; exact HR.out)
    have hn0 : ((n : Int) == 0) = false := by rw [beq_eq_false_iff_ne]; omega
    rw [← hn] at h0 hx hcap ⊢
    clear hcl hn
    go_enter Tryd.func14, Tryd.ntmps14
    go_wp2_with fail
    generalize w.alloc _ = w1 at *
    generalize w.heap.size = q at *
    go_loopw [7, 19] (fun _ iv wr => ∃ k : Nat, k ≤ n ∧ iv = .int .i64 k ∧ Star w wr [Blk q #[.pointer (some ⟨p, 0, none⟩)] 28] ∧ ∀ x ∈ xs.take k, G.has x = true) (fun _ iv _ => n - (intOf iv).toNat)
    case atStart => exact ⟨0, by omega, rfl, X0.out, by simp⟩
    case round =>
      obtain ⟨k, hk, rfl, hX, hA⟩ := hrel
      have HK := hid hA
      have X1 := hid hX
      have hq0 := cell_of (X1.out.blk 0 rfl).1 0
      have hql := lt_of (X1.out.blk 0 rfl).1
      simp only [List.getElem?_toArray, List.getElem?_cons_zero] at hq0
      clear hA hX X0
      by_cases hkn : k < n
      · have hkx : k < xs.length := by have := HN.out; omega
        have hg := X1.out.same.keep (HC.out k hkx)
        have hgl := World.block_lt_of_cell? _ _ hg
        obtain ⟨x, hxe⟩ : ∃ x, x = xs[k] := ⟨_, rfl⟩
        have hts : xs.take (k + 1) = xs.take k ++ [x] := by rw [List.take_succ_eq_append_getElem hkx, hxe]
        have hmem : x ∈ xs := by rw [hxe]; exact List.getElem_mem hkx
        rw [← hxe] at hg
        have HTS := hid hts
        have HM := hid hmem
        clear hts hmem hxe
        have hdec : Hid ((G.has x = true ∧ 0 ≤ x ∧ x < (G.fs.length : Int)) ∨ (G.has x = false ∧ (x < 0 ∨ (0 ≤ x ∧ (G.fs.length : Int) ≤ x)))) := hid (by
          unfold Gr.has
          by_cases hh : 0 ≤ x ∧ x < (G.fs.length : Int)
          · exact .inl ⟨decide_eq_true hh, hh⟩
          · exact .inr ⟨decide_eq_false hh, by omega⟩)
        rcases hdec.out with ⟨hh, hx0, hx1⟩ | ⟨hh, hbad⟩
        · have HH := hid hh
          have hx0' : ¬ x < 0 := by omega
          have hx1' : ¬ (G.fs.length : Int) ≤ x := by omega
          clear hh
          go_wp2_with fail
          refine (len_any (H.out.same X1.out.same)).mono ?_
          rintro r w' ⟨rfl, rfl⟩
          go_wp2
          go_roundw
          case rel =>
            refine ⟨k + 1, by omega, by go_num, X1.out, fun y hy => ?_⟩
            rw [HTS.out, List.mem_append] at hy
            rcases hy with hy | hy
            · exact HK.out y hy
            · simp only [List.mem_singleton] at hy; rw [hy]; exact HH.out
          case measure => simp [intOf]; omega
        · have HA := hid (show z = (none, 1) by
            rw [HZ.out]
            unfold Gr.expand
            rw [if_neg HNE.out, if_pos]
            rw [List.all_eq_false]
            exact ⟨x, HM.out, by rw [hh]; simp⟩)
          have e0 := (HE.out.same X1.out.same).c0
          have e0l := World.block_lt_of_cell? _ _ e0
          clear hh
          rcases hbad with hx0 | ⟨hx0, hx1⟩
          · go_wp2
            go_quiet (fail)
            go_wp2
            go_ret2
            rw [HA.out]
            exact ⟨rfl, X1.out.same.drewN _⟩
          · have hx0' : ¬ x < 0 := by omega
            go_wp2_with fail
            refine (len_any (H.out.same X1.out.same)).mono ?_
            rintro r w' ⟨rfl, rfl⟩
            go_wp2
            go_quiet (fail)
            go_wp2
            go_ret2
            rw [HA.out]
            exact ⟨rfl, X1.out.same.drewN _⟩
      · have hall : ∀ x ∈ xs, G.has x = true := fun x hx => HK.out x (by rw [List.take_of_length_le (by have := HN.out; omega)]; exact hx)
        have HALL := hid hall
        clear hall
        go_wp2_with fail
        refine (anyBlocked2 (H.out.same X1.out.same) hq0 _ xs (HRN.out.same X1.out.same) HALL.out (by rw [← HN.out]; omega)).mono ?_
        rintro r w' ⟨rfl, rfl⟩
        cases hany : xs.any (fun t => !G.free t.toNat) with
        | true =>
          have e8 := (HE.out.same X1.out.same).c8
          have HA := hid (show z = (none, 9) by
            rw [HZ.out]
            unfold Gr.expand
            rw [if_neg HNE.out, if_neg (by rw [Bool.not_eq_false, List.all_eq_true]; exact HALL.out), if_pos hany])
          clear hany
          go_wp2
          go_quiet (fail)
          go_wp2
          go_ret2
          rw [HA.out]
          exact ⟨rfl, X1.out.same.drewN _⟩
        | false =>
          obtain ⟨ns, hns⟩ : ∃ ns, ns = xs.map Int.toNat := ⟨_, rfl⟩
          have HW := hid (show z = outE ns (G.expT ns) by
            rw [HZ.out, hns]
            unfold Gr.expand
            rw [if_neg HNE.out, if_neg (by rw [Bool.not_eq_false, List.all_eq_true]; exact HALL.out), if_neg (by rw [hany]; simp)])
          have hnsl : ns.length = n := by rw [hns, List.length_map, ← HN.out]
          have hnsg : ∀ (j : Nat) (hj : j < ns.length), w.cell? ⟨b, off + j, none⟩ = some (.int .i64 (ns[j] : Nat)) := by
            intro j hj
            have hjx : j < xs.length := by have := HN.out; omega
            have h1 := HC.out j hjx
            have h2 := HALL.out xs[j] (List.getElem_mem hjx)
            have h3 : 0 ≤ xs[j] ∧ xs[j] < G.fs.length := of_decide_eq_true h2
            have e : ns[j] = (xs[j]).toNat := by simp [hns]
            rw [e, h1, Int.toNat_of_nonneg h3.1]
          have hnin : ∀ (j : Nat) (u : Nat), ns[j]? = some u → u < G.fs.length := by
            intro j u hu
            rw [hns, List.getElem?_map] at hu
            obtain ⟨x, hx1, rfl⟩ := Option.map_eq_some_iff.1 hu
            have h3 : 0 ≤ x ∧ x < G.fs.length := of_decide_eq_true (HALL.out x (List.mem_of_getElem? hx1))
            omega
          have HNG := hid hnsg
          have HNL := hid hnsl
          have HIN := hid hnin
          obtain ⟨t0, ht0⟩ : ∃ t0, ns[0]? = some t0 := ⟨_, List.getElem?_eq_getElem (by omega)⟩
          have hhd := hid (show ns.headD 0 = t0 by cases ns with | nil => cases ht0 | cons y l => simpa using ht0)
          have g0 := X1.out.same.keep (HNG.out 0 (by omega))
          rw [show ns[0]'(by omega) = t0 from (List.getElem?_eq_some_iff.1 ht0).2, Nat.add_zero] at g0
          have gl0 := World.block_lt_of_cell? _ _ g0
          have X2 := hid ((X1.out.add (w' := wr.alloc (.cells #[.int .i64 t0] 3)) ((Chg.refl _).alloc _) (R := Row 3 1 (.slice (some ⟨wr.heap.size, 0, none⟩) 1 1) 1 (gC (t0 :: []))) ⟨World.ownsRow_lit wr #[.int .i64 t0] 1 (Nat.zero_le _) (by unfold maxLen; omega) rfl, rfl⟩ (fun k h => by have : wr.heap.size = k := Option.some.inj h; omega)))
          clear HC HZ HNE HN HR HRN HALL HK hns hnsl hnsg hnin hany ht0 X1
          by_cases hc1 : cp = 1
          · obtain rfl : n = 1 := by omega
            go_wp2_with fail
            go_loopw [8, 44] (fun sv iv wr2 => iv = .int .i64 0 ∧ sv = .slice (some ⟨wr.heap.size, 0, none⟩) 1 1 ∧ wr2 = wr.alloc (.cells #[.int .i64 t0] 3)) (fun _ iv _ => 1 - (intOf iv).toNat)
            case atStart => exact ⟨rfl, rfl, rfl⟩
            case round =>
              obtain ⟨rfl, rfl, rfl⟩ := hrel
              have e : G.expT ns = some [] := expT_end (k := 0) (by have := HNL.out; omega) (by rw [List.drop_zero]; simp)
              have HA := hid (show z = (some [t0], 0) by rw [HW.out, e]; unfold outE; rw [hhd.out])
              clear e
              go_wp2
              go_ret2
              rw [HA.out]
              exact ⟨_, rfl, X2.out.swap.drop⟩
          · go_wp2_with fail
            clear g0 gl0 hq0 hql
            go_loopw [8, 44] (fun sv iv wr2 => ∃ (k m : Nat) (acc : List Nat), k < n ∧ iv = .int .i64 k ∧ m = acc.length ∧ m ≤ 31 * k ∧ G.expT ns = (G.expT (ns.drop k)).map (acc ++ ·) ∧ Star w wr2 [Row 3 1 sv (m + 1) (gC (t0 :: acc)), Blk q #[.pointer (some ⟨p, 0, none⟩)] 28]) (fun _ iv _ => n - (intOf iv).toNat)
            case atStart => exact ⟨0, 0, [], by omega, rfl, rfl, by omega, by rw [List.drop_zero]; simp, X2.out⟩
            case round =>
              obtain ⟨k, m, acc, hk, rfl, hm, hmk, hex, hX⟩ := hrel
              have X3 := hid hX
              have HEX := hid hex
              have HM := hid hm
              obtain ⟨oa, oc, rfl, -⟩ := own_slice (hX.row 0 rfl).1
              have hq0 := cell_of (hX.blk 1 rfl).1 0
              have hql := lt_of (hX.blk 1 rfl).1
              simp only [List.getElem?_toArray, List.getElem?_cons_zero] at hq0
              clear hX hex X2 hm
              by_cases hkn : k < n - 1
              · have hl1 : k < ns.length := by have := HNL.out; omega
                have hl2 : k + 1 < ns.length := by have := HNL.out; omega
                have ga := X3.out.same.keep (HNG.out k hl1)
                have gb := X3.out.same.keep (HNG.out (k + 1) hl2)
                rw [show off + (k + 1) = off + 1 + k by omega] at gb
                have hka : ns[k]? = some ns[k] := List.getElem?_eq_getElem hl1
                have hkb : ns[k + 1]? = some ns[k + 1] := List.getElem?_eq_getElem hl2
                generalize ns[k] = a at *
                generalize ns[k + 1] = d at *
                have hal := HIN.out k a hka
                have HST := hid (expT_step hka hkb HEX.out)
                have hbl := World.block_lt_of_cell? _ _ ga
                obtain ⟨y, hy⟩ : ∃ y, y = G.along a d := ⟨_, rfl⟩
                have HY := hid hy
                clear hka hkb hl1 hl2 HEX hy
                go_wp2_with fail
                go_region_held3 (fun w' => w'.cell? ⟨q, 0, none⟩ = some (.pointer (some ⟨p, 0, none⟩)) ∧ w'.cell? ⟨b, off + k, none⟩ = some (.int .i64 a)) (go_keep) ((go_at_call 40; refine (along_any (H.out.same (X3.out.same.drew)) a d hal).mono ?_; intro r' w' hA; rw [← HY.out] at hA; obtain ⟨va, vb, rfl, hvb, hS4⟩ : ∃ (va : Value) (vb : Bool), r' = .returned (.tuple #[va, .bool vb]) ∧ ((vb = false ∧ va = .slice none 0 0 ∧ y = none) ∨ (vb = true ∧ ∃ mm, y = some mm ∧ Star wr.drew w' [Row 3 1 va mm.length (gC mm)])) ∧ Same wr.drew w' := (by cases y with | none => exact ⟨_, false, hA.1, .inl ⟨rfl, rfl, rfl⟩, hA.2⟩ | some mm => obtain ⟨va, h1, h2⟩ := hA; exact ⟨va, true, h1, .inr ⟨rfl, mm, rfl, h2⟩, h2.same⟩); have HVB := hid hvb; have S4 := hid (Chg.trans (S := fun _ => False) ((Chg.refl wr).drew) hS4 (fun _ _ f => f)); have ka := S4.out.keep ga; have kq := S4.out.keep hq0; clear hA hvb hS4))
                clear ka kq ga gb hq0 hql hbl
                rcases HVB.out with ⟨rfl, rfl, hyn⟩ | ⟨rfl, mm, hys, hX4⟩
                · have HA := hid (show z = (none, 9) by rw [HW.out, HST.out, ← HY.out, hyn]; rfl)
                  have e8 := (HE.out.same (X3.out.go S4.out).same).c8
                  have X5 := hid (X3.out.go S4.out).same
                  clear hyn HVB
                  go_wp2
                  go_quiet (fail)
                  go_wp2
                  go_ret2
                  rw [HA.out]
                  exact ⟨rfl, X5.out.drewN _⟩
                · have hml : mm.length ≤ 31 := Gr.along_len H.out.ok hal (by rw [← HY.out]; exact hys)
                  have HNX := hid (show G.expT ns = (G.expT (ns.drop (k + 1))).map ((acc ++ mm) ++ ·) by rw [HST.out, ← HY.out, hys]; rfl)
                  have XD := hid ((X3.out.go ((Chg.refl _).drew)).lift hX4)
                  obtain ⟨ma, mc, rfl, -⟩ := own_slice (XD.out.row 0 rfl).1
                  obtain ⟨l, hl⟩ : ∃ l, l = mm.length := ⟨_, rfl⟩
                  have HL := hid hl
                  rw [← hl] at hml XD ⊢
                  have hrd := hid (Reads.of_own (XD.out.row 0 rfl).1)
                  clear hys hX4 HVB hl X3
                  go_wp2_with (at_builtin; refine wpList_app rfl (.tmp 62) (.tmp 63) 24 rfl 3 i0 (.int .i64 0) 1 8 Tryd.underlying24 hi0 hz0 hz1 hz2 rfl (by decide) _ (m + 1) (gC (t0 :: acc)) rfl (XD.out.row 1 rfl).1 ma l mc (gC mm) rfl hrd.out (fun u hu => by unfold gC at hu; obtain ⟨_, _, rfl⟩ := List.mem_map.1 hu; rfl) (by omega) (by omega) ?_; intro a5 c5 w5 ho5 hg5 hn5; have X5 := hid (XD.out.grown 1 rfl ho5 hg5 hn5).drop; clear ho5 hg5 hn5)
                  go_roundw
                  case rel =>
                    refine ⟨k + 1, m + l, acc ++ mm, by omega, by go_num, by rw [List.length_append, ← HM.out, ← HL.out], by omega, HNX.out, ?_⟩
                    rw [show gC (t0 :: (acc ++ mm)) = gC (t0 :: acc) ++ gC mm by simp [gC], show m + l + 1 = m + 1 + l by omega]
                    exact X5.out
                  case measure => simp [intOf]; omega
              · have e : G.expT ns = some acc := expT_end (k := k) (by have := HNL.out; omega) HEX.out
                have HA := hid (show z = (some (t0 :: acc), 0) by rw [HW.out, e]; unfold outE; rw [hhd.out])
                clear e
                go_wp2
                go_ret2
                rw [HA.out]
                exact ⟨_, rfl, by rw [List.length_cons, ← HM.out]; exact X3.out.swap.drop⟩
end
end Go.Proofs.YtdihnjhbopogoaaDoor.Jmp
