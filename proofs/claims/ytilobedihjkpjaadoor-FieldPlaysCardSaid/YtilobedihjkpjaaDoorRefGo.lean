/-
  paddockref16's steps, by their contract.
-/
import Derived.Test.YtilobedihjkpjaaDoorRefIs
namespace Go.Proofs.YtilobedihjkpjaaDoor.Steps
open Go Go.RowKit

/-- The model's answer. -/
def refV : Option (Nat × Int) → Value
  | some (u, c) => .tuple #[.int .i64 u, .int .i64 c]
  | none => .tuple #[.int .i64 (-1), .int .i64 0]
section
variable {w : World} {p g c : Nat} {G : Gr}
theorem go_ref (h : G.Ok) (t d : Nat) (hf : G.free t = true) (hd : d < 8) : G.go t d = if G.isF (G.X t + dxOf d) (G.Y t + dyOf d) = false then none else if dxOf d = 0 ∨ dyOf d = 0 then some ((G.at' (G.X t + dxOf d) (G.Y t + dyOf d)).toNat, 10) else if G.isF (G.X t + dxOf d) (G.Y t) = false ∨ G.isF (G.X t) (G.Y t + dyOf d) = false then none else some ((G.at' (G.X t + dxOf d) (G.Y t + dyOf d)).toNat, 14) := by
  have hp : d % 2 = 0 ↔ (dxOf d = 0 ∨ dyOf d = 0) := by
    have : d = 0 ∨ d = 1 ∨ d = 2 ∨ d = 3 ∨ d = 4 ∨ d = 5 ∨ d = 6 ∨ d = 7 := by omega
    rcases this with rfl | rfl | rfl | rfl | rfl | rfl | rfl | rfl <;> simp [dxOf, dyOf]
  unfold Gr.go
  cases hF : G.isF (G.X t + dxOf d) (G.Y t + dyOf d) with
  | false => simp
  | true =>
    rw [if_pos ⟨hf, hd, rfl⟩]
    simp only [Bool.true_eq_false, if_false]
    by_cases he : d % 2 = 0
    · rw [if_pos he, if_pos (hp.1 he)]
    · rw [if_neg he, if_neg (fun hh => he (hp.2 hh))]
      cases G.isF (G.X t + dxOf d) (G.Y t) <;> cases G.isF (G.X t) (G.Y t + dyOf d) <;> simp
theorem at_val (h : G.Ok) {t d : Nat} (hF : G.isF (G.X t + dxOf d) (G.Y t + dyOf d) = true) : (t : Int) + dxOf d + dyOf d * (G.W : Int) = ((G.at' (G.X t + dxOf d) (G.Y t + dyOf d)).toNat : Int) ∧ (G.at' (G.X t + dxOf d) (G.Y t + dyOf d)).toNat < G.fs.length := by
  rw [Gr.isF_iff] at hF
  have h1 := Gr.at_lt h hF.1 hF.2.1 hF.2.2.1 hF.2.2.2.1
  have h2 := (Gr.XY h t).2.2.2
  refine ⟨?_, by omega⟩
  rw [Int.toNat_of_nonneg h1.1]
  unfold Gr.at' at h2 ⊢
  rw [Int.add_mul]
  omega

set_option maxRecDepth 100000 in
set_option maxHeartbeats 8000000 in
theorem rgo_any (h : Gnd 76 w p g c G) (t d : Int) : Calls Tryd.prog 80 #[.pointer (some ⟨p, 0, none⟩), .int .i64 t, .int .i64 d] w fun r w' => r = .returned (refV (G.goI t d)) ∧ Same w w' := by
  have H := hid h
  have hl := h.ok.max
  have hw1 := h.ok.w1
  have hw2 := h.ok.w2
  obtain ⟨x, hx⟩ : ∃ x, x = G.goI t d := ⟨_, rfl⟩
  rw [← hx]
  have HX := hid hx
  have c2 := h.c2
  clear hx h
  go_enter Tryd.func80, Tryd.ntmps80
  go_wp2_with fail
  refine (rhas_any H.out t).mono ?_
  rintro r w' ⟨rfl, rfl⟩
  cases hh : G.has t with
  | false =>
    have HF := hid (Gr.goI_free (G := G) (t := t) (d := d) (by unfold Gr.freeI; rw [hh]; rfl))
    go_wp2
    go_ret2
    exact ⟨by rw [HX.out, HF.out]; rfl, Chg.refl _⟩
  | true =>
    have ht2 : 0 ≤ t ∧ t < G.fs.length := of_decide_eq_true hh
    obtain ⟨t, rfl⟩ := Int.eq_ofNat_of_zero_le ht2.1
    have ht : t < G.fs.length := by omega
    have hg := H.out.get t ht
    clear hh ht2
    cases hf : G.free t with
    | false =>
      rw [hf] at hg
      have HF := hid (Gr.goI_free (G := G) (t := t) (d := d) (by rw [Gr.freeI_nat, hf]))
      go_wp2
      go_ret2
      exact ⟨by rw [HX.out, HF.out]; rfl, Chg.refl _⟩
    | true =>
      rw [hf] at hg
      by_cases d0 : 0 ≤ d
      · by_cases d8 : d < 8
        · obtain ⟨d, rfl⟩ := Int.eq_ofNat_of_zero_le d0
          have hd : d < 8 := by omega
          have hgo := go_ref H.out.ok t d hf hd
          rw [Gr.goI_nat, hgo] at HX
          have HAV := hid (fun hF => at_val (d := d) (t := t) H.out.ok hF)
          clear hf hgo
          go_wp2_with fail
          refine (way_any w d hd).mono ?_
          rintro r w' ⟨rfl, rfl⟩
          have c0 := H.out.c0
          have hX : (t : Int).tmod (G.W : Int) = G.X t := (Int.ofNat_tmod t G.W).symm
          have hY : (t : Int).tdiv (G.W : Int) = G.Y t := (Int.ofNat_tdiv t G.W).symm
          obtain ⟨x1, x2, x3, -⟩ := Gr.XY H.out.ok t
          have x4 := Gr.Yin H.out.ok ht
          have hh2 := H.out.ok.h2
          obtain ⟨d1, d2, -, -⟩ := dir_abs hd
          have hmb : -32 ≤ dyOf d * (G.W : Int) ∧ dyOf d * (G.W : Int) ≤ 32 := by
            have : dyOf d = -1 ∨ dyOf d = 0 ∨ dyOf d = 1 := by omega
            rcases this with e | e | e <;> rw [e] <;> omega
          generalize dxOf d = dx at *
          generalize dyOf d = dy at *
          go_wp2_with fail
          go_quiet (fail)
          have S1 := hid (show Same w (w.drewN nq) from (Chg.refl _).drewN _)
          have H1 := hid (H.out.same S1.out)
          clear c0 c2 hg hX hY H
          generalize w.drewN nq = w1 at *
          generalize G.X t = tx at *
          generalize G.Y t = ty at *
          go_wp2_with fail
          refine (is_any H1.out (tx + dx) (ty + dy)).mono ?_
          rintro r w2 ⟨rfl, hs2⟩
          have S2 := hid (S1.out.trans hs2 (fun _ _ f => f))
          have H2 := hid (H1.out.same hs2)
          have c0 := H2.out.c0
          clear hs2 S1 H1
          cases hF : G.isF (tx + dx) (ty + dy) with
          | false =>
            rw [hF, if_pos rfl] at HX
            go_wp2
            go_ret2
            exact ⟨by rw [HX.out]; rfl, S2.out⟩
          | true =>
            rw [hF, if_neg (by simp)] at HX
            obtain ⟨hval, hul⟩ := HAV.out hF
            generalize (G.at' (tx + dx) (ty + dy)).toNat = u at *
            have hwa : IntKind.i64.wrap ((t : Int) + dx) = (t : Int) + dx := IntWalk.i64_in _ (by omega)
            have hwb : IntKind.i64.wrap (dy * (G.W : Int)) = dy * (G.W : Int) := IntWalk.i64_in _ (by omega)
            have hwc : IntKind.i64.wrap (u : Int) = (u : Int) := IntWalk.i64_in _ (by omega)
            clear HAV hF
            by_cases z1 : dx = 0
            · rw [if_pos (.inl z1)] at HX
              have y1 : (dx == 0) = true := by simpa using z1
              clear z1
              go_wp2
              go_ret2
              exact ⟨by rw [HX.out]; rfl, S2.out⟩
            · have y1 : (dx == 0) = false := by simpa using z1
              by_cases z2 : dy = 0
              · rw [if_pos (.inr z2)] at HX
                have y2 : (dy == 0) = true := by simpa using z2
                clear z2 z1
                go_wp2
                go_ret2
                exact ⟨by rw [HX.out]; rfl, S2.out⟩
              · rw [if_neg (by rintro (h | h); exact z1 h; exact z2 h)] at HX
                have y2 : (dy == 0) = false := by simpa using z2
                go_wp2_with fail
                refine (is_any H2.out (tx + dx) ty).mono ?_
                rintro r w3 ⟨rfl, hs3⟩
                have S3 := hid (S2.out.trans hs3 (fun _ _ f => f))
                have H3 := hid (H2.out.same hs3)
                clear hs3 S2 H2 c0
                have c0 := H3.out.c0
                cases ha : G.isF (tx + dx) ty with
                | false =>
                  rw [ha, if_pos (.inl rfl)] at HX
                  go_wp2
                  go_ret2
                  exact ⟨by rw [HX.out]; rfl, S3.out⟩
                | true =>
                  go_wp2_with fail
                  refine (is_any H3.out tx (ty + dy)).mono ?_
                  rintro r w4 ⟨rfl, hs4⟩
                  have S4 := hid (S3.out.trans hs4 (fun _ _ f => f))
                  have H4 := hid (H3.out.same hs4)
                  clear hs4 S3 H3 c0
                  have c0 := H4.out.c0
                  cases hb : G.isF tx (ty + dy) with
                  | false =>
                    rw [ha, hb, if_pos (.inr rfl)] at HX
                    go_wp2
                    go_ret2
                    exact ⟨by rw [HX.out]; rfl, S4.out⟩
                  | true =>
                    rw [ha, hb, if_neg (by simp)] at HX
                    go_wp2
                    go_ret2
                    exact ⟨by rw [HX.out]; rfl, S4.out⟩
        · have HF := hid (Gr.goI_dir (G := G) (t := t) (d := d) (by omega))
          go_wp2
          go_ret2
          exact ⟨by rw [HX.out, HF.out]; rfl, Chg.refl _⟩
      · have HF := hid (Gr.goI_dir (G := G) (t := t) (d := d) (by omega))
        go_wp2
        go_ret2
        exact ⟨by rw [HX.out, HF.out]; rfl, Chg.refl _⟩
end
end Go.Proofs.YtilobedihjkpjaaDoor.Steps
