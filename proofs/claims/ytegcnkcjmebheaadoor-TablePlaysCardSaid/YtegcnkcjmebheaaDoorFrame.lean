/-
  What every law's frame needs: its arguments read behind the call as before it; the answer is true.
-/
import Derived.Test.YtegcnkcjmebheaaDoorCards
import Derived.Test.YtegcnkcjmebheaaDoorTie
import Derived.Test.YtegcnkcjmebheaaDoorLib
import Derived.ProofKit
import Derived.OpenShut
import Derived.SliceStrings
import Derived.SizedLaws
import Derived.LaidMore
import Derived.Stop.Joined
import Derived.Stop.LaidErr
namespace Go.Proofs.YtegcnkcjmebheaaDoor
open Go Go.RowKit Go.ChangeShapes Go.WideShapes Go.ChangeAt

theorem own : ownKnob Tryd.prog.godebug = none := by kernel_rfl
theorem laidOut : laidOutB Tryd.prog = true := by kernel_rfl

section
variable {H : Type} {enc : TypeId × Value → H} {P : Program}

theorem trodAll_below (hl : laidOutB P = true) {W W' : World} (hb : Below W.heap.size W W') : ∀ {ts : List TypeId} {vs : List Value} {ds : List (DataW H)} {ps : List MemPlace},
    (ts.all fun t => P.readableRec t && decide (t < P.types.size)) = true → DataW.TrodAll enc P W 0 (fun _ => true) true ts vs ds ps → (∀ x ∈ ps, x.block < W.heap.size) →
    DataW.TrodAll enc P W' 0 (fun b => decide (b < W.heap.size)) true ts vs ds ps
  | [], [], [], ps, _, h, _ => h
  | t :: ts, v :: vs, d :: ds, ps, hts, h, hlt => by
    obtain ⟨p, q, h1, h2, rfl⟩ := h
    simp only [List.all_cons, Bool.and_eq_true, decide_eq_true_eq] at hts
    exact ⟨p, q, Below.trod hl hts.1.1 hts.1.2 h1 hb (fun x hx => hlt x (List.mem_append_left _ hx)), trodAll_below hl hb hts.2 h2 (fun x hx => hlt x (List.mem_append_right _ hx)), rfl⟩
  | [], _ :: _, _, _, _, h, _ => by cases h
  | [], [], _ :: _, _, _, h, _ => by cases h
  | _ :: _, [], _, _, _, h, _ => by cases h
  | _ :: _, _ :: _, [], _, _, h, _ => by cases h

/-- The end of every law: true, and nothing that was there has changed. -/
theorem law_post {f : Func} {s : ChangeSpec} {W W' : World} {args : Array Value} {ds gs : List (DataW H)} {before : List MemPlace} {tb : TypeId} (hl : laidOutB P = true) (hts : (f.params.toList.all fun t => P.readableRec t && decide (t < P.types.size)) = true)
    (hres : f.resultTypes = #[tb]) (htb : P.underlying tb = some .bool) (hvars : s.vars = [])
    (hW : DataW.Whole enc P f.params.toList s.vars false W args.toList ds gs before) (hfn : s.fn H (ds ++ gs) = { results := [.lit (.bool true)], args := ds }) (hb : Same W W') :
    s.post enc P f false true false false W args (.bool true) W' := by
  have hW' := hW
  have hlt := hW.lt
  obtain ⟨p, q, hA, hV, rfl, _, _⟩ := hW
  rw [hvars] at hV
  obtain ⟨rfl, rfl⟩ := trodVars_none hV
  simp only [List.append_nil] at hlt hW' hfn
  refine ⟨_, _, _, [], p, [], hW', ?_, ?_, ?_, hb.below.frame _, fun h => by cases h⟩
  · simp only [List.append_nil, hfn, hres]; exact trodAll_mk1 (shut_bool htb true)
  · simp only [List.append_nil, hfn]; exact trodAll_below hl hb.below hts hA (fun x hx => by simpa using hlt x hx)
  · simp only [List.append_nil, hfn, hvars]; rfl

/-- A slice of whole numbers that came in. -/
theorem in_ints {t e : TypeId} {W : World} {v : Value} {d : DataW H} {ps : List MemPlace} (ht : P.underlying t = some (.slice e)) (he : P.underlying e = some (.int .i64)) (hc : P.cellsOf e = 1) (hlt : ∀ x ∈ ps, x.block < W.heap.size)
    (hv : ∃ a n c, v = .slice a n c) (h : DataW.Trod enc P W 0 (fun _ => true) true t v d ps) :
    ∃ xs : List Int, Ints W v xs ∧ (∀ x ∈ xs, -9223372036854775808 ≤ x ∧ x ≤ 9223372036854775807) ∧ (xs = [] ∨ ∃ sp, d = .slice (lits .i64 xs) sp) := by
  obtain ⟨a0, len, cap, rfl⟩ := hv
  obtain ⟨fuel, hf⟩ := h
  rcases open_ints ht he hc hf with ⟨hcs, hx⟩ | ⟨a, len', cap', zs, hcs, _, hl, hm, hz, hx, hcell, hwz⟩
  · simp [Value.cells] at hcs
    obtain ⟨rfl, rfl, rfl⟩ := hcs
    exact ⟨[], ⟨none, 0, rfl, rfl, fun _ => ⟨rfl, rfl⟩, fun a ha => by cases ha⟩, by simp, .inl rfl⟩
  · simp [Value.cells] at hcs
    obtain ⟨rfl, rfl, rfl⟩ := hcs
    simp only [if_true] at hz
    simp only [Prod.mk.injEq] at hx
    obtain ⟨rfl, rfl⟩ := hx
    have hln : (zs.take len).length = len := by rw [List.length_take]; omega
    refine ⟨zs.take len, ?_, ?_, .inr ⟨_, rfl⟩⟩
    · refine ⟨some a, cap, by rw [hln], by simp, (fun h => by cases h), ?_⟩
      rintro b hb
      cases hb
      refine ⟨fun h0 => ?_, fun j u hu => ?_⟩
      · have : MemPlace.cell a.block (a.off + 0) ∈ MemPlace.row a zs.length := by
          simp only [MemPlace.row, List.mem_map, List.mem_range]
          exact ⟨0, by omega, rfl⟩
        exact hlt _ this
      · have hj : j < len := by have := (List.getElem?_eq_some_iff.1 hu).1; simp at this; omega
        rw [hcell j (by omega)]
        obtain ⟨y, hy, rfl⟩ : ∃ y, zs[j]? = some y ∧ Value.int .i64 y = u := by simpa [hj] using hu
        simp [List.getD, hy]
    · intro x hx
      have := hwz x (List.mem_of_mem_take hx)
      have h1 : IntKind.i64.min = -9223372036854775808 := rfl
      have h2 : IntKind.i64.max = 9223372036854775807 := rfl
      simp only [Lit.wf, Bool.and_eq_true, decide_eq_true_eq] at this
      omega
theorem ints_reach {ts : List TypeId} {ds : List (DataW H)} (hsz : (DataW.weightsEach P ts ds).all (· ≤ reachBytes) = true) {j : Nat} {t e : TypeId} {xs : List Int} {d : DataW H} (ht : ts[j]? = some t) (hd : ds[j]? = some d) (hu : P.underlying t = some (.slice e)) (hb : P.bytesOf e = 8)
    (h : xs = [] ∨ ∃ sp, d = .slice (lits .i64 xs) sp) : xs.length ≤ 17592186043904 := by
  rcases h with rfl | ⟨sp, rfl⟩
  · simp
  · have := sized_slice hsz ht hd hu
    rw [hb] at this
    simp only [lits, List.length_map, reachBytes] at this
    omega

/-- A slice of texts that came in. -/
theorem in_texts {t e : TypeId} {W : World} {v : Value} {d : DataW H} {ps : List MemPlace} (ht : P.underlying t = some (.slice e)) (he : P.underlying e = some .string) (hc : P.cellsOf e = 1) (hlt : ∀ x ∈ ps, x.block < W.heap.size)
    (hv : ∃ a n c, v = .slice a n c) (h : DataW.Trod enc P W 0 (fun _ => true) true t v d ps) :
    ∃ ss : List ByteArray, Texts W v ss ∧ (∀ s ∈ ss, s.size ≤ maxLen) ∧ (ss = [] ∨ ∃ sp, d = .slice (strs ss) sp) := by
  obtain ⟨a0, len, cap, rfl⟩ := hv
  obtain ⟨fuel, hf⟩ := h
  rcases open_strings ht he hc hf with ⟨hcs, hx⟩ | ⟨a, len', cap', zs, hcs, _, hl, hm, hz, hx, hcell, hwz⟩
  · simp [Value.cells] at hcs
    obtain ⟨rfl, rfl, rfl⟩ := hcs
    exact ⟨[], ⟨none, 0, rfl, rfl, fun _ => ⟨rfl, rfl⟩, fun a ha => by cases ha⟩, by simp, .inl rfl⟩
  · simp [Value.cells] at hcs
    obtain ⟨rfl, rfl, rfl⟩ := hcs
    simp only [if_true] at hz
    simp only [Prod.mk.injEq] at hx
    obtain ⟨rfl, rfl⟩ := hx
    have hln : (zs.take len).length = len := by rw [List.length_take]; omega
    refine ⟨zs.take len, ?_, fun s hs => hwz s (List.mem_of_mem_take hs), .inr ⟨_, rfl⟩⟩
    refine ⟨some a, cap, by rw [hln], by simp, (fun h => by cases h), ?_⟩
    rintro b hb
    cases hb
    refine ⟨fun h0 => ?_, fun j u hu => ?_⟩
    · have : MemPlace.cell a.block (a.off + 0) ∈ MemPlace.row a zs.length := by
        simp only [MemPlace.row, List.mem_map, List.mem_range]
        exact ⟨0, by omega, rfl⟩
      exact hlt _ this
    · have hj : j < len := by have := (List.getElem?_eq_some_iff.1 hu).1; simp at this; omega
      rw [hcell j (by omega)]
      obtain ⟨y, hy, rfl⟩ : ∃ y, zs[j]? = some y ∧ Value.string y = u := by simpa [hj] using hu
      simp [List.getD, hy]

theorem texts_reach {ts : List TypeId} {ds : List (DataW H)} (hsz : (DataW.weightsEach P ts ds).all (· ≤ reachBytes) = true) {j : Nat} {t e : TypeId} {xs : List ByteArray} {d : DataW H} (ht : ts[j]? = some t) (hd : ds[j]? = some d) (hu : P.underlying t = some (.slice e)) (hb : P.bytesOf e = 16)
    (h : xs = [] ∨ ∃ sp, d = .slice (strs xs) sp) : xs.length ≤ 8796093021952 := by
  rcases h with rfl | ⟨sp, rfl⟩
  · simp
  · have := sized_slice hsz ht hd hu
    rw [hb] at this
    simp only [strs, List.length_map, reachBytes] at this
    omega

/-- 'No two listed variables are one', the listed errors: what each holds. -/
structure Sent (P : Program) (W : World) (g : Nat) (tp : TypeId) (a : Addr) : Prop where
  cell : W.cell? ⟨g, 0, none⟩ = some (.iface tp (.pointer (some a)))
  blk : ∃ c t, W.heap[a.block]? = some (.cells c t (0, 0))

/-- The closed facts on the listed errors' types. -/
structure ErrT (P : Program) (ti tp te ts : TypeId) (nm : String) : Prop where
  hi : ∃ ms, P.underlying ti = some (.interface ms)
  hrow : ∀ u, P.typeName? 3 u = some nm → u = tp
  hp : P.underlying tp = some (.pointer te)
  he : ∃ f : Field, P.underlying te = some (.struct #[f]) ∧ f.type = ts ∧ f.offset = 0
  hs : P.underlying ts = some .string
  hc : P.cellsOf te = 1
  hcs : P.cellsOf ts = 1

/-- A listed error. -/
abbrev errD {H : Type} (nm : String) (text : List UInt8) : DataW H := .iface nm (.ptr (.agg [.lit (.string text)]))

/-- What the row's list gives of errors: each variable holds a pointer of its own. -/
theorem sents_of {P : Program} {nm : String} {W : World} {ti tp te ts : TypeId} (hT : ErrT P ti tp te ts nm) : ∀ (l : List (String × Nat × List UInt8)) {r : List (String × DataW Unit)} {ps : List MemPlace},
    DataW.LaidVars P W (l.map (fun x => (x.1, errD nm x.2.2)) ++ r) ps → ps.Nodup →
    (∀ b off, MemPlace.cell b off ∈ ps → (∃ c t, W.heap[b]? = some (.cells c t (0, 0))) ∧ ∀ u v, W.cell? ⟨b, off, none⟩ = some (.iface u v) → Value.okWide P W .any 0 u v) →
    (∀ x ∈ l, P.globalNamed x.1 = some x.2.1 ∧ (P.globals[x.2.1]?).map (·.type) = some ti) →
    ∃ ads : List Addr, ads.length = l.length ∧ ads.Nodup ∧ (∀ a ∈ ads, MemPlace.cell a.block a.off ∈ ps) ∧ ∀ (i : Nat) (x : String × Nat × List UInt8) (a : Addr), l[i]? = some x → ads[i]? = some a → Sent P W x.2.1 tp a
  | [], _, _, _, _, _, _ => ⟨[], rfl, List.nodup_nil, by simp, by simp⟩
  | x :: l, r, ps, h, hnd, hrows, hg => by
    obtain ⟨g0, t0, cs0, f0, p0, q0, hg0', ht0', hv0, hd0, hq, e0⟩ := h
    obtain ⟨hgx, htx⟩ := hg x (List.mem_cons_self ..)
    obtain rfl := Option.some.inj (hgx.symm.trans hg0')
    obtain rfl := Option.some.inj (htx.symm.trans ht0')
    subst e0
    obtain ⟨ms, hi⟩ := hT.hi
    obtain ⟨f, he, hft, hfo⟩ := hT.he
    obtain ⟨l0⟩ := cs0
    have ok0 : ∀ u v, l0 = [.iface u v] → Value.okWide P W .any 0 u v := fun u v e => by
      subst e
      exact (hrows x.2.1 0 (by simp [MemPlace.row])).2 u v (by simpa using World.var?_cell hgx hv0 0)
    obtain ⟨a0, s0, rfl, hc0, hs0, hz0, rfl⟩ := errorString_of_trod hi hT.hrow hT.hp he hft hfo hT.hs hT.hc hT.hcs hd0 ok0
    obtain ⟨ads, hlen, hnd', hin, hall⟩ := sents_of hT l hq (List.Nodup.sublist (List.sublist_append_right _ _) hnd) (fun b off hm => hrows b off (List.mem_append_right _ hm)) (fun y hy => hg y (List.mem_cons_of_mem _ hy))
    have hs : Sent P W x.2.1 tp a0 := ⟨by simpa using World.var?_cell hgx hv0 0, (hrows a0.block a0.off (by simp [MemPlace.row])).1⟩
    refine ⟨a0 :: ads, by simp [hlen], ?_, ?_, ?_⟩
    · refine List.nodup_cons.2 ⟨fun hm => ?_, hnd'⟩
      have h2 := hin a0 hm
      have hd := (List.nodup_append.1 hnd).2.2 (.cell a0.block a0.off) (by simp [MemPlace.row]) _ h2
      exact hd rfl
    · intro a ha
      rcases List.mem_cons.1 ha with rfl | ha
      · simp [MemPlace.row]
      · exact List.mem_append_right _ (hin a ha)
    · intro i y a hy ha
      cases i with
      | zero => simp at hy ha; subst hy ha; exact hs
      | succ i => simp at hy ha; exact hall i y a hy ha


end

theorem lt_of_cell {W : World} {a : Addr} {v : Value} (h : W.cell? a = some v) : a.block < W.heap.size := World.block_lt_of_cell? W a h

theorem star : "*" ++ "errors.errorString" = "*errors.errorString" := by decide
theorem errT : ErrT Tryd.prog 27 143 169 9 "*errors.errorString" where
  hi := ⟨_, Tryd.underlying27⟩
  hrow := fun u h => typeName_ptr_named (nm := "errors.errorString") (by rw [star]; kernel_rfl) (by kernel_rfl) (by decide) u (by rw [star]; exact h)
  hp := Tryd.underlying143
  he := ⟨_, Tryd.underlying169, rfl, rfl⟩
  hs := Tryd.underlying9
  hc := by kernel_rfl
  hcs := by kernel_rfl
end Go.Proofs.YtegcnkcjmebheaaDoor
