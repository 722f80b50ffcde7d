/-
  What lies in memory, thing by thing: each with the blocks that it takes; a step that changes one of them leaves the others.
-/
import Derived.Test.YtegcnkcjmebheaaDoorLib
namespace Go.Proofs.YtegcnkcjmebheaaDoor
open Go Go.RowKit

/-- A thing in memory: what it says of a world, and which blocks it takes. -/
structure Res where
  rel : World → (Nat → Prop) → Prop
  here : ∀ {w : World} {F : Nat → Prop}, rel w F → ∀ k, F k → k < w.heap.size
  keep : ∀ {w w' : World} {F : Nat → Prop}, rel w F → (∀ k, F k → w'.heap[k]? = w.heap[k]?) → rel w' F

/-- Things of the call's own, each apart from the others; nothing that was there in w0 has changed. -/
inductive Things (w0 w : World) : List Res → (Nat → Prop) → Prop
  | nil : Things w0 w [] (fun _ => False)
  | cons {R : Res} {L : List Res} {F G : Nat → Prop} : R.rel w F → (∀ k, F k → w0.heap.size ≤ k) → (∀ k, F k → ¬ G k) → Things w0 w L G → Things w0 w (R :: L) (fun k => F k ∨ G k)

structure Star (w0 w : World) (L : List Res) : Prop where
  same : Same w0 w
  all : ∃ F, Things w0 w L F

theorem Things.here {w0 w : World} {L : List Res} {F : Nat → Prop} (h : Things w0 w L F) : ∀ k, F k → k < w.heap.size ∧ w0.heap.size ≤ k := by
  induction h with
  | nil => exact fun k f => f.elim
  | cons hr hn _ _ ih =>
    rintro k (f | g)
    · exact ⟨_root_.Go.Proofs.YtegcnkcjmebheaaDoor.Res.here _ hr k f, hn k f⟩
    · exact ih k g
theorem Things.keep {w0 w w' : World} {L : List Res} {F : Nat → Prop} (h : Things w0 w L F) (hk : ∀ k, F k → w'.heap[k]? = w.heap[k]?) : Things w0 w' L F := by
  induction h with
  | nil => exact .nil
  | cons hr hn hd _ ih => exact .cons (Res.keep _ hr (fun k f => hk k (.inl f))) hn hd (ih (fun k g => hk k (.inr g)))

/-- One of the things, and how the others stay behind a change of it. -/
theorem Things.at {w0 w : World} : ∀ {L : List Res} {G : Nat → Prop} (_ : Things w0 w L G) (i : Nat) {R : Res} (_ : L[i]? = some R), ∃ F, R.rel w F ∧ (∀ k, F k → w0.heap.size ≤ k) ∧ (∀ k, F k → G k) ∧
    ∀ (w' : World) (R' : Res) (F' : Nat → Prop), R'.rel w' F' → Chg F w w' → (∀ k, F' k → F k ∨ w.heap.size ≤ k) → w0.heap.size ≤ w.heap.size → ∃ G', Things w0 w' (L.set i R') G' ∧ ∀ k, G' k → G k ∨ w.heap.size ≤ k
  | _, _, .nil, i, R, h => by simp at h
  | _, _, .cons (R := R0) (L := L) (F := F0) (G := G0) hr hn hd ht, 0, R, h => by
    simp at h
    subst h
    refine ⟨F0, hr, hn, fun k f => .inl f, fun w' R' F' hR' hc hF' h0 => ⟨_, .cons hR' (fun k f => ?_) (fun k f g => ?_) (ht.keep (fun k g => hc.block k (ht.here k g).1 (fun f => hd k f g))), ?_⟩⟩
    · rcases hF' k f with f | f
      · exact hn k f
      · omega
    · rcases hF' k f with f | f
      · exact hd k f g
      · have := (ht.here k g).1; omega
    · rintro k (f | g)
      · rcases hF' k f with f | f
        · exact .inl (.inl f)
        · exact .inr f
      · exact .inl (.inr g)
  | _, _, .cons (R := R0) (L := L) (F := F0) (G := G0) hr hn hd ht, i + 1, R, h => by
    obtain ⟨F, h1, h2, h3, h4⟩ := ht.at i (by simpa using h)
    refine ⟨F, h1, h2, fun k f => .inr (h3 k f), fun w' R' F' hR' hc hF' h0 => ?_⟩
    obtain ⟨G', k1, k2⟩ := h4 w' R' F' hR' hc hF' h0
    refine ⟨_, .cons (Res.keep _ hr (fun k f => hc.block k (Res.here _ hr k f) (fun g => hd k f (h3 k g)))) hn (fun k f g => ?_) k1, ?_⟩
    · rcases k2 k g with g | g
      · exact hd k f g
      · have := Res.here _ hr k f; omega
    · rintro k (f | g)
      · exact .inl (.inl f)
      · rcases k2 k g with g | g
        · exact .inl (.inr g)
        · exact .inr g

section
variable {w0 w w' : World} {L : List Res}

theorem Star.at (X : Star w0 w L) (i : Nat) {R : Res} (hi : L[i]? = some R) : ∃ F, R.rel w F ∧ (∀ k, F k → w0.heap.size ≤ k) ∧
    ∀ (w' : World) (R' : Res) (F' : Nat → Prop), R'.rel w' F' → Chg F w w' → (∀ k, F' k → F k ∨ w.heap.size ≤ k) → Star w0 w' (L.set i R') := by
  obtain ⟨G, h⟩ := X.all
  obtain ⟨F, h1, h2, _, h4⟩ := h.at i hi
  refine ⟨F, h1, h2, fun w' R' F' hR' hc hF' => ?_⟩
  obtain ⟨G', k1, _⟩ := h4 w' R' F' hR' hc hF' X.same.size
  exact ⟨X.same.trans hc (fun k hk f => by have := h2 k f; omega), G', k1⟩
theorem Star.new (w : World) : Star w w [] := ⟨Chg.refl _, _, .nil⟩
/-- Behind a step that changes nothing. -/
theorem Star.go (X : Star w0 w L) (hs : Same w w') : Star w0 w' L := by
  obtain ⟨G, h⟩ := X.all
  exact ⟨X.same.trans hs (fun _ _ f => f), G, h.keep (fun k g => hs.block k (h.here k g).1 (fun f => f))⟩
/-- One thing more, that is new since w. -/
theorem Star.add (X : Star w0 w L) (hs : Same w w') {R : Res} {F : Nat → Prop} (hr : R.rel w' F) (hn : ∀ k, F k → w.heap.size ≤ k) : Star w0 w' (R :: L) := by
  obtain ⟨G, h⟩ := X.all
  have hz := X.same.size
  exact ⟨X.same.trans hs (fun _ _ f => f), _, .cons hr (fun k f => by have := hn k f; omega) (fun k f g => by have := hn k f; have := (h.here k g).1; omega) (h.keep (fun k g => hs.block k (h.here k g).1 (fun f => f)))⟩
theorem Star.drop {R : Res} (X : Star w0 w (R :: L)) : Star w0 w L := by
  obtain ⟨G, h⟩ := X.all
  cases h with
  | cons _ _ _ h => exact ⟨X.same, _, h⟩
/-- Two things change places. -/
theorem Star.swap {R S : Res} (X : Star w0 w (R :: S :: L)) : Star w0 w (S :: R :: L) := by
  obtain ⟨G, h⟩ := X.all
  cases h with
  | cons a1 a2 a3 h =>
    cases h with
    | cons b1 b2 b3 h =>
      refine ⟨X.same, _, .cons b1 b2 (fun k f => ?_) (.cons a1 a2 (fun k f g => a3 k f (.inr g)) h)⟩
      rintro (g | g)
      · exact a3 k g (.inl f)
      · exact b3 k f g
theorem Star.set (X : Star w0 w L) (i : Nat) {R R' : Res} (hi : L[i]? = some R) (himp : ∀ F, R.rel w F → R'.rel w F) : Star w0 w (L.set i R') := by
  obtain ⟨F, h1, _, h3⟩ := X.at i hi
  exact h3 w R' F (himp F h1) (Chg.refl _) (fun k f => .inl f)
/-- What was there in w0 reads as it did. -/
theorem Star.reads (X : Star w0 w L) {v : Value} {n size : Nat} {cs : List Value} (h : Reads w0 v n size cs) : Reads w v n size cs := h.same X.same
theorem Star.keepCell (X : Star w0 w L) {a : Addr} {v : Value} (hc : w0.cell? a = some v) : w.cell? a = some v := X.same.keep hc
end

/-- A block that is known whole. -/
def Blk (b : Nat) (cs : Array Value) (T : TypeId) : Res where
  rel w F := w.heap[b]? = some (.cells cs T (0, 0)) ∧ F = (fun k => k = b)
  here := by rintro w F ⟨h, rfl⟩ k rfl; exact lt_of h
  keep := by rintro w w' F ⟨h, rfl⟩ hk; exact ⟨(hk b rfl).trans h, rfl⟩

/-- A slice of n elements (size cells each) that owns its cells. -/
def Row (E size : Nat) (v : Value) (n : Nat) (xs : List Value) : Res where
  rel w F := w.ownsRow 0 E size v n xs ∧ F = (fun k => v.ownBlock = some k)
  here := by rintro w F ⟨h, rfl⟩ k hk; exact (h.lt k hk).2
  keep := by
    rintro w w' F ⟨h, rfl⟩ hk
    refine ⟨⟨h.1, ?_⟩, rfl⟩
    rcases h.2 with hn' | ⟨g, cap, cur, rfl, hb, hg, r⟩
    · exact .inl hn'
    · exact .inr ⟨g, cap, cur, rfl, hb, (hk g rfl).trans hg, r⟩

section
variable {w0 w w' : World} {L : List Res}
theorem Star.blk (X : Star w0 w L) (i : Nat) {b : Nat} {cs : Array Value} {T : TypeId} (hi : L[i]? = some (Blk b cs T)) : w.heap[b]? = some (.cells cs T (0, 0)) ∧ w0.heap.size ≤ b := by
  obtain ⟨F, ⟨h, rfl⟩, h2, _⟩ := X.at i hi
  exact ⟨h, h2 b rfl⟩
theorem Star.row (X : Star w0 w L) (i : Nat) {E size n : Nat} {v : Value} {xs : List Value} (hi : L[i]? = some (Row E size v n xs)) : w.ownsRow 0 E size v n xs ∧ ∀ k, v.ownBlock = some k → w0.heap.size ≤ k := by
  obtain ⟨F, ⟨h, rfl⟩, h2, _⟩ := X.at i hi
  exact ⟨h, h2⟩
/-- A new block. -/
theorem Star.alloc (X : Star w0 w L) (cs : Array Value) (T : TypeId) : Star w0 (w.alloc (.cells cs T)) (Blk w.heap.size cs T :: L) :=
  X.add ((Chg.refl _).alloc _) ⟨alloc_new w _, rfl⟩ (fun k h => by cases h; exact Nat.le_refl _)
/-- A store into a block that is known whole. -/
theorem Star.put (X : Star w0 w L) (i : Nat) {b : Nat} {cs : Array Value} {T : TypeId} (hi : L[i]? = some (Blk b cs T)) (j : Nat) (u : Value) : Star w0 (w.setCell ⟨b, j, none⟩ u) (L.set i (Blk b (cs.setIfInBounds j u) T)) := by
  obtain ⟨F, ⟨h, rfl⟩, h2, h3⟩ := X.at i hi
  exact h3 _ _ _ ⟨set_same h j u, rfl⟩ (Chg.setCell _ _ (Chg.refl _) (fun _ => rfl)) (fun k f => .inl f)
/-- A slice that is new. -/
theorem Star.fresh (X : Star w0 w L) {E size n : Nat} {v : Value} {xs : List Value} (hf : Fresh w w' E size v n xs) (hs : Same w w') : Star w0 w' (Row E size v n xs :: L) :=
  X.add hs ⟨hf.1, rfl⟩ (fun k h => hf.2 k h)
theorem Star.nilRow (X : Star w0 w L) (E size : Nat) : Star w0 w (Row E size (.slice none 0 0) 0 [] :: L) :=
  X.add (Chg.refl _) ⟨World.ownsRow_nil _ _ _ _, rfl⟩ (fun k h => by simp [Value.ownBlock] at h)
/-- A slice that has grown. -/
theorem Star.grown (X : Star w0 w L) (i : Nat) {E size n n' : Nat} {v v' : Value} {xs xs' : List Value} (hi : L[i]? = some (Row E size v n xs)) (ho : w'.ownsRow 0 E size v' n' xs') (hg : w.grownBy w' v.ownBlock) (hn : NewOr w v v') : Star w0 w' (L.set i (Row E size v' n' xs')) := by
  obtain ⟨F, ⟨h, rfl⟩, h2, h3⟩ := X.at i hi
  refine h3 _ _ _ ⟨ho, rfl⟩ ((Chg.refl w).grown hg (fun k e _ => e)) (fun k f => ?_)
  rcases hn with e | e
  · exact .inl (e ▸ f)
  · exact .inr (e k f)
/-- A store into a slice. -/
theorem Star.store (X : Star w0 w L) (i : Nat) {E size n g c m : Nat} {xs : List Value} (hi : L[i]? = some (Row E size (.slice (some ⟨g, 0, none⟩) m c) n xs)) (j : Nat) (u : Value) : Star w0 (w.setCell ⟨g, j, none⟩ u) (L.set i (Row E size (.slice (some ⟨g, 0, none⟩) m c) n (xs.set j u))) := by
  obtain ⟨F, ⟨h, rfl⟩, h2, h3⟩ := X.at i hi
  have hn : m = n := by
    obtain ⟨_, _, e, _⟩ := own_slice h
    cases e; rfl
  subst hn
  exact h3 _ _ _ ⟨(h.stored j u).1, rfl⟩ (Chg.setCell _ _ (Chg.refl _) (fun _ => rfl)) (fun k f => .inl f)
end

/-- Two things, apart from each other, as one. -/
def sepR (R S : Res) : Res where
  rel w F := ∃ F1 F2, R.rel w F1 ∧ S.rel w F2 ∧ (∀ k, F1 k → ¬ F2 k) ∧ F = (fun k => F1 k ∨ F2 k)
  here := by
    rintro w F ⟨F1, F2, h1, h2, _, rfl⟩ k (h | h)
    · exact R.here h1 k h
    · exact S.here h2 k h
  keep := by
    rintro w w' F ⟨F1, F2, h1, h2, hd, rfl⟩ hk
    exact ⟨F1, F2, R.keep h1 (fun k h => hk k (.inl h)), S.keep h2 (fun k h => hk k (.inr h)), hd, rfl⟩
/-- A thing of some kind. -/
def exR {α : Type} (f : α → Res) : Res where
  rel w F := ∃ a, (f a).rel w F
  here := by rintro w F ⟨a, h⟩; exact (f a).here h
  keep := by rintro w w' F ⟨a, h⟩ hk; exact ⟨a, (f a).keep h hk⟩
/-- A fact. -/
def factR (p : Prop) : Res where
  rel _ F := p ∧ F = (fun _ => False)
  here := by rintro w F ⟨_, rfl⟩ k h; exact h.elim
  keep := by rintro w w' F h _; exact h

section
variable {w0 w w' : World} {L : List Res}
theorem Star.open_sep {R S : Res} (X : Star w0 w (sepR R S :: L)) : Star w0 w (R :: S :: L) := by
  obtain ⟨G, h⟩ := X.all
  cases h with
  | cons hr hn hd ht =>
    obtain ⟨F1, F2, h1, h2, hd2, rfl⟩ := hr
    exact ⟨X.same, _, .cons h1 (fun k f => hn k (.inl f)) (fun k f g => by
      rcases g with g | g
      · exact hd2 k f g
      · exact hd k (.inl f) g) (.cons h2 (fun k f => hn k (.inr f)) (fun k f g => hd k (.inr f) g) ht)⟩
theorem Star.close_sep {R S : Res} (X : Star w0 w (R :: S :: L)) : Star w0 w (sepR R S :: L) := by
  obtain ⟨G, h⟩ := X.all
  cases h with
  | cons h1 hn1 hd1 ht =>
    cases ht with
    | cons h2 hn2 hd2 ht =>
      refine ⟨X.same, _, .cons ⟨_, _, h1, h2, fun k f g => hd1 k f (.inl g), rfl⟩ ?_ ?_ ht⟩
      · rintro k (f | f)
        · exact hn1 k f
        · exact hn2 k f
      · rintro k (f | f) g
        · exact hd1 k f (.inr g)
        · exact hd2 k f g
theorem Star.open_ex {α : Type} {f : α → Res} (X : Star w0 w (exR f :: L)) : ∃ a, Star w0 w (f a :: L) := by
  obtain ⟨G, h⟩ := X.all
  cases h with
  | cons hr hn hd ht =>
    obtain ⟨a, hr⟩ := hr
    exact ⟨a, X.same, _, .cons hr hn hd ht⟩
theorem Star.close_ex {α : Type} {f : α → Res} (a : α) (X : Star w0 w (f a :: L)) : Star w0 w (exR f :: L) := by
  obtain ⟨G, h⟩ := X.all
  cases h with
  | cons hr hn hd ht => exact ⟨X.same, _, .cons ⟨a, hr⟩ hn hd ht⟩
theorem Star.open_fact {p : Prop} (X : Star w0 w (factR p :: L)) : p ∧ Star w0 w L := by
  obtain ⟨G, h⟩ := X.all
  cases h with
  | cons hr hn hd ht => exact ⟨hr.1, X.same, _, ht⟩
theorem Star.close_fact {p : Prop} (hp : p) (X : Star w0 w L) : Star w0 w (factR p :: L) := by
  obtain ⟨G, h⟩ := X.all
  exact ⟨X.same, _, .cons ⟨hp, rfl⟩ (fun k f => f.elim) (fun k f => f.elim) h⟩
theorem Things.pull : ∀ {L : List Res} {G : Nat → Prop} (i : Nat) {R : Res} (_ : L[i]? = some R) (_ : Things w0 w L G), ∃ F G', R.rel w F ∧ (∀ k, F k → w0.heap.size ≤ k) ∧ (∀ k, F k → ¬ G' k) ∧ Things w0 w (L.eraseIdx i) G' ∧ ∀ k, F k ∨ G' k → G k
  | [], _, i, R, h, _ => by simp at h
  | S :: L, _, 0, R, h, .cons a1 a2 a3 ht => by
    simp at h; subst h
    exact ⟨_, _, a1, a2, a3, ht, fun k h => h⟩
  | S :: L, _, i + 1, R, h, .cons a1 a2 a3 ht => by
    obtain ⟨F, G', b1, b2, b3, b4, b5⟩ := Things.pull i (by simpa using h) ht
    refine ⟨F, _, b1, b2, ?_, .cons a1 a2 (fun k f g => a3 k f (b5 k (.inr g))) b4, ?_⟩
    · rintro k f (g | g)
      · exact a3 k g (b5 k (.inl f))
      · exact b3 k f g
    · rintro k (f | f | f)
      · exact .inr (b5 k (.inl f))
      · exact .inl f
      · exact .inr (b5 k (.inr f))
/-- The i-th thing comes first. -/
theorem Star.pull (X : Star w0 w L) (i : Nat) {R : Res} (hi : L[i]? = some R) : Star w0 w (R :: L.eraseIdx i) := by
  obtain ⟨G, h⟩ := X.all
  obtain ⟨F, G', b1, b2, b3, b4, _⟩ := h.pull i hi
  exact ⟨X.same, _, .cons b1 b2 b3 b4⟩
theorem Things.lift {w1 : World} {L : List Res} {G : Nat → Prop} (hl : Things w0 w1 L G) (hs : ∀ k, k < w.heap.size → w1.heap[k]? = w.heap[k]?) (h0 : w0.heap.size ≤ w.heap.size) (hb : ∀ k, G k → k < w.heap.size) : ∀ {M : List Res} {F : Nat → Prop} (_ : Things w w1 M F), ∃ F', Things w0 w1 (M ++ L) F' ∧ ∀ k, F' k → F k ∨ G k
  | _, _, .nil => ⟨G, hl, fun k h => .inr h⟩
  | _, _, .cons a1 a2 a3 ht => by
    obtain ⟨F', b1, b2⟩ := Things.lift hl hs h0 hb ht
    refine ⟨_, .cons a1 (fun k f => by have := a2 k f; omega) (fun k f g => ?_) b1, ?_⟩
    · rcases b2 k g with g | g
      · exact a3 k f g
      · have := a2 k f; have := hb k g; omega
    · rintro k (f | f)
      · exact .inl (.inl f)
      · rcases b2 k f with g | g
        · exact .inl (.inr g)
        · exact .inr g
/-- Things that are new since w, beside those that were there in w. -/
theorem Star.lift {M : List Res} {w1 : World} (X : Star w0 w L) (Y : Star w w1 M) : Star w0 w1 (M ++ L) := by
  obtain ⟨G, h⟩ := X.all
  obtain ⟨F, hF⟩ := Y.all
  have hk := h.keep (w' := w1) (fun k g => Y.same.block k (h.here k g).1 (fun f => f))
  obtain ⟨F', h1, _⟩ := Things.lift hk (fun k hk => Y.same.block k hk (fun f => f)) X.same.size (fun k g => (h.here k g).1) hF
  exact ⟨X.same.trans Y.same (fun _ _ f => f), F', h1⟩
/-- Two things lie apart. -/
theorem Star.apart (X : Star w0 w L) (i j : Nat) {R R' : Res} (hi : L[i]? = some R) (hj : L[j]? = some R') (hij : i < j) : ∃ F F', R.rel w F ∧ R'.rel w F' ∧ ∀ k, F k → ¬ F' k := by
  obtain ⟨G, h⟩ := X.all
  obtain ⟨F, G', b1, _, b3, b4, _⟩ := h.pull i hi
  have hj' : (L.eraseIdx i)[j - 1]? = some R' := by
    rw [List.getElem?_eraseIdx_of_ge (by omega), show j - 1 + 1 = j by omega]; exact hj
  obtain ⟨F', h1, _, h3, _⟩ := b4.at (j - 1) hj'
  exact ⟨F, F', b1, h1, fun k f g => b3 k f (h3 k g)⟩
theorem Star.neBB (X : Star w0 w L) (i j : Nat) {b c : Nat} {cs ds : Array Value} {T U : TypeId} (hi : L[i]? = some (Blk b cs T)) (hj : L[j]? = some (Blk c ds U)) (hij : i < j) : ¬ b = c ∧ ¬ c = b := by
  obtain ⟨F, F', ⟨_, rfl⟩, ⟨_, rfl⟩, h⟩ := X.apart i j hi hj hij
  exact ⟨fun e => h b rfl e, fun e => h b rfl e.symm⟩
theorem Star.neBR (X : Star w0 w L) (i j : Nat) {b g E size n m c : Nat} {cs : Array Value} {T : TypeId} {xs : List Value} (hi : L[i]? = some (Blk b cs T)) (hj : L[j]? = some (Row E size (.slice (some ⟨g, 0, none⟩) m c) n xs)) (hij : i < j) : ¬ b = g ∧ ¬ g = b := by
  obtain ⟨F, F', ⟨_, rfl⟩, ⟨_, rfl⟩, h⟩ := X.apart i j hi hj hij
  exact ⟨fun e => h b rfl (by simp [Value.ownBlock, e]), fun e => h b rfl (by simp [Value.ownBlock, e])⟩
theorem Star.neRB (X : Star w0 w L) (i j : Nat) {b g E size n m c : Nat} {cs : Array Value} {T : TypeId} {xs : List Value} (hi : L[i]? = some (Row E size (.slice (some ⟨g, 0, none⟩) m c) n xs)) (hj : L[j]? = some (Blk b cs T)) (hij : i < j) : ¬ b = g ∧ ¬ g = b := by
  obtain ⟨F, F', ⟨_, rfl⟩, ⟨_, rfl⟩, h⟩ := X.apart i j hi hj hij
  exact ⟨fun e => h b (by simp [Value.ownBlock, e]) rfl, fun e => h b (by simp [Value.ownBlock, e]) rfl⟩
theorem Star.neRR (X : Star w0 w L) (i j : Nat) {g g' E E' size size' n n' m m' c c' : Nat} {xs ys : List Value} (hi : L[i]? = some (Row E size (.slice (some ⟨g, 0, none⟩) m c) n xs)) (hj : L[j]? = some (Row E' size' (.slice (some ⟨g', 0, none⟩) m' c') n' ys)) (hij : i < j) : ¬ g = g' ∧ ¬ g' = g := by
  obtain ⟨F, F', ⟨_, rfl⟩, ⟨_, rfl⟩, h⟩ := X.apart i j hi hj hij
  exact ⟨fun e => h g rfl (by simp [Value.ownBlock, e]), fun e => h g rfl (by simp [Value.ownBlock, e])⟩
end

end Go.Proofs.YtegcnkcjmebheaaDoor
