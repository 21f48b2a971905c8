/-
  SxS: what is owned: a list of things, each with blocks of its own.
-/
import Derived.Test.YtpocidlfjakmlaaSxN
set_option linter.unusedSimpArgs false
set_option linter.unusedVariables false
namespace Go.Sx
open Go

abbrev BSet := Nat → Prop

/-- Nothing but the blocks of F (and new ones) has turned. -/
structure Up (F : BSet) (w w' : World) : Prop where
  size : w.heap.size ≤ w'.heap.size
  os : w'.os = w.os
  tape : w'.tape = w.tape
  output : w'.output = w.output
  block : ∀ b, b < w.heap.size → ¬ F b → w'.heap[b]? = w.heap[b]?

def none_ : BSet := fun _ => False

theorem Up.refl (F : BSet) (w : World) : Up F w w := ⟨Nat.le_refl _, rfl, rfl, rfl, fun _ _ _ => rfl⟩
theorem Up.trans {F G : BSet} {a b c : World} (h : Up F a b) (k : Up G b c) (hg : ∀ x, G x → F x ∨ a.heap.size ≤ x) : Up F a c :=
  ⟨Nat.le_trans h.size k.size, k.os.trans h.os, k.tape.trans h.tape, k.output.trans h.output, fun i hi hf =>
    (k.block i (Nat.lt_of_lt_of_le hi h.size) fun hx => (hg i hx).elim hf fun h => absurd hi (Nat.not_lt.2 h)).trans (h.block i hi hf)⟩
theorem Up.mono {F G : BSet} {a b : World} (h : Up F a b) (hs : ∀ x, F x → G x ∨ a.heap.size ≤ x) : Up G a b :=
  ⟨h.size, h.os, h.tape, h.output, fun i hi hg => h.block i hi fun hf => (hs i hf).elim hg fun h => absurd hi (Nat.not_lt.2 h)⟩
theorem Up.keep {w w' : World} (h : Up none_ w w') : Keep w w' := ⟨h.size, fun b hb => h.block b hb id, h.os, h.tape, h.output⟩
theorem Up.of_keep {F : BSet} {w w' : World} (h : Keep w w') : Up F w w' := ⟨h.size, h.os, h.tape, h.output, fun b hb _ => h.block b hb⟩
theorem Up.of_upd {F : List Nat} {w w' : World} (h : Upd F w w') : Up (· ∈ F) w w' := ⟨h.size, h.os, h.tape, h.output, fun b hb hf => h.block b hb hf⟩

/-- A thing: where it lies, as a set of blocks. -/
structure HP where
  p : World → BSet → Prop
  lt : ∀ {w S}, p w S → ∀ b, S b → b < w.heap.size
  st : ∀ {w w' S}, p w S → (∀ b, S b → w'.heap[b]? = w.heap[b]?) → p w' S

theorem Blk.same {w w' : World} {b : Nat} {T : TypeId} {cs : List Value} (h : Blk w b T cs) (e : w'.heap[b]? = w.heap[b]?) : Blk w' b T cs := by
  unfold Blk; rw [e]; exact h
theorem Sl.same {w w' : World} {T : TypeId} {sz : Nat} {v : Value} {cs : List Value} {F : List Nat} (h : Sl w T sz v cs F) (e : ∀ b, b ∈ F → w'.heap[b]? = w.heap[b]?) : Sl w' T sz v cs F := by
  rcases h with h | ⟨g, n, cap, sp, h1, h2, h3, h4, h5, h6, rfl⟩
  · exact .inl h
  · exact .inr ⟨g, n, cap, sp, h1, h2, h3, h4, h5, h6.same (e g (by simp)), rfl⟩

/-- A block, whole. -/
def HP.ob (b : Nat) (T : TypeId) (cs : List Value) : HP where
  p w S := Blk w b T cs ∧ ∀ x, S x ↔ x = b
  lt h x hx := by rw [(h.2 x).1 hx]; exact h.1.lt
  st h e := ⟨h.1.same (e b ((h.2 b).2 rfl)), h.2⟩
/-- A slice, its cells and the room behind them. -/
def HP.vc (T : TypeId) (sz : Nat) (v : Value) (cs : List Value) : HP where
  p w S := ∃ F, Sl w T sz v cs F ∧ ∀ x, S x ↔ x ∈ F
  lt := fun ⟨F, h, hs⟩ x hx => h.lt x ((hs x).1 hx)
  st := fun ⟨F, h, hs⟩ e => ⟨F, h.same (fun b hb => e b ((hs b).2 hb)), hs⟩
/-- A map. -/
def HP.mp (b : Nat) (es : List MapEntry) (clock : Nat) : HP where
  p w S := w.heap[b]? = some (.map es.toArray clock) ∧ ∀ x, S x ↔ x = b
  lt h x hx := by rw [(h.2 x).1 hx]; exact (Array.getElem?_eq_some_iff.1 h.1).1
  st h e := ⟨by rw [e b ((h.2 b).2 rfl)]; exact h.1, h.2⟩
def HP.pure (φ : Prop) : HP where
  p w S := φ ∧ ∀ x, ¬ S x
  lt h x hx := absurd hx (h.2 x)
  st h e := h
def HP.ex {α : Type} (f : α → HP) : HP where
  p w S := ∃ x, (f x).p w S
  lt := fun ⟨x, h⟩ => (f x).lt h
  st := fun ⟨x, h⟩ e => ⟨x, (f x).st h e⟩

/-- All of them, apart from one another. -/
def Sat : List HP → World → BSet → Prop
  | [], _, S => ∀ b, ¬ S b
  | A :: L, w, S => ∃ S1 S2, A.p w S1 ∧ Sat L w S2 ∧ (∀ b, S b ↔ S1 b ∨ S2 b) ∧ ∀ b, S1 b → ¬ S2 b

theorem Sat.lt : ∀ {L : List HP} {w : World} {S : BSet}, Sat L w S → ∀ b, S b → b < w.heap.size
  | [], _, _, h, b, hb => absurd hb (h b)
  | A :: L, w, S, ⟨S1, S2, h1, h2, h3, h4⟩, b, hb => ((h3 b).1 hb).elim (A.lt h1 b) (Sat.lt h2 b)
theorem Sat.st : ∀ {L : List HP} {w w' : World} {S : BSet}, Sat L w S → (∀ b, S b → w'.heap[b]? = w.heap[b]?) → Sat L w' S
  | [], _, _, _, h, _ => h
  | A :: L, w, w', S, ⟨S1, S2, h1, h2, h3, h4⟩, e => ⟨S1, S2, A.st h1 (fun b hb => e b ((h3 b).2 (.inl hb))), Sat.st h2 (fun b hb => e b ((h3 b).2 (.inr hb))), h3, h4⟩
theorem Sat.up {L : List HP} {w w' : World} {S F : BSet} (h : Sat L w S) (hu : Up F w w') (hd : ∀ b, S b → ¬ F b) : Sat L w' S :=
  h.st fun b hb => hu.block b (h.lt b hb) (hd b hb)
theorem Sat.set : ∀ {L : List HP} {w : World} {S T : BSet}, Sat L w S → (∀ b, T b ↔ S b) → Sat L w T
  | [], _, _, _, h, e => fun b hb => h b ((e b).1 hb)
  | A :: L, _, _, _, ⟨S1, S2, h1, h2, h3, h4⟩, e => ⟨S1, S2, h1, h2, fun b => (e b).trans (h3 b), h4⟩
theorem Sat.append : ∀ {L M : List HP} {w : World} {S : BSet}, Sat (L ++ M) w S ↔ ∃ S1 S2, Sat L w S1 ∧ Sat M w S2 ∧ (∀ b, S b ↔ S1 b ∨ S2 b) ∧ ∀ b, S1 b → ¬ S2 b
  | [], M, w, S => by
    constructor
    · intro h; exact ⟨none_, S, fun _ h => h, h, fun b => ⟨.inr, fun h => h.elim False.elim id⟩, fun _ h => h.elim⟩
    · rintro ⟨S1, S2, h1, h2, h3, _⟩
      exact h2.set fun b => (h3 b).trans ⟨fun h => h.elim (fun h => absurd h (h1 b)) id, .inr⟩
  | A :: L, M, w, S => by
    constructor
    · rintro ⟨S1, S2, h1, h2, h3, h4⟩
      obtain ⟨S3, S4, h5, h6, h7, h8⟩ := Sat.append.1 h2
      refine ⟨fun b => S1 b ∨ S3 b, S4, ⟨S1, S3, h1, h5, fun _ => Iff.rfl, fun b hb h => h4 b hb ((h7 b).2 (.inl h))⟩, h6, fun b => ?_, fun b hb h => ?_⟩
      · rw [h3, h7, or_assoc]
      · rcases hb with hb | hb
        · exact h4 b hb ((h7 b).2 (.inr h))
        · exact h8 b hb h
    · rintro ⟨S1, S2, ⟨S3, S4, h5, h6, h7, h8⟩, h2, h3, h4⟩
      refine ⟨S3, fun b => S4 b ∨ S2 b, h5, Sat.append.2 ⟨S4, S2, h6, h2, fun _ => Iff.rfl, fun b hb h => h4 b ((h7 b).2 (.inr hb)) h⟩, fun b => ?_, fun b hb h => ?_⟩
      · rw [h3, h7, or_assoc]
      · rcases h with h | h
        · exact h8 b hb h
        · exact h4 b ((h7 b).2 (.inl hb)) h

/-- One of them, and the others. -/
theorem Sat.at_ : ∀ {L : List HP} {w : World} {S : BSet} {i : Nat} {A : HP}, Sat L w S → L[i]? = some A → ∃ S1 S2, A.p w S1 ∧ Sat (L.eraseIdx i) w S2 ∧ (∀ b, S b ↔ S1 b ∨ S2 b) ∧ ∀ b, S1 b → ¬ S2 b
  | [], _, _, _, _, _, h => by simp at h
  | B :: L, w, S, 0, A, h, hi => by simp at hi; subst hi; exact h
  | B :: L, w, S, i + 1, A, ⟨S1, S2, h1, h2, h3, h4⟩, hi => by
    obtain ⟨S3, S4, h5, h6, h7, h8⟩ := Sat.at_ (i := i) h2 (by simpa using hi)
    refine ⟨S3, fun b => S1 b ∨ S4 b, h5, ⟨S1, S4, h1, h6, fun _ => Iff.rfl, fun b hb h => h4 b hb ((h7 b).2 (.inr h))⟩, fun b => ?_, fun b hb h => ?_⟩
    · rw [h3, h7]; constructor
      · rintro (h | h | h) <;> simp [h]
      · rintro (h | h | h) <;> simp [h]
    · rcases h with h | h
      · exact h4 b h ((h7 b).2 (.inl hb))
      · exact h8 b hb h
theorem Sat.put : ∀ {L : List HP} {w : World} {S1 S2 : BSet} {i : Nat} {A : HP}, i ≤ L.length → A.p w S1 → Sat L w S2 → (∀ b, S1 b → ¬ S2 b) → Sat (L.insertIdx i A) w fun b => S1 b ∨ S2 b
  | L, _, S1, S2, 0, A, _, h1, h2, h3 => by
    rw [List.insertIdx_zero]
    exact ⟨S1, S2, h1, h2, fun _ => Iff.rfl, h3⟩
  | [], _, _, _, i + 1, _, hl, _, _, _ => by simp at hl
  | B :: L, w, S1, S2, i + 1, A, hl, h1, ⟨S3, S4, h5, h6, h7, h8⟩, h3 => by
    rw [List.insertIdx_succ_cons]
    refine ⟨S3, fun b => S1 b ∨ S4 b, h5, Sat.put (i := i) (by simpa using hl) h1 h6 (fun b hb h => h3 b hb ((h7 b).2 (.inr h))), fun b => ?_, fun b hb h => ?_⟩
    · show S1 b ∨ S2 b ↔ S3 b ∨ (S1 b ∨ S4 b)
      rw [h7]; constructor
      · rintro (h | h | h) <;> simp [h]
      · rintro (h | h | h) <;> simp [h]
    · rcases h with h | h
      · exact h3 b h ((h7 b).2 (.inl hb))
      · exact h8 b hb h
theorem insert_erase {α : Type} : ∀ (L : List α) (i : Nat) (A : α), i < L.length → (L.eraseIdx i).insertIdx i A = L.set i A
  | [], _, _, h => by simp at h
  | B :: L, 0, A, _ => by simp
  | B :: L, i + 1, A, h => by
    simp only [List.eraseIdx_cons_succ, List.insertIdx_succ_cons, List.set_cons_succ]
    rw [insert_erase L i A (by simpa using h)]

/-- What is owned at W, of what was there at w0 in F, and what is new. -/
def Own (w0 : World) (F : BSet) (L : List HP) (W : World) : Prop := ∃ S, Sat L W S ∧ (∀ b, S b → F b ∨ w0.heap.size ≤ b) ∧ Up F w0 W

section
variable {w0 W W' : World} {F : BSet} {L : List HP}

theorem Own.start {w : World} {S : BSet} (h : Sat L w S) : Own w S L w := ⟨S, h, fun _ h => .inl h, Up.refl _ _⟩
theorem Own.nil (w : World) : Own w none_ [] w := Own.start fun _ h => h
theorem Own.ofKeep {w w' : World} (h : Keep w w') : Own w none_ [] w' := ⟨none_, fun _ h => h, fun _ h => h.elim, Up.of_keep h⟩
theorem Own.up (h : Own w0 F L W) : Up F w0 W := let ⟨_, _, _, h⟩ := h; h
theorem Own.keep {L : List HP} {w : World} (h : Own w none_ L W) : Keep w W := h.up.keep

/-- Other blocks turn. -/
theorem Own.world {G : BSet} (h : Own w0 F L W) (hu : Up G W W') (hd : ∀ b, G b → W.heap.size ≤ b) : Own w0 F L W' := by
  obtain ⟨S, h1, h2, h3⟩ := h
  exact ⟨S, h1.up hu (fun b hb hg => by have := h1.lt b hb; have := hd b hg; omega), h2, h3.trans hu fun x hx => .inr (Nat.le_trans h3.size (hd x hx))⟩
theorem Own.drew (h : Own w0 F L W) : Own w0 F L W.drew := h.world (G := none_) ⟨Nat.le_refl _, rfl, rfl, rfl, fun _ _ _ => rfl⟩ fun _ h => h.elim
theorem Own.kept (h : Own w0 F L W) (hk : Keep W W') : Own w0 F L W' := h.world (G := none_) (Up.of_keep hk) fun _ h => h.elim
theorem Own.junk (h : Own w0 F L W) (o : Obj) : Own w0 F L (W.alloc o) := h.kept (Keep.alloc _ _)
/-- A new thing, of new blocks. -/
theorem Own.add {A : HP} {S1 : BSet} (h : Own w0 F L W) (hk : Keep W W') (ha : A.p W' S1) (hn : ∀ b, S1 b → W.heap.size ≤ b) : Own w0 F (A :: L) W' := by
  obtain ⟨S, h1, h2, h3⟩ := h.kept hk
  obtain ⟨S0, h1', h2', h3'⟩ := h
  refine ⟨fun b => S1 b ∨ S0 b, ⟨S1, S0, ha, h1'.up (F := none_) (Up.of_keep hk) (fun _ _ h => h), fun _ => Iff.rfl, fun b hb h => by have := hn b hb; have := h1'.lt b h; omega⟩, fun b hb => ?_, h3⟩
  rcases hb with hb | hb
  · exact .inr (Nat.le_trans h3'.size (hn b hb))
  · exact h2' b hb
theorem Own.alloc (h : Own w0 F L W) (T : TypeId) (cs : Array Value) : Own w0 F (.ob W.heap.size T cs.toList :: L) (W.alloc (.cells cs T)) :=
  h.add (S1 := fun x => x = W.heap.size) (Keep.alloc _ _) ⟨Blk.new _ _ _, fun _ => Iff.rfl⟩ fun b hb => by rw [hb]; exact Nat.le_refl _
theorem Own.allocM (h : Own w0 F L W) (es : Array MapEntry) (c : Nat) : Own w0 F (.mp W.heap.size es.toList c :: L) (W.alloc (.map es c)) :=
  h.add (S1 := fun x => x = W.heap.size) (Keep.alloc _ _) ⟨by rw [heap_alloc_new W], fun _ => Iff.rfl⟩ fun b hb => by rw [hb]; exact Nat.le_refl _
/-- An empty slice that is not nil. -/
theorem Own.allocV (h : Own w0 F L W) (T : TypeId) (sz : Nat) : Own w0 F (.vc T sz (.slice (some ⟨W.heap.size, 0, none⟩) 0 0) [] :: L) (W.alloc (.cells #[] T)) := by
  refine h.add (S1 := fun x => x ∈ [W.heap.size]) (Keep.alloc _ _) ⟨[W.heap.size], .inr ⟨W.heap.size, 0, 0, [], rfl, by simp, Nat.le_refl _, Nat.zero_le _, by simp, by simpa using Blk.new W T #[], rfl⟩, fun _ => Iff.rfl⟩ fun b hb => by simp at hb; rw [hb]; exact Nat.le_refl _
theorem Own.nilV (h : Own w0 F L W) (T : TypeId) (sz : Nat) : Own w0 F (.vc T sz (.slice none 0 0) [] :: L) W :=
  h.add (S1 := none_) (Keep.refl _) ⟨[], Sl.nil _ _ _, fun x => by simp [none_]⟩ fun _ h => h.elim

/-- Some of them, in another order. -/
def pick (L : List HP) : List Nat → List HP
  | [] => []
  | i :: r => match L[i]? with
    | some A => A :: pick L r
    | none => pick L r
theorem Sat.pick : ∀ {idx : List Nat} {L : List HP} {w : World} {S : BSet}, Sat L w S → idx.Nodup → (∃ S', Sat (Sx.pick L idx) w S' ∧ (∀ b, S' b → S b)) := by
  -- each index is taken out of the whole
  have key : ∀ (L : List HP) (w : World) (S : BSet), Sat L w S → ∃ f : Nat → BSet, (∀ (i : Nat) (A : HP), L[i]? = some A → A.p w (f i)) ∧ (∀ i b, f i b → S b) ∧ ∀ i j b, i ≠ j → f i b → ¬ f j b := by
    intro L
    induction L with
    | nil => intro w S h; exact ⟨fun _ => none_, by simp, fun _ _ h => h.elim, fun _ _ _ _ h => h.elim⟩
    | cons A L ih =>
      rintro w S ⟨S1, S2, h1, h2, h3, h4⟩
      obtain ⟨f, f1, f2, f3⟩ := ih w S2 h2
      refine ⟨fun i => match i with | 0 => S1 | i + 1 => f i, ?_, ?_, ?_⟩
      · intro i B hB
        cases i with
        | zero => simp at hB; subst hB; exact h1
        | succ i => exact f1 i B (by simpa using hB)
      · intro i b hb
        cases i with
        | zero => exact (h3 b).2 (.inl hb)
        | succ i => exact (h3 b).2 (.inr (f2 i b hb))
      · intro i j b hij hi hj
        cases i with
        | zero => cases j with
          | zero => exact hij rfl
          | succ j => exact h4 b hi (f2 j b hj)
        | succ i => cases j with
          | zero => exact h4 b hj (f2 i b hi)
          | succ j => exact f3 i j b (by omega) hi hj
  intro idx L w S h hn
  obtain ⟨f, f1, f2, f3⟩ := key L w S h
  suffices h : ∀ idx : List Nat, idx.Nodup → ∃ S', Sat (Sx.pick L idx) w S' ∧ (∀ b, S' b → ∃ i ∈ idx, f i b) by
    obtain ⟨S', h1, h2⟩ := h idx hn
    exact ⟨S', h1, fun b hb => by obtain ⟨i, _, hi⟩ := h2 b hb; exact f2 i b hi⟩
  intro idx
  induction idx with
  | nil => intro _; exact ⟨none_, fun _ h => h, fun _ h => h.elim⟩
  | cons i r ih =>
    intro hn
    obtain ⟨hir, hr⟩ := List.nodup_cons.1 hn
    obtain ⟨S', h1, h2⟩ := ih hr
    unfold Sx.pick
    cases hi : L[i]? with
    | none => exact ⟨S', h1, fun b hb => by obtain ⟨j, hj, hb⟩ := h2 b hb; exact ⟨j, by simp [hj], hb⟩⟩
    | some A =>
      refine ⟨fun b => f i b ∨ S' b, ⟨f i, S', f1 i A hi, h1, fun _ => Iff.rfl, fun b hb h => ?_⟩, fun b hb => ?_⟩
      · obtain ⟨j, hj, hb'⟩ := h2 b h
        exact f3 i j b (fun e => hir (e ▸ hj)) hb hb'
      · rcases hb with hb | hb
        · exact ⟨i, by simp, hb⟩
        · obtain ⟨j, hj, hb⟩ := h2 b hb; exact ⟨j, by simp [hj], hb⟩
theorem Own.pick (h : Own w0 F L W) (idx : List Nat) (hn : idx.Nodup := by decide) : Own w0 F (Sx.pick L idx) W := by
  obtain ⟨S, h1, h2, h3⟩ := h
  obtain ⟨S', h4, h5⟩ := h1.pick hn
  exact ⟨S', h4, fun b hb => h2 b (h5 b hb), h3⟩
theorem Own.pickL {M : List HP} (h : Own w0 F (M ++ L) W) (idx : List Nat) (hn : idx.Nodup := by decide) : Own w0 F (Sx.pick M idx ++ L) W := by
  obtain ⟨S, h1, h2, h3⟩ := h
  obtain ⟨S1, S2, h4, h5, h6, h7⟩ := Sat.append.1 h1
  obtain ⟨S', h8, h9⟩ := h4.pick hn
  exact ⟨fun b => S' b ∨ S2 b, Sat.append.2 ⟨S', S2, h8, h5, fun _ => Iff.rfl, fun b hb h => h7 b (h9 b hb) h⟩, fun b hb => h2 b ((h6 b).2 (hb.imp (h9 b) id)), h3⟩
theorem Own.app_l {M : List HP} (h : Own w0 F (L ++ M) W) : Own w0 F L W := by
  obtain ⟨S, h1, h2, h3⟩ := h
  obtain ⟨S1, S2, h4, h5, h6, h7⟩ := Sat.append.1 h1
  exact ⟨S1, h4, fun b hb => h2 b ((h6 b).2 (.inl hb)), h3⟩

theorem Own.ob {i b : Nat} {T : TypeId} {cs : List Value} (h : Own w0 F L W) (hi : L[i]? = some (.ob b T cs)) : W.heap[b]? = some (.cells cs.toArray T (0, 0)) := by
  obtain ⟨S, h1, _, _⟩ := h
  obtain ⟨S1, S2, h4, _⟩ := h1.at_ hi
  exact h4.1
theorem Own.mp {i b : Nat} {es : List MapEntry} {c : Nat} (h : Own w0 F L W) (hi : L[i]? = some (.mp b es c)) : W.heap[b]? = some (.map es.toArray c) := by
  obtain ⟨S, h1, _, _⟩ := h
  obtain ⟨S1, S2, h4, _⟩ := h1.at_ hi
  exact h4.1
theorem Own.vc {i : Nat} {T : TypeId} {sz : Nat} {v : Value} {cs : List Value} (h : Own w0 F L W) (hi : L[i]? = some (.vc T sz v cs)) : ∃ G, Sl W T sz v cs G := by
  obtain ⟨S, h1, _, _⟩ := h
  obtain ⟨S1, S2, ⟨G, h4, _⟩, _⟩ := h1.at_ hi
  exact ⟨G, h4⟩
theorem Own.len {i : Nat} {T : TypeId} {sz : Nat} {v : Value} {cs : List Value} (h : Own w0 F L W) (hi : L[i]? = some (.vc T sz v cs)) : ∃ a n cap, v = .slice a n cap ∧ cs.length = n * sz ∧ n ≤ cap := let ⟨_, h⟩ := h.vc hi; h.len
theorem Own.lt {i b : Nat} {T : TypeId} {cs : List Value} (h : Own w0 F L W) (hi : L[i]? = some (.ob b T cs)) : b < W.heap.size := (Array.getElem?_eq_some_iff.1 (h.ob hi)).1
theorem Own.ne {i j b c : Nat} {T U : TypeId} {cs ds : List Value} (h : Own w0 F L W) (hi : L[i]? = some (.ob b T cs)) (hj : L[j]? = some (.ob c U ds)) (hij : i ≠ j := by decide) : b ≠ c := by
  obtain ⟨S, h1, _, _⟩ := h
  have hp : Sx.pick L [i, j] = [.ob b T cs, .ob c U ds] := by simp [Sx.pick, hi, hj]
  obtain ⟨S', h4, _⟩ := Sat.pick (idx := [i, j]) h1 (by simp [hij])
  rw [hp] at h4
  obtain ⟨S1, S2, ⟨_, h5⟩, ⟨S3, S4, ⟨_, h6⟩, _, h7, _⟩, _, h8⟩ := h4
  intro e
  exact h8 b ((h5 b).2 rfl) ((h7 b).2 (.inl ((h6 b).2 e)))

/-- One of them turns, in its own blocks and new ones. -/
theorem Own.turn {i : Nat} {A B : HP} (h : Own w0 F L W) (hi : L[i]? = some A)
    (hB : ∀ S, A.p W S → ∃ S', B.p W' S' ∧ Up S W W' ∧ ∀ b, S' b → S b ∨ W.heap.size ≤ b) : Own w0 F (L.set i B) W' := by
  obtain ⟨S, h1, h2, h3⟩ := h
  obtain ⟨S1, S2, h4, h5, h6, h7⟩ := h1.at_ hi
  obtain ⟨S', hb, hu, hs⟩ := hB S1 h4
  have hil : i < L.length := (List.getElem?_eq_some_iff.1 hi).1
  refine ⟨fun b => S' b ∨ S2 b, ?_, fun b hb => ?_, h3.trans hu fun x hx => h2 x ((h6 x).2 (.inl hx))⟩
  · rw [← insert_erase L i B hil]
    refine Sat.put (by rw [List.length_eraseIdx]; split <;> omega) hb (h5.up hu fun b hb h => h7 b h hb) fun b hb h => ?_
    rcases hs b hb with e | e
    · exact h7 b e h
    · have := h5.lt b h; omega
  · rcases hb with hb | hb
    · rcases hs b hb with e | e
      · exact h2 b ((h6 b).2 (.inl e))
      · exact .inr (Nat.le_trans h3.size e)
    · exact h2 b ((h6 b).2 (.inr hb))
theorem Own.set {i b : Nat} {T : TypeId} {cs : List Value} (h : Own w0 F L W) (hi : L[i]? = some (.ob b T cs)) (ds : Array Value) : Own w0 F (L.set i (.ob b T ds.toList)) (W.setRow b ds) :=
  h.turn hi fun S ⟨h1, h2⟩ => ⟨S, ⟨h1.set ds, h2⟩, ⟨by simp, rfl, rfl, rfl, fun x _ hx => setRow_other W b x ds fun e => hx ((h2 x).2 e)⟩, fun x hx => .inl hx⟩
/-- Cells of a slice turn. -/
theorem Own.setV {i g n cap : Nat} {T : TypeId} {sz : Nat} {cs : List Value} (h : Own w0 F L W) (hi : L[i]? = some (.vc T sz (.slice (some ⟨g, 0, none⟩) n cap) cs)) (ds sp : List Value) (hl : ds.length = cs.length) (hsp : W.heap[g]? = some (.cells (cs ++ sp).toArray T (0, 0))) :
    Own w0 F (L.set i (.vc T sz (.slice (some ⟨g, 0, none⟩) n cap) ds)) (W.setRow g (ds ++ sp).toArray) := by
  refine h.turn hi fun S ⟨G, h1, h2⟩ => ?_
  rcases h1 with ⟨h1, _⟩ | ⟨g', n', cap', sp', h1, h3, h4, h5, h6, h7, rfl⟩
  · cases h1
  · cases h1
    have hs : sp' = sp := by
      have := h7.symm.trans hsp
      simp only [Option.some.injEq, Obj.cells.injEq, List.toArray_inj, List.append_cancel_left_eq] at this
      have := this.1
      simpa using this
    subst hs
    refine ⟨S, ⟨[g], .inr ⟨g, n, cap, sp', rfl, by rw [hl]; exact h3, h4, h5, h6, by have := h7.set (ds ++ sp').toArray; simpa using this, rfl⟩, h2⟩, ⟨by simp, rfl, rfl, rfl, fun x _ hx => setRow_other W g x _ fun e => hx ((h2 x).2 (by simp [e]))⟩, fun x hx => .inl hx⟩

/-- A call, what it asks being at the head of the list. -/
def Con (P : Program) (f : FuncId) (args : List Value) (w : World) (L : List HP) (R : Value → List HP → Prop) : Prop :=
  ∀ S, Sat L w S → Calls P f args.toArray w fun en w' => ∃ v L', en = .returned v ∧ R v L' ∧ Own w S L' w'
/-- A call that leaves all as it was. -/
def ConK (P : Program) (f : FuncId) (args : List Value) (w : World) (L : List HP) (R : Value → List HP → Prop) : Prop :=
  ∀ S, Sat L w S → Calls P f args.toArray w fun en w' => ∃ v L', en = .returned v ∧ R v L' ∧ Own w none_ L' w'

theorem Own.call {P : Program} {f : FuncId} {args : List Value} {M : List HP} {R : Value → List HP → Prop} {K : Value → World → Prop} (h : Own w0 F (L ++ M) W) (hC : Con P f args W L R)
    (hK : ∀ v L' W', R v L' → Own w0 F (L' ++ M) W' → K v W') : Calls P f args.toArray W fun en w' => ∃ v, en = .returned v ∧ K v w' := by
  obtain ⟨S, h1, h2, h3⟩ := h
  obtain ⟨S1, S2, h4, h5, h6, h7⟩ := Sat.append.1 h1
  refine Calls.mono (hC S1 h4) ?_
  rintro en w' ⟨v, L', rfl, hR, S', g1, g2, g3⟩
  refine ⟨v, rfl, hK v L' w' hR ⟨fun b => S' b ∨ S2 b, Sat.append.2 ⟨S', S2, g1, h5.up g3 (fun b hb h => h7 b h hb), fun _ => Iff.rfl, fun b hb h => ?_⟩, fun b hb => ?_, h3.trans g3 fun x hx => h2 x ((h6 x).2 (.inl hx))⟩⟩
  · rcases g2 b hb with e | e
    · exact h7 b e h
    · have := h5.lt b h; omega
  · rcases hb with hb | hb
    · rcases g2 b hb with e | e
      · exact h2 b ((h6 b).2 (.inl e))
      · exact .inr (Nat.le_trans h3.size e)
    · exact h2 b ((h6 b).2 (.inr hb))
theorem Own.callK {P : Program} {f : FuncId} {args : List Value} {N : List HP} {R : Value → List HP → Prop} {K : Value → World → Prop} (h : Own w0 F N W) (hp : Own w0 F L W) (hC : ConK P f args W L R)
    (hK : ∀ v L' W', R v L' → Keep W W' → Own w0 F (L' ++ N) W' → K v W') : Calls P f args.toArray W fun en w' => ∃ v, en = .returned v ∧ K v w' := by
  obtain ⟨S0, h0, _, _⟩ := hp
  refine Calls.mono (hC S0 h0) ?_
  rintro en w' ⟨v, L', rfl, hR, S', g1, g2, g3⟩
  obtain ⟨S, h1, h2, h3⟩ := h
  have hn : ∀ b, S' b → W.heap.size ≤ b := fun b hb => (g2 b hb).elim (fun h => h.elim) id
  refine ⟨v, rfl, hK v L' w' hR g3.keep ⟨fun b => S' b ∨ S b, Sat.append.2 ⟨S', S, g1, h1.up g3 (fun _ _ h => h), fun _ => Iff.rfl, fun b hb h => ?_⟩, fun b hb => ?_, h3.trans g3 fun _ h => h.elim⟩⟩
  · have := hn b hb; have := h1.lt b h; omega
  · rcases hb with hb | hb
    · exact .inr (Nat.le_trans h3.size (hn b hb))
    · exact h2 b hb

theorem Own.pure {φ : Prop} : Own w0 F (.pure φ :: L) W ↔ φ ∧ Own w0 F L W := by
  constructor
  · rintro ⟨S, ⟨S1, S2, ⟨hφ, h1⟩, h2, h3, h4⟩, h5, h6⟩
    exact ⟨hφ, S2, h2, fun b hb => h5 b ((h3 b).2 (.inr hb)), h6⟩
  · rintro ⟨hφ, S, h1, h2, h3⟩
    exact ⟨S, ⟨none_, S, ⟨hφ, fun _ h => h⟩, h1, fun b => ⟨.inr, fun h => h.elim False.elim id⟩, fun _ h => h.elim⟩, h2, h3⟩
theorem Own.ex {α : Type} {f : α → HP} : Own w0 F (.ex f :: L) W ↔ ∃ x, Own w0 F (f x :: L) W := by
  constructor
  · rintro ⟨S, ⟨S1, S2, ⟨x, h1⟩, h2⟩, h5⟩
    exact ⟨x, S, ⟨S1, S2, h1, h2⟩, h5⟩
  · rintro ⟨x, S, ⟨S1, S2, h1, h2⟩, h5⟩
    exact ⟨S, ⟨S1, S2, ⟨x, h1⟩, h2⟩, h5⟩
/-- All of a list, as one thing. -/
def HP.all (M : List HP) : HP where
  p w S := Sat M w S
  lt h := Sat.lt h
  st h := Sat.st h
theorem Own.all {M : List HP} : Own w0 F (.all M :: L) W ↔ Own w0 F (M ++ L) W := by
  constructor
  · rintro ⟨S, ⟨S1, S2, h1, h2, h3, h4⟩, h5⟩
    exact ⟨S, Sat.append.2 ⟨S1, S2, h1, h2, h3, h4⟩, h5⟩
  · rintro ⟨S, h, h5⟩
    obtain ⟨S1, S2, h1, h2, h3, h4⟩ := Sat.append.1 h
    exact ⟨S, ⟨S1, S2, h1, h2, h3, h4⟩, h5⟩
/-- One out of many. -/
theorem Own.out {M : List HP} {k : Nat} {A : HP} (hk : M[k]? = some A) : Own w0 F (.all M :: L) W ↔ Own w0 F (A :: .all (M.eraseIdx k) :: L) W := by
  have hkl : k < M.length := (List.getElem?_eq_some_iff.1 hk).1
  have hset : M.set k A = M := by
    apply List.ext_getElem?
    intro j
    rw [List.getElem?_set]
    split
    · rename_i h; subst h; first | rw [if_pos hkl, hk] | rw [hk]
    · rfl
  constructor
  · rintro ⟨S, ⟨S1, S2, h1, h2, h3, h4⟩, h5⟩
    obtain ⟨S3, S4, g1, g2, g3, g4⟩ := Sat.at_ h1 hk
    refine ⟨S, ⟨S3, fun b => S4 b ∨ S2 b, g1, ⟨S4, S2, g2, h2, fun _ => Iff.rfl, fun b hb h => h4 b ((g3 b).2 (.inr hb)) h⟩, fun b => by rw [h3, g3, or_assoc], fun b hb h => ?_⟩, h5⟩
    rcases h with h | h
    · exact g4 b hb h
    · exact h4 b ((g3 b).2 (.inl hb)) h
  · rintro ⟨S, ⟨S3, S5, g1, ⟨S4, S2, g2, h2, h3, h4⟩, h6, h7⟩, h5⟩
    refine ⟨S, ⟨fun b => S3 b ∨ S4 b, S2, ?_, h2, fun b => by rw [h6, h3, or_assoc], fun b hb h => ?_⟩, h5⟩
    · have := Sat.put (i := k) (by rw [List.length_eraseIdx]; split <;> omega) g1 g2 (fun b hb h => h7 b hb ((h3 b).2 (.inl h)))
      rw [insert_erase M k A hkl, hset] at this
      exact this
    · rcases hb with hb | hb
      · exact h7 b hb ((h3 b).2 (.inr h))
      · exact h4 b hb h
theorem Own.in_ {M : List HP} {k : Nat} {A B : HP} (hk : M[k]? = some A) (h : Own w0 F (B :: .all (M.eraseIdx k) :: L) W) : Own w0 F (.all (M.set k B) :: L) W := by
  have hkl : k < M.length := (List.getElem?_eq_some_iff.1 hk).1
  have e : (M.set k B).eraseIdx k = M.eraseIdx k := List.eraseIdx_set_eq ..
  refine (Own.out (k := k) (A := B) (by simp [hkl])).2 ?_
  rw [e]; exact h
theorem Own.one {A : HP} : Own w0 F (.all [A] :: L) W ↔ Own w0 F (A :: L) W := Own.all
end

/-! ### Rows: lists of things that have so many cells each -/
def rowsL {α : Type} (enc : α → List Value) (l : List α) : List Value := (l.map enc).flatten
section
variable {α : Type} {enc : α → List Value} {sz : Nat}
theorem rowsL_nil : rowsL enc [] = [] := rfl
theorem rowsL_cons (a : α) (l : List α) : rowsL enc (a :: l) = enc a ++ rowsL enc l := rfl
theorem rowsL_app (a b : List α) : rowsL enc (a ++ b) = rowsL enc a ++ rowsL enc b := by simp [rowsL]
theorem rowsL_one (a : α) : rowsL enc [a] = enc a := by simp [rowsL]
theorem rowsL_len : ∀ (l : List α), (∀ a ∈ l, (enc a).length = sz) → (rowsL enc l).length = l.length * sz
  | [], _ => by simp [rowsL]
  | a :: l, h => by
    rw [rowsL_cons, List.length_append, h a List.mem_cons_self, rowsL_len l fun b hb => h b (List.mem_cons_of_mem _ hb), List.length_cons, Nat.succ_mul, Nat.add_comm]
theorem rowsL_take : ∀ (l : List α) (i : Nat), (∀ a ∈ l, (enc a).length = sz) → rowsL enc (l.take i) = (rowsL enc l).take (i * sz)
  | [], i, _ => by simp [rowsL]
  | a :: l, 0, _ => by simp [rowsL]
  | a :: l, i + 1, h => by
    have h1 := h a List.mem_cons_self
    rw [List.take_succ_cons, rowsL_cons, rowsL_cons, rowsL_take l i fun b hb => h b (List.mem_cons_of_mem _ hb), List.take_append, h1, List.take_of_length_le (l := enc a) (by rw [h1, Nat.succ_mul]; omega), Nat.succ_mul, Nat.add_sub_cancel]
theorem rowsL_drop : ∀ (l : List α) (i : Nat), (∀ a ∈ l, (enc a).length = sz) → rowsL enc (l.drop i) = (rowsL enc l).drop (i * sz)
  | [], i, _ => by simp [rowsL]
  | a :: l, 0, _ => by simp [rowsL]
  | a :: l, i + 1, h => by
    have h1 := h a List.mem_cons_self
    rw [List.drop_succ_cons, rowsL_cons, rowsL_drop l i fun b hb => h b (List.mem_cons_of_mem _ hb), Nat.succ_mul, Nat.add_comm, ← h1, List.drop_length_add_append]
theorem rowsL_erase (l : List α) (i : Nat) (h : ∀ a ∈ l, (enc a).length = sz) : rowsL enc (l.eraseIdx i) = (rowsL enc l).take (i * sz) ++ (rowsL enc l).drop ((i + 1) * sz) := by
  rw [List.eraseIdx_eq_take_drop_succ, rowsL_app, rowsL_take l i h, rowsL_drop l (i + 1) h]
theorem rowsL_at : ∀ (l : List α) (k : Nat) (sp : List Value), (∀ a ∈ l, (enc a).length = sz) → (h : k < l.length) → ∃ post, (rowsL enc l ++ sp).drop (k * sz) = enc l[k] ++ post
  | a :: r, 0, sp, hh, _ => ⟨rowsL enc r ++ sp, by simp [rowsL_cons]⟩
  | a :: r, k + 1, sp, hh, h => by
    obtain ⟨post, hp⟩ := rowsL_at r k sp (fun b hb => hh b (List.mem_cons_of_mem _ hb)) (by simpa using h)
    refine ⟨post, ?_⟩
    have h1 := hh a List.mem_cons_self
    rw [rowsL_cons, List.append_assoc, Nat.succ_mul, Nat.add_comm, ← List.drop_drop, ← h1, List.drop_left, h1, hp]
    rfl
theorem Sl.cells {w : World} {T : TypeId} {v : Value} {cs : List Value} {F : List Nat} (h : Sl w T sz v cs F) (hne : cs ≠ []) :
    ∃ g n cap sp, v = .slice (some ⟨g, 0, none⟩) n cap ∧ cs.length = n * sz ∧ n ≤ cap ∧ w.heap[g]? = some (.cells (cs ++ sp).toArray T (0, 0)) := by
  rcases h with ⟨_, h, _⟩ | ⟨g, n, cap, sp, h1, h2, h3, _, _, h4, _⟩
  · exact absurd h hne
  · exact ⟨g, n, cap, sp, h1, h2, h3, h4⟩
theorem Sl.count {w : World} {T : TypeId} {v : Value} {l : List α} {F : List Nat} (h : Sl w T sz v (rowsL enc l) F) (hl : ∀ a ∈ l, (enc a).length = sz) (hpos : 0 < sz) : ∃ a cap, v = .slice a l.length cap := by
  obtain ⟨a, n, cap, rfl, h1, _⟩ := h.len
  rw [rowsL_len l hl] at h1
  have : l.length = n := Nat.eq_of_mul_eq_mul_right hpos h1
  exact ⟨a, cap, by rw [this]⟩
theorem Sl.row {w : World} {T : TypeId} {v : Value} {l : List α} {F : List Nat} (h : Sl w T sz v (rowsL enc l) F) (hl : ∀ a ∈ l, (enc a).length = sz) (hpos : 0 < sz) {k : Nat} (hk : k < l.length) :
    ∃ g cap c, v = .slice (some ⟨g, 0, none⟩) l.length cap ∧ w.heap[g]? = some (.cells c T (0, 0)) ∧ k * sz + sz ≤ c.size ∧ (c.toList.drop (k * sz)).take sz = enc l[k] ∧ (∀ j, j < sz → c[k * sz + j]? = (enc l[k])[j]?) ∧ g < w.heap.size := by
  have hlen := rowsL_len l hl
  have hm : k * sz + sz ≤ l.length * sz := by rw [← Nat.succ_mul]; exact Nat.mul_le_mul_right _ hk
  obtain ⟨g, n, cap, sp, rfl, h1, _, h2⟩ := h.cells (by have h0 : 0 < (rowsL enc l).length := by { rw [hlen]; exact Nat.mul_pos (by omega) hpos }; exact fun e => by rw [e] at h0; exact absurd h0 (by simp))
  have hn : l.length = n := by rw [hlen] at h1; exact Nat.eq_of_mul_eq_mul_right hpos h1
  obtain ⟨post, hp⟩ := rowsL_at l k sp hl hk
  have he := hl l[k] (List.getElem_mem _)
  refine ⟨g, cap, _, by rw [hn], h2, by simp [hlen]; omega, ?_, ?_, (Array.getElem?_eq_some_iff.1 h2).1⟩
  · show ((rowsL enc l ++ sp).drop (k * sz)).take sz = _
    rw [hp, List.take_left' he]
  · intro j hj
    have h3 : (rowsL enc l ++ sp)[k * sz + j]? = ((rowsL enc l ++ sp).drop (k * sz))[j]? := by rw [List.getElem?_drop]
    simp only [List.getElem?_toArray]
    rw [h3, hp, List.getElem?_append_left (by omega)]
end

theorem sat_nils (w : World) (T : TypeId) (sz : Nat) : ∀ n : Nat, Sat (List.replicate n (HP.vc T sz (.slice none 0 0) [])) w none_
  | 0 => fun _ h => h
  | n + 1 => ⟨none_, none_, ⟨[], Sl.nil _ _ _, fun x => by simp [none_]⟩, sat_nils w T sz n, fun b => by simp [none_], fun _ h => h.elim⟩
theorem Own.nils {w0 W : World} {F : BSet} {L : List HP} (h : Own w0 F L W) (T : TypeId) (sz n : Nat) : Own w0 F (.all (List.replicate n (HP.vc T sz (.slice none 0 0) [])) :: L) W :=
  h.add (S1 := none_) (Keep.refl _) (sat_nils W T sz n) fun _ h => h.elim
theorem zipWith_set {α β γ : Type} (f : α → β → γ) : ∀ (l : List α) (m : List β) (k : Nat) (a : α) (b : β), List.zipWith f (l.set k a) (m.set k b) = (List.zipWith f l m).set k (f a b)
  | [], [], k, a, b => by simp
  | [], _ :: _, k, a, b => by simp
  | _ :: _, [], k, a, b => by cases k <;> simp
  | x :: l, y :: m, 0, a, b => by simp
  | x :: l, y :: m, k + 1, a, b => by simp [zipWith_set f l m k a b]
theorem zipWith_at {α β γ : Type} (f : α → β → γ) (l : List α) (m : List β) (k : Nat) (h1 : k < l.length) (h2 : k < m.length) : (List.zipWith f l m)[k]? = some (f l[k] m[k]) := by
  rw [List.getElem?_zipWith]; simp [h1, h2]

theorem splice_one {l : List Value} {k : Nat} {v : Value} (h : k < l.length) : splice l.toArray k [v] = (l.set k v).toArray := by
  unfold splice
  congr 1
  rw [List.set_eq_take_append_cons_drop, if_pos h]
  simp

/-- 'xs = append(xs, x)', x in a new block. -/
theorem Own.app {P : Program} {w0 W : World} {F : BSet} {L : List HP} {i : Nat} {t ty T : TypeId} {ti : TypeInfo} {z : Value} {sz bytes : Nat} (ht : P.underlying t = some (.slice T)) (hti : P.info? T = some ti) (hz : ti.zero = some z) (hsz : ti.size = sz) (hby : ti.bytes = bytes) (hzs : z.cells.size = sz) (hpos : 0 < sz)
    {v : Value} {cs : List Value} (h : Own w0 F L W) (hi : L[i]? = some (.vc T sz v cs)) {news : List Value} (hl : news.length = sz) (h1 : ∀ u ∈ news, u.oneCell' = true)
    (hroom : (cs.length + sz) * bytes ≤ 140737488355328 * sz) (hlen : cs.length + sz ≤ maxLen) {n : Nat} (hn : n = W.heap.size) {K : Value → World → Prop}
    (hK : ∀ a m c W', Own w0 F (L.set i (.vc T sz (.slice a m c) (cs ++ news))) W' → K (.slice a m c) W') :
    ∃ v' w', (Builtin.append_ #[t, t] ty #[v, .slice (some ⟨n, 0, none⟩) 1 1]).run P (W.alloc (.cells news.toArray T)) = .ok v' w' ∧ K v' w' := by
  subst hn
  obtain ⟨G0, hsl⟩ := h.vc hi
  obtain ⟨v', w', hr, hk⟩ := append1 (ty := ty) ht hti hz hsz hby hzs hpos hsl hl h1 hroom hlen rfl
    (K := fun v' w' => ∃ a m c, v' = .slice a m c ∧ ∃ F', Sl w' T sz v' (cs ++ news) F' ∧ Upd G0 W w' ∧ ∀ b ∈ F', b ∈ G0 ∨ W.heap.size ≤ b)
    fun a m c w' F' h1 h2 h3 => ⟨a, m, c, rfl, F', h1, h2, h3⟩
  obtain ⟨a, m, c, rfl, F', hs', hu', hf'⟩ := hk
  refine ⟨_, w', hr, hK a m c w' (h.turn hi fun S ⟨G, h3, h4⟩ => ?_)⟩
  have hG : G = G0 := by
    rcases h3 with ⟨e1, _, e2⟩ | ⟨g, n, cap, sp, e1, _, _, _, _, _, e2⟩ <;> rcases hsl with ⟨e3, _, e4⟩ | ⟨g', n', cap', sp', e3, _, _, _, _, _, e4⟩
    · rw [e2, e4]
    · rw [e1] at e3; cases e3
    · rw [e1] at e3; cases e3
    · rw [e1] at e3; cases e3; rw [e2, e4]
  subst hG
  exact ⟨fun x => x ∈ F', ⟨F', hs', fun _ => Iff.rfl⟩, ⟨hu'.size, hu'.os, hu'.tape, hu'.output, fun b hb hf => hu'.block b hb fun e => hf ((h4 b).2 e)⟩, fun b hb => (hf' b hb).imp (fun e => (h4 b).2 e) id⟩
end Go.Sx
