/-
  SxA: a region that draws its order, by one chosen order: each operation of the chosen order may be taken there, whatever the tape says.
-/
import Derived.OrdersHeld
namespace Go.Sx
open Go

/-- Nothing that stood is other than it was. -/
structure Keep (w w' : World) : Prop where
  size : w.heap.size ≤ w'.heap.size
  block : ∀ b, b < w.heap.size → w'.heap[b]? = w.heap[b]?
  os : w'.os = w.os
  tape : w'.tape = w.tape
  output : w'.output = w.output

theorem Keep.refl (w : World) : Keep w w := ⟨Nat.le_refl _, fun _ _ => rfl, rfl, rfl, rfl⟩
theorem Keep.trans {a b c : World} (h : Keep a b) (h' : Keep b c) : Keep a c :=
  ⟨Nat.le_trans h.size h'.size, fun k hk => (h'.block k (Nat.lt_of_lt_of_le hk h.size)).trans (h.block k hk), h'.os.trans h.os, h'.tape.trans h.tape, h'.output.trans h.output⟩
theorem Keep.drew (w : World) : Keep w { w with drawn := w.drawn + 1 } := ⟨Nat.le_refl _, fun _ _ => rfl, rfl, rfl, rfl⟩

section
variable {P : Program} {ops : Array Oper} {Q : Exit → Act → World → Prop} {S : World → Prop} {eff need : Nat → Bool}

/-- Whatever order is picked from here on; behind each operation that 'need' names S holds. -/
def wpAnyN (P : Program) (ops : Array Oper) (Q : Exit → Act → World → Prop) (S : World → Prop) (eff need : Nat → Bool) : Nat → Array Bool → Act → World → Prop
  | 0, listed, a, w => Region.ready .any ops listed = [] ∧ Q .normal a w
  | fuel + 1, listed, a, w =>
    (Region.ready .any ops listed = [] → Q .normal a w) ∧
    ∀ i ∈ Region.ready .any ops listed, wpOp P ops Q i (fun a' w' => ((eff i = false → w' = w) ∧ (need i = true → S w')) ∧ wpAnyN P ops Q S eff need fuel (listed.setIfInBounds i true) a' w') a w

theorem wpAny_of_N : ∀ (fuel : Nat) (listed : Array Bool) (a : Act) (w : World), wpAnyN P ops Q S eff need fuel listed a w → wpAny P .any ops Q fuel listed a w
  | 0, _, _, _, h => h
  | fuel + 1, _, _, _, h => ⟨h.1, fun i hi => wpOp_mono (fun a' w' h' => wpAny_of_N fuel _ a' w' h'.2) (h.2 i hi)⟩

/-- 'j' waits for 'i', straight or through others. -/
def waitsB (ops : Array Oper) : Nat → Nat → Nat → Bool
  | 0, _, _ => false
  | fuel + 1, j, i => match ops[j]? with
    | some o => o.after.any fun e => Region.binds .any e && (e.on == i || waitsB ops fuel e.on i)
    | none => false

def Closed (ops : Array Oper) (listed : Array Bool) : Prop :=
  ∀ j o, ops[j]? = some o → listed.getD j false = true → ∀ e ∈ o.after, Region.binds .any e = true → listed.getD e.on false = true

theorem Closed.waited {listed : Array Bool} (hc : Closed ops listed) : ∀ (fuel j i : Nat), listed.getD j false = true → waitsB ops fuel j i = true → listed.getD i false = true
  | 0, _, _, _, h => by simp [waitsB] at h
  | fuel + 1, j, i, hj, h => by
    unfold waitsB at h
    cases ho : ops[j]? with
    | none => simp [ho] at h
    | some o =>
      simp only [ho, Array.any_eq_true', Bool.and_eq_true, Bool.or_eq_true, beq_iff_eq] at h
      obtain ⟨e, he, hb, h | h⟩ := h
      · exact h ▸ hc j o ho hj e he hb
      · exact hc.waited fuel e.on i (hc j o ho hj e he hb) h

theorem Closed.ready_waits {listed : Array Bool} (hc : Closed ops listed) {fuel j i : Nat} (hj : j ∈ Region.ready .any ops listed) (h : waitsB ops fuel j i = true) : listed.getD i false = true := by
  obtain ⟨_, o, ho, hall⟩ := mem_ready.1 hj
  cases fuel with
  | zero => simp [waitsB] at h
  | succ fuel =>
    unfold waitsB at h
    simp only [ho, Array.any_eq_true', Bool.and_eq_true, Bool.or_eq_true, beq_iff_eq] at h
    obtain ⟨e, he, hb, h | h⟩ := h
    · exact h ▸ hall e he hb
    · exact hc.waited fuel e.on i (hall e he hb) h

theorem Closed.set {listed : Array Bool} (hc : Closed ops listed) {j : Nat} (hj : j ∈ Region.ready .any ops listed) : Closed ops (listed.setIfInBounds j true) := by
  intro k o ho hk e he hb
  obtain ⟨_, oj, hoj, hall⟩ := mem_ready.1 hj
  by_cases hkj : k = j
  · subst hkj
    rw [hoj] at ho; cases ho
    exact getD_set_true (hall e he hb)
  · rw [getD_set_ne false (Ne.symm hkj)] at hk
    exact getD_set_true (hc k o ho hk e he hb)

theorem unlisted_of_ready {listed : Array Bool} {i : Nat} (h : i ∈ Region.ready .any ops listed) : listed.getD i false = false := by
  have h0 := (mem_ready.1 h).1
  rcases Nat.lt_or_ge i listed.size with h' | h'
  · simpa [h'] using h0
  · simp [Array.getElem?_eq_none h'] at h0

/-- 'i' may be taken first: every other one that hasn't come up waits for it, or is apart from it and keeps what it wants. -/
def Free (ops : Array Oper) (eff need : Nat → Bool) (load : Bool) (W : Nat → Nat → Bool) (listed : Array Bool) (i : Nat) (oi : Oper) : Prop :=
  ∀ j oj, ops[j]? = some oj → j ≠ i → listed.getD j true = false → W j i = false →
    oi.apart ops oj = true ∧ (load = true → eff j = true → need j = true)

theorem wpAnyN_first {i : Nat} {oi : Oper} {v : Value} {load : Bool} {W : Nat → Nat → Bool} (hW : ∀ j i, W j i = true → ∃ f, waitsB ops f j i = true) (hi : ops[i]? = some oi) (hsel : ∀ (j : Nat) (o : Oper) cs b, ops[j]? = some o → o.op ≠ .select cs b)
    (hne : need i = false) (hQ : ∀ c a w, Q (.panic c) (a.put oi.dst v) w → Q (.panic c) a w) :
    ∀ (fuel : Nat) (listed : Array Bool) (a : Act) (w : World), Closed ops listed →
      Free ops eff need load W listed i oi →
      i ∈ Region.ready .any ops listed → YieldsIf P ops (fun w => load = true → S w) oi v a → (load = true → S w) →
      wpAnyN P ops Q S eff need fuel (listed.setIfInBounds i true) (a.put oi.dst v) w → wpAnyN P ops Q S eff need (fuel + 1) listed a w := by
  intro fuel
  induction fuel with
  | zero =>
    intro listed a w _ _ hr hy hS H
    refine ⟨fun h => (by rw [h] at hr; cases hr), fun j hj => ?_⟩
    by_cases hji : j = i
    · subst hji
      exact hy.wpOp hi hS ⟨⟨fun _ => rfl, fun h => by rw [hne] at h; cases h⟩, H⟩
    · have := ready_mono hj hji
      rw [H.1] at this
      cases this
  | succ fuel ih =>
    intro listed a w hcl hfree hr hy hS H
    refine ⟨fun h => (by rw [h] at hr; cases hr), fun j hj => ?_⟩
    by_cases hji : j = i
    · subst hji
      exact hy.wpOp hi hS ⟨⟨fun _ => rfl, fun h => by rw [hne] at h; cases h⟩, H⟩
    · have h1 := H.2 j (ready_mono hj hji)
      obtain ⟨hjun, oj, hoj, hall⟩ := mem_ready.1 hj
      have hnw : W j i = false := by
        cases hw : W j i with
        | false => rfl
        | true => obtain ⟨f, hf⟩ := hW j i hw; have := hcl.ready_waits hj hf; rw [unlisted_of_ready hr] at this; cases this
      obtain ⟨hap, hneed⟩ := hfree j oj hoj hji hjun hnw
      have h2 := wpOp_putIf hoj hap (fun cs b => hsel i oi cs b hi) (fun cs b => hsel j oj cs b hoj) hQ hy h1
      refine wpOp_mono (fun a' w' h3 => ⟨h3.2.1, ih (listed.setIfInBounds j true) a' w' (hcl.set hj) ?_ (ready_mono hr (Ne.symm hji)) h3.1 (fun h => ?_) ?_⟩) h2
      · intro k ok hk hki hun hno
        refine hfree k ok hk hki ?_ hno
        by_cases hjk : j = k
        · subst hjk; exact hjun
        · rw [getD_set_ne true hjk] at hun; exact hun
      · cases he : eff j with
        | true => exact h3.2.1.2 (hneed h he)
        | false => rw [h3.2.1.1 he]; exact hS h
      · rw [Array.setIfInBounds_comm _ _ hji]
        exact h3.2.2

/-- It alone may come up. -/
theorem wpAnyN_only {i : Nat} {fuel : Nat} {listed : Array Bool} {a : Act} {w : World} (hr : Region.ready .any ops listed = [i])
    (h : wpOp P ops Q i (fun a' w' => ((eff i = false → w' = w) ∧ (need i = true → S w')) ∧ wpAnyN P ops Q S eff need fuel (listed.setIfInBounds i true) a' w') a w) : wpAnyN P ops Q S eff need (fuel + 1) listed a w := by
  refine ⟨fun h0 => ?_, fun j hj => ?_⟩
  · rw [hr] at h0; cases h0
  · rw [hr] at hj
    obtain rfl : j = i := by simpa using hj
    exact h

theorem wpAnyN_done {listed : Array Bool} {a : Act} {w : World} (hr : Region.ready .any ops listed = []) (h : Q .normal a w) :
    ∀ fuel, wpAnyN P ops Q S eff need fuel listed a w
  | 0 => ⟨hr, h⟩
  | _ + 1 => ⟨fun _ => h, by rw [hr]; simp⟩

theorem wp_region_N {id : Nat} {a : Act} {w : World} (hm : P.follows .mixedOrders = true)
    (h : wpAnyN P ops Q S eff need ops.size (Array.replicate ops.size false) a { w with drawn := w.drawn + 1 }) : (Code.region id ops true).wp P Q a w :=
  wp_region_any hm (wpAny_of_N _ _ _ _ h)
end

/-- What an operation is: it only reckons; it reads memory; it does something. -/
inductive Kind where
  | pure | load | eff
  deriving DecidableEq, Inhabited

/-- The chosen order, semantically. -/
def wpPi (P : Program) (ops : Array Oper) (Q : Exit → Act → World → Prop) (S : World → Prop) (need : Nat → Bool) (kind : Oper → Kind) : List Nat → Act → World → Prop
  | [], a, w => Q .normal a w
  | i :: r, a, w => ∃ o, ops[i]? = some o ∧
    match kind o with
    | .pure => ∃ v, YieldsIf P ops (fun _ => True) o v a ∧ wpPi P ops Q S need kind r (a.put o.dst v) w
    | .load => ∃ v, S w ∧ YieldsIf P ops S o v a ∧ wpPi P ops Q S need kind r (a.put o.dst v) w
    | .eff => wpOp P ops Q i (fun a' w' => (need i = true → S w') ∧ wpPi P ops Q S need kind r a' w') a w

def effOf (ops : Array Oper) (kind : Oper → Kind) (i : Nat) : Bool := match ops[i]? with
  | some o => kind o == .eff
  | none => true

section
variable {P : Program} {ops : Array Oper} {Q : Exit → Act → World → Prop} {S : World → Prop} {need : Nat → Bool} {kind : Oper → Kind}

/-- In the text's own order. -/
theorem wpOps_of_pi : ∀ (l : List Nat) (a : Act) (w : World), wpPi P ops Q S need kind l a w → wpOps P ops Q l a w
  | [], _, _, h => h
  | i :: r, a, w, h => by
    obtain ⟨o, ho, h⟩ := h
    rw [wpOps_cons]
    cases hk : kind o <;> simp only [hk] at h
    · obtain ⟨v, hy, h⟩ := h
      exact hy.wpOp ho trivial (wpOps_of_pi r _ _ h)
    · obtain ⟨v, hS, hy, h⟩ := h
      exact hy.wpOp ho hS (wpOps_of_pi r _ _ h)
    · exact wpOp_mono (fun a' w' h' => wpOps_of_pi r _ _ h'.2) h

/-! Sets of operations as numbers: bit 'j' for operation 'j'. -/
def dmask (l : List Edge) : Nat := match l with
  | [] => 0
  | e :: r => if Region.binds .any e then (1 <<< e.on) ||| dmask r else dmask r

theorem dmask_spec (l : List Edge) (k : Nat) : (dmask l).testBit k = l.any fun e => Region.binds .any e && e.on == k := by
  induction l with
  | nil => simp [dmask]
  | cons e r ih =>
    simp only [dmask, List.any_cons]
    split
    · rename_i h
      simp only [h, Nat.testBit_or, ih, Bool.true_and]
      congr 1
      rw [Nat.one_shiftLeft, Nat.testBit_two_pow]
      rw [Bool.eq_iff_iff]; simp
    · rename_i h
      simp [h, ih]

def within (a b : Nat) : Bool := a &&& b == a
theorem within_spec {a b : Nat} : within a b = true ↔ ∀ k, a.testBit k = true → b.testBit k = true := by
  unfold within
  rw [beq_iff_eq]
  constructor
  · intro h k hk
    rw [← h, Nat.testBit_and] at hk
    simp at hk; exact hk.2
  · intro h
    apply Nat.eq_of_testBit_eq
    intro k
    rw [Nat.testBit_and]
    cases hk : a.testBit k with
    | false => rfl
    | true => simp [h k hk]

def strict {α : Type} (n : Nat) (k : Nat → α) : α := match n with
  | 0 => k 0
  | m + 1 => k (m + 1)
theorem strict_eq {α : Type} (n : Nat) (k : Nat → α) : strict n k = k n := by cases n <;> rfl

/-- What each operation waits for, straight or through others. -/
def cmask (ms : List Nat) : List Edge → Nat
  | [] => 0
  | e :: r => if Region.binds .any e then (1 <<< e.on) ||| ms.getD e.on 0 ||| cmask ms r else cmask ms r
def clos {α : Type} : List Oper → List Nat → (List Nat → α) → α
  | [], ms, k => k ms
  | o :: r, ms, k => strict (cmask ms o.after.toList) fun m => clos r (ms ++ [m]) k

def MaskOk (ops : Array Oper) (ms : List Nat) : Prop := ∀ j k, (ms.getD j 0).testBit k = true → ∃ f, waitsB ops f j k = true

theorem cmask_ok {ops : Array Oper} {ms : List Nat} (h : MaskOk ops ms) {j : Nat} {o : Oper} (ho : ops[j]? = some o) : ∀ (l : List Edge), (∀ e ∈ l, e ∈ o.after) → ∀ k, (cmask ms l).testBit k = true → ∃ f, waitsB ops f j k = true
  | [], _, k, hk => by simp [cmask] at hk
  | e :: r, hl, k, hk => by
    simp only [cmask] at hk
    split at hk
    · rename_i hb
      simp only [Nat.testBit_or, Bool.or_eq_true] at hk
      rcases hk with (hk | hk) | hk
      · rw [Nat.one_shiftLeft, Nat.testBit_two_pow] at hk
        refine ⟨1, ?_⟩
        unfold waitsB
        simp only [ho, Array.any_eq_true', Bool.and_eq_true, Bool.or_eq_true, beq_iff_eq]
        exact ⟨e, hl e List.mem_cons_self, hb, .inl (by simpa using hk)⟩
      · obtain ⟨f, hf⟩ := h e.on k hk
        refine ⟨f + 1, ?_⟩
        unfold waitsB
        simp only [ho, Array.any_eq_true', Bool.and_eq_true, Bool.or_eq_true, beq_iff_eq]
        exact ⟨e, hl e List.mem_cons_self, hb, .inr hf⟩
      · exact cmask_ok h ho r (fun e he => hl e (List.mem_cons_of_mem _ he)) k hk
    · exact cmask_ok h ho r (fun e he => hl e (List.mem_cons_of_mem _ he)) k hk

theorem clos_ok {α : Type} {ops : Array Oper} : ∀ (l : List Oper) (ms : List Nat) (k : List Nat → α), MaskOk ops ms → (∀ i, l[i]? = ops[ms.length + i]?) → ∃ ms', MaskOk ops ms' ∧ clos l ms k = k ms'
  | [], ms, k, h, _ => ⟨ms, h, rfl⟩
  | o :: r, ms, k, h, hl => by
    have ho : ops[ms.length]? = some o := by have := hl 0; simpa using this.symm
    have hm : MaskOk ops (ms ++ [cmask ms o.after.toList]) := by
      intro j i hb
      by_cases hj : j < ms.length
      · have : (ms ++ [cmask ms o.after.toList]).getD j 0 = ms.getD j 0 := by simp [List.getD, List.getElem?_append_left hj]
        rw [this] at hb; exact h j i hb
      · by_cases hj2 : j = ms.length
        · subst hj2
          have : (ms ++ [cmask ms o.after.toList]).getD ms.length 0 = cmask ms o.after.toList := by simp [List.getD]
          rw [this] at hb
          exact cmask_ok h ho o.after.toList (fun e he => by simpa using he) i hb
        · have : (ms ++ [cmask ms o.after.toList]).getD j 0 = 0 := by simp only [List.getD]; rw [List.getElem?_eq_none (by simp; omega)]; rfl
          rw [this] at hb; simp at hb
    obtain ⟨ms', h1, h2⟩ := clos_ok r (ms ++ [cmask ms o.after.toList]) k hm (by
      intro i
      have := hl (i + 1)
      simp at this ⊢
      rw [this]; congr 1; omega)
    exact ⟨ms', h1, by simp only [clos, strict_eq]; exact h2⟩

/-- The operations that may come up, 'm' being those that have come. -/
def readyM : List Oper → Nat → Nat → List Nat
  | [], _, _ => []
  | o :: r, j, m => if !m.testBit j && within (dmask o.after.toList) m then j :: readyM r (j + 1) m else readyM r (j + 1) m

def Same (n m : Nat) (listed : Array Bool) : Prop := listed.size = n ∧ ∀ j, j < n → listed.getD j false = m.testBit j

theorem readyM_spec {ops : Array Oper} {m : Nat} {listed : Array Bool} (hs : Same ops.size m listed) (hlow : ∀ k, m.testBit k = true → k < ops.size) : ∀ (l : List Oper) (k : Nat), (∀ i, l[i]? = ops[k + i]?) → k + l.length = ops.size →
    readyM l k m = (List.range' k l.length).filter fun i => !listed.getD i true && ((ops[i]?).map (·.after.all fun e => !Region.binds .any e || listed.getD e.on false)).getD false
  | [], k, _, _ => by simp [readyM]
  | o :: r, k, hl, hk => by
    have ho : ops[k]? = some o := by have := hl 0; simpa using this.symm
    simp only [List.length_cons] at hk
    have hlt : k < ops.size := by omega
    have ih := readyM_spec hs hlow r (k + 1) (by intro i; have := hl (i + 1); simp at this ⊢; rw [this]; congr 1; omega) (by omega)
    have hlk : listed.getD k true = m.testBit k := by
      have h1 := hs.2 k hlt
      have h2 : k < listed.size := by rw [hs.1]; exact hlt
      simp [h2] at h1 ⊢; exact h1
    have hall : (o.after.all fun e => !Region.binds .any e || listed.getD e.on false) = within (dmask o.after.toList) m := by
      rw [Bool.eq_iff_iff, within_spec]
      simp only [dmask_spec, Array.all_eq_true_iff_forall_mem, List.any_eq_true, Bool.and_eq_true, beq_iff_eq, Bool.or_eq_true, Bool.not_eq_true', Array.mem_toList_iff]
      constructor
      · rintro h k' ⟨e, he, hb, rfl⟩
        have h1 := (h e he).resolve_left (by rw [hb]; simp)
        have h2 : e.on < ops.size := by
          rcases Nat.lt_or_ge e.on listed.size with h' | h'
          · rw [hs.1] at h'; exact h'
          · simp [Array.getElem?_eq_none h'] at h1
        rw [← hs.2 _ h2]; exact h1
      · intro h e he
        cases hb : Region.binds .any e with
        | false => exact .inl rfl
        | true =>
          have h1 := h e.on ⟨e, he, hb, rfl⟩
          exact .inr (by rw [hs.2 _ (hlow _ h1)]; exact h1)
    simp only [readyM, List.length_cons, List.range'_succ, List.filter_cons, ho, Option.map_some, Option.getD_some, hlk, hall, ih]

theorem readyM_eq {ops : Array Oper} {m : Nat} {listed : Array Bool} (hs : Same ops.size m listed) (hlow : ∀ k, m.testBit k = true → k < ops.size) : readyM ops.toList 0 m = Region.ready .any ops listed := by
  rw [readyM_spec hs hlow ops.toList 0 (by simp) (by simp)]
  unfold Region.ready
  rw [List.range_eq_range', Array.length_toList]

def freeM (ops : List Oper) (arr : Array Oper) (eff : Nat → Bool) (needs : Nat) (load : Bool) (ms : List Nat) (m i : Nat) (oi : Oper) : Nat → Bool
  | j => match ops with
    | [] => true
    | oj :: r => (j == i || m.testBit j || (ms.getD j 0).testBit i || (oi.apart arr oj && (!load || !eff j || needs.testBit j))) && freeM r arr eff needs load ms m i oi (j + 1)

theorem freeM_spec {ops : Array Oper} {eff : Nat → Bool} {needs m i : Nat} {load : Bool} {ms : List Nat} {listed : Array Bool} {oi : Oper} (hs : Same ops.size m listed) : ∀ (l : List Oper) (k : Nat), (∀ j, l[j]? = ops[k + j]?) → freeM l ops eff needs load ms m i oi k = true →
    ∀ j oj, k ≤ j → ops[j]? = some oj → j ≠ i → listed.getD j true = false → (ms.getD j 0).testBit i = false → oi.apart ops oj = true ∧ (load = true → eff j = true → needs.testBit j = true)
  | [], k, hl, _, j, oj, hkj, hj, _, _, _ => by
    have := hl (j - k)
    simp [show k + (j - k) = j from by omega, hj] at this
  | o :: r, k, hl, h, j, oj, hkj, hj, hji, hun, hw => by
    simp only [freeM, Bool.and_eq_true] at h
    have hl' : ∀ j, r[j]? = ops[k + 1 + j]? := by intro i; have := hl (i + 1); simp at this ⊢; rw [this]; congr 1; omega
    by_cases hjk : j = k
    · subst hjk
      have ho : ops[j]? = some o := by have := hl 0; simpa using this.symm
      rw [ho] at hj; cases hj
      have hlt : j < ops.size := (Array.getElem?_eq_some_iff.1 ho).1
      have hm : m.testBit j = false := by
        rw [← hs.2 j hlt]
        have h2 : j < listed.size := by rw [hs.1]; exact hlt
        simp [h2] at hun ⊢; exact hun
      have h1 := h.1
      simp only [beq_eq_false_iff_ne.2 hji, hm, hw, Bool.false_or, Bool.and_eq_true, Bool.or_eq_true, Bool.not_eq_true'] at h1
      refine ⟨h1.1, fun h2 h3 => ?_⟩
      rcases h1.2 with (h4 | h4) | h4
      · rw [h2] at h4; cases h4
      · rw [h3] at h4; cases h4
      · exact h4
    · exact freeM_spec hs r (k + 1) hl' h.2 j oj (by omega) hj hji hun hw

/-- May the operations come in this order? -/
def schedM (ops : Array Oper) (needs : Nat) (kind : Oper → Kind) (ms : List Nat) : List Nat → Nat → Bool
  | [], m => (readyM ops.toList 0 m).isEmpty
  | i :: r, m => match ops[i]? with
    | none => false
    | some o => (match kind o with
        | .pure => (readyM ops.toList 0 m).contains i && !needs.testBit i && freeM ops.toList ops (effOf ops kind) needs false ms m i o 0
        | .load => (readyM ops.toList 0 m).contains i && !needs.testBit i && freeM ops.toList ops (effOf ops kind) needs true ms m i o 0
        | .eff => readyM ops.toList 0 m == [i]) && strict (m ||| 1 <<< i) fun m' => schedM ops needs kind ms r m'

theorem Same.set {n m i : Nat} {listed : Array Bool} (hs : Same n m listed) (hi : i < n) : Same n (m ||| 1 <<< i) (listed.setIfInBounds i true) := by
  refine ⟨by simp [hs.1], fun j hj => ?_⟩
  rw [Nat.testBit_or, Nat.one_shiftLeft, Nat.testBit_two_pow]
  by_cases hij : i = j
  · subst hij
    have : i < listed.size := by rw [hs.1]; exact hi
    simp [this]
  · rw [getD_set_ne false hij, hs.2 j hj]
    simp [hij]

theorem wpAnyN_of_pi {needs : Nat} {ms : List Nat} (hms : MaskOk ops ms) (hsel : ∀ (j : Nat) (o : Oper) cs b, ops[j]? = some o → o.op ≠ .select cs b) (hQ : ∀ c a w dst v, Q (.panic c) (Act.put a dst v) w → Q (.panic c) a w) :
    ∀ (l : List Nat) (m : Nat) (listed : Array Bool) (a : Act) (w : World), Closed ops listed → Same ops.size m listed → (∀ k, m.testBit k = true → k < ops.size) → schedM ops needs kind ms l m = true →
      wpPi P ops Q S needs.testBit kind l a w → wpAnyN P ops Q S (effOf ops kind) needs.testBit l.length listed a w
  | [], m, listed, a, w, _, hsm, hlow, hs, h => wpAnyN_done (by simpa [schedM, readyM_eq hsm hlow] using hs) h _
  | i :: r, m, listed, a, w, hcl, hsm, hlow, hs, h => by
    obtain ⟨o, ho, h⟩ := h
    have hlt : i < ops.size := (Array.getElem?_eq_some_iff.1 ho).1
    simp only [schedM, ho, Bool.and_eq_true, strict_eq, readyM_eq hsm hlow] at hs
    obtain ⟨hs1, hs2⟩ := hs
    have hlow' : ∀ k, (m ||| 1 <<< i).testBit k = true → k < ops.size := by
      intro k hk
      rw [Nat.testBit_or, Nat.one_shiftLeft, Nat.testBit_two_pow] at hk
      simp at hk
      rcases hk with hk | hk
      · exact hlow k hk
      · omega
    have hms' : ∀ j i, (ms.getD j 0).testBit i = true → ∃ f, waitsB ops f j i = true := hms
    cases hk : kind o <;> simp only [hk] at h hs1
    · obtain ⟨v, hy, h⟩ := h
      simp only [Bool.and_eq_true, List.contains_iff_mem, Bool.not_eq_true'] at hs1
      refine wpAnyN_first (load := false) (W := fun j i => (ms.getD j 0).testBit i) hms' ho hsel hs1.1.2 (fun c a w => hQ c a w _ _) r.length listed a w hcl (fun j oj hj hji hun hw => freeM_spec hsm ops.toList 0 (by simp) hs1.2 j oj (Nat.zero_le _) hj hji hun hw) hs1.1.1 ?_ (by simp)
        (wpAnyN_of_pi hms hsel hQ r _ _ _ _ (hcl.set hs1.1.1) (hsm.set hlt) hlow' hs2 h)
      exact hy.imp (fun ⟨h1, h2⟩ => ⟨h1, fun w _ => h2 w trivial⟩) id
    · obtain ⟨v, hS, hy, h⟩ := h
      simp only [Bool.and_eq_true, List.contains_iff_mem, Bool.not_eq_true'] at hs1
      refine wpAnyN_first (load := true) (W := fun j i => (ms.getD j 0).testBit i) hms' ho hsel hs1.1.2 (fun c a w => hQ c a w _ _) r.length listed a w hcl (fun j oj hj hji hun hw => freeM_spec hsm ops.toList 0 (by simp) hs1.2 j oj (Nat.zero_le _) hj hji hun hw) hs1.1.1 ?_ (fun _ => hS)
        (wpAnyN_of_pi hms hsel hQ r _ _ _ _ (hcl.set hs1.1.1) (hsm.set hlt) hlow' hs2 h)
      exact hy.imp (fun ⟨h1, h2⟩ => ⟨h1, fun w h => h2 w (h rfl)⟩) id
    · have hr : Region.ready .any ops listed = [i] := by simpa using hs1
      have hmem : i ∈ Region.ready .any ops listed := by rw [hr]; simp
      have he : effOf ops kind i = true := by simp [effOf, ho, hk]
      exact wpAnyN_only hr (wpOp_mono (fun a' w' h' => ⟨⟨(fun h => by rw [he] at h; cases h), h'.1⟩, wpAnyN_of_pi hms hsel hQ r _ _ _ _ (hcl.set hmem) (hsm.set hlt) hlow' hs2 h'.2⟩) h)

theorem closed_none : Closed ops (Array.replicate ops.size false) := by
  intro j o ho hj
  rcases Nat.lt_or_ge j ops.size with h | h
  · simp [h] at hj
  · simp [Nat.not_lt.2 h] at hj

/-- Not drawn: the text's order. -/
theorem wp_region_pi {id : Nat} {a : Act} {w : World} (h : wpPi P ops Q S need kind (List.range ops.size) a w) : (Code.region id ops false).wp P Q a w :=
  wp_region (wpOps_of_pi _ _ _ h)

theorem wp_region_draw_pi {id : Nat} {a : Act} {w : World} {l : List Nat} {needs : Nat} (hm : P.follows .mixedOrders = true) (hsel : Region.noSelect ops = true) (hQ : ∀ c a w dst v, Q (.panic c) (Act.put a dst v) w → Q (.panic c) a w)
    (hl : l.length = ops.size) (hs : clos ops.toList [] (fun ms => schedM ops needs kind ms l 0) = true)
    (h : wpPi P ops Q S needs.testBit kind l a { w with drawn := w.drawn + 1 }) : (Code.region id ops true).wp P Q a w := by
  obtain ⟨ms, hms, he⟩ := clos_ok (ops := ops) ops.toList [] (fun ms => schedM ops needs kind ms l 0) (by intro j k h; simp at h) (by simp)
  rw [he] at hs
  refine wp_region_N (S := S) (eff := effOf ops kind) (need := needs.testBit) hm ?_
  rw [← hl]
  refine wpAnyN_of_pi hms (Region.noSelect_spec hsel) hQ l 0 _ a _ ?_ ?_ (by intro k hk; simp at hk) hs h
  · rw [hl]; exact closed_none
  · rw [hl]; exact ⟨by simp, fun j hj => by simp [hj]⟩
end
end Go.Sx
