/-
  SxV: maps keyed by int: make, look, lay.
-/
import Derived.Test.YtpocidlfjakmlaaSxU
import Derived.MapKept
import Derived.Maps.RangeRun
set_option linter.unusedSimpArgs false
set_option linter.unusedVariables false
namespace Go.Sx
open Go

def lookI (k : Int) : List (Int × Value) → Nat → Option (Nat × Value)
  | [], _ => none
  | p :: m, i => if k = p.1 then some (i, p.2) else lookI k m (i + 1)
def lookM (m : List (Int × Value)) (k : Int) : Option Value := (lookI k m 0).map (·.2)
def layM (k : Int) (v : Value) : List (Int × Value) → List (Int × Value)
  | [] => [(k, v)]
  | p :: m => if k = p.1 then (p.1, v) :: m else p :: layM k v m
def Ents (m : List (Int × Value)) (es : List MapEntry) : Prop := es.map (fun e => (e.key, e.val)) = m.map fun p => (Value.int .i64 p.1, p.2)

theorem findNow_int (k : Int) : ∀ (m : List (Int × Value)) (es : List MapEntry) (i : Nat), Ents m es → Instr.findNow (.int .i64) (.int .i64 k) es i = some (lookI k m i)
  | [], [], _, _ => rfl
  | p :: m, e :: es, i, h => by
    simp only [Ents, List.map_cons, List.cons.injEq, Prod.mk.injEq] at h
    obtain ⟨⟨h1, h2⟩, h3⟩ := h
    simp only [Instr.findNow, h1, Instr.sameNow, if_true, lookI]
    by_cases hk : k = p.1
    · subst hk; simp [h2]
    · have : (k == p.1) = false := by simpa using hk
      rw [this, if_neg hk]
      exact findNow_int k m es (i + 1) h3
  | [], _ :: _, _, h => by simp [Ents] at h
  | _ :: _, [], _, h => by simp [Ents] at h

theorem lookI_none {k : Int} {u : Value} : ∀ (m : List (Int × Value)) (i : Nat), lookI k m i = none → layM k u m = m ++ [(k, u)] ∧ ∀ p ∈ m, p.1 ≠ k
  | [], _, _ => ⟨rfl, by simp⟩
  | p :: m, i, h => by
    unfold lookI at h
    split at h
    · cases h
    · rename_i hk
      obtain ⟨h1, h2⟩ := lookI_none (u := u) m (i + 1) h
      refine ⟨by simp [layM, if_neg hk, h1], fun q hq => ?_⟩
      rcases List.mem_cons.1 hq with rfl | hq
      · exact fun e => hk e.symm
      · exact h2 q hq
theorem lookI_some {k : Int} {u : Value} {n : Nat} {v : Value} : ∀ (m : List (Int × Value)) (i : Nat), lookI k m i = some (n, v) → ∃ j, n = i + j ∧ ∃ h : j < m.length, m[j].1 = k ∧ layM k u m = m.set j (k, u)
  | [], _, h => by simp [lookI] at h
  | p :: m, i, h => by
    unfold lookI at h
    split at h
    · rename_i hk
      simp only [Option.some.injEq, Prod.mk.injEq] at h
      exact ⟨0, by omega, by simp, hk.symm, by simp [layM, hk]⟩
    · rename_i hk
      obtain ⟨j, h1, h2, h3, h4⟩ := lookI_some (u := u) m (i + 1) h
      exact ⟨j + 1, by omega, by simpa using h2, h3, by simp [layM, if_neg hk, h4]⟩
theorem ents_mod {k : Int} {u : Value} : ∀ (m : List (Int × Value)) (es : List MapEntry) (j : Nat), Ents m es → Ents (m.set j (k, u)) (es.modify j fun e => { e with key := .int .i64 k, val := u })
  | [], [], _, _ => by simp [Ents]
  | p :: m, e :: es, 0, h => by
    simp only [Ents, List.map_cons, List.cons.injEq, Prod.mk.injEq] at h
    simp only [Ents, List.set_cons_zero, List.modify_zero_cons, List.map_cons, h.2]
  | p :: m, e :: es, j + 1, h => by
    simp only [Ents, List.map_cons, List.cons.injEq] at h
    have := ents_mod (k := k) (u := u) m es j h.2
    simp only [Ents] at this
    simp only [Ents, List.set_cons_succ, List.modify_succ_cons, List.map_cons, h.1, this]
  | [], _ :: _, _, h => by simp [Ents] at h
  | _ :: _, [], _, h => by simp [Ents] at h
theorem Ents.keys {m : List (Int × Value)} {es : List MapEntry} (h : Ents m es) : es.map (·.key) = m.map fun p => Value.int .i64 p.1 := by
  have := congrArg (List.map Prod.fst) h
  simpa [List.map_map, Function.comp_def] using this
def setMap (w : World) (b : Nat) (es : Array MapEntry) (c : Nat) : World := { w with heap := w.heap.setIfInBounds b (.map es c) }

section
variable {P : Program} {ρ : Operand → Value} {d : Option Nat} {x y z : Operand} {w : World} {K : Value → World → Prop} {t ty kt et : TypeId}
theorem ran_makeMap (hK : K (.map (some w.heap.size)) (w.alloc (.map #[] 0))) :
    ranTo K ((execOp ρ { dst := d, op := .makeMap t none, type := ty, pos := "", after := #[], guard := none }).run P w) := by
  simp [execOp, Instr.makeMap, ranTo, hK]
theorem ran_lookup {b c : Nat} {es : List MapEntry} {m : List (Int × Value)} {k : Int} {u : Value} (co : Bool) (hx : ρ x = .map (some b)) (hy : ρ y = .int .i64 k) (ht : P.underlying t = some (.map kt et)) (hk : P.underlying kt = some (.int .i64))
    (hb : w.heap[b]? = some (.map es.toArray c)) (he : Ents m es) (hz : (zeroValue et).run P w = .ok u w) (hK : K (if co then .tuple #[(lookM m k).getD u, .bool (lookM m k).isSome] else (lookM m k).getD u) w) :
    ranTo K ((execOp ρ { dst := d, op := .lookup t x y co, type := ty, pos := "", after := #[], guard := none }).run P w) := by
  have h1 := MapKept.run_getObj_map (P := P) hb
  have h2 := MapKept.run_checkKey (P := P) (w := w) (kt := kt) (d := .int .i64) (k := .int .i64 k) hk (by simp [MapKept.IsKey]) es.isEmpty 9999
  have h3 := MapKept.run_findKey (P := P) (w := w) hk (findNow_int k m es 0 he)
  have hr : (Instr.lookup t (.map (some b)) (.int .i64 k) co).run P w = .ok (if co then .tuple #[(lookM m k).getD u, .bool (lookM m k).isSome] else (lookM m k).getD u) w := by
    unfold lookM
    cases hl : lookI k m 0 with
    | none => simp [Instr.lookup, run_underlying ht, h1, h2, h3, hl, hz, Result.andThen]
    | some q => simp [Instr.lookup, run_underlying ht, h1, h2, h3, hl, Result.andThen]
  simp [execOp, hx, hy, hr, ranTo, hK]
theorem ran_lay {b c : Nat} {es : List MapEntry} {m : List (Int × Value)} {k : Int} {u : Value} (hx : ρ x = .map (some b)) (hy : ρ y = .int .i64 k) (hzv : ρ z = u) (ht : P.underlying t = some (.map kt et)) (hk : P.underlying kt = some (.int .i64))
    (hb : w.heap[b]? = some (.map es.toArray c)) (he : Ents m es) (hs : MapKept.Stamped es.toArray c) (hK : ∀ v es' c', Ents (layM k u m) es' → MapKept.Stamped es'.toArray c' → K v (setMap w b es'.toArray c')) :
    ranTo K ((execOp ρ { dst := d, op := .mapUpdate t x y z, type := ty, pos := "", after := #[], guard := none }).run P w) := by
  have h1 := MapKept.run_getObj_map (P := P) hb
  have hik : MapKept.IsKey (.int .i64) (.int .i64 k) := by simp [MapKept.IsKey]
  have h2 := MapKept.run_checkKey (P := P) (w := w) (kt := kt) (d := .int .i64) (k := .int .i64 k) hk hik false 9999
  have h3 := MapKept.run_findKey (P := P) (w := w) hk (findNow_int k m es 0 he)
  have hsm : ∃ es' c', Ents (layM k u m) es' ∧ MapKept.Stamped es'.toArray c' ∧ (Instr.mapUpdate t (.map (some b)) (.int .i64 k) u).run P w = .ok () (setMap w b es'.toArray c') := by
    cases hl : lookI k m 0 with
    | none =>
      obtain ⟨e1, e2⟩ := lookI_none (u := u) m 0 hl
      have hne : ∀ q ∈ es.toArray.toList, q.key ≠ .int .i64 k := fun q hq e => by
        have : q.key ∈ es.map (·.key) := List.mem_map.2 ⟨q, by simpa using hq, rfl⟩
        rw [he.keys] at this
        obtain ⟨p, hp, e'⟩ := List.mem_map.1 this
        rw [e] at e'
        simp only [Value.int.injEq, true_and] at e'
        exact e2 p hp e'
      refine ⟨es ++ [{ key := .int .i64 k, val := u, born := c }], c + 1, ?_, ?_, ?_⟩
      · rw [e1]
        simp only [Ents] at he
        simp [Ents, he]
      · have := MapKept.stamped_push hs (key := .int .i64 k) (val := u) hne
        simpa using this
      · rw [hl] at h3
        simp [Instr.mapUpdate, run_underlying ht, h1, h2, h3, MapKept.run_setObj_map _ hb, Result.andThen, setMap]
    | some q =>
      obtain ⟨n, v⟩ := q
      obtain ⟨j, e1, hj, e2, e3⟩ := lookI_some (u := u) m 0 hl
      have hje : j < es.length := by have := congrArg List.length he; simp at this; omega
      have hkey : (es[j]).key = .int .i64 k := by
        have h := congrArg (fun l => l[j]?) he.keys
        simp only [List.getElem?_map, List.getElem?_eq_getElem hje, List.getElem?_eq_getElem hj, Option.map_some, Option.some.injEq] at h
        rw [h, e2]
      refine ⟨es.modify j fun e => { e with key := .int .i64 k, val := u }, c, ?_, ?_, ?_⟩
      · rw [e3]; exact ents_mod m es j he
      · have := MapKept.stamped_modify hs j (fun e => { e with key := .int .i64 k, val := u }) (fun _ _ => rfl) (fun e _ h => by
          simp only [List.getElem?_toArray, List.getElem?_eq_getElem hje, Option.some.injEq] at h
          rw [← h, hkey])
        have e : (es.toArray.modify j fun e => { e with key := .int .i64 k, val := u }) = (es.modify j fun e => { e with key := .int .i64 k, val := u }).toArray := by
          apply Array.toList_inj.1
          simp
        rw [← e]; exact this
      · rw [hl] at h3
        have e : (es.toArray.modify j fun e => { e with key := .int .i64 k, val := u }) = (es.modify j fun e => { e with key := .int .i64 k, val := u }).toArray := by
          apply Array.toList_inj.1
          simp
        have hn : n = j := by omega
        subst hn
        simp [Instr.mapUpdate, run_underlying ht, h1, h2, h3, MapKept.run_setObj_map _ hb, Result.andThen, setMap, hje, hkey, Instr.keyThatStays, Instr.sameBits]
  obtain ⟨es', c', h4, h5, h6⟩ := hsm
  simp [execOp, hx, hy, hzv, h6, ranTo]
  exact hK _ _ _ h4 h5
theorem ran_range {b c : Nat} {es : List MapEntry} (hx : ρ x = .map (some b)) (ht : P.underlying t = some (.map kt et)) (hb : w.heap[b]? = some (.map es.toArray c)) (hK : K (.pointer (some ⟨w.heap.size, 0, none⟩)) (w.alloc (.mapIter (some b) c #[] c))) :
    ranTo K ((execOp ρ { dst := d, op := .range t x, type := ty, pos := "", after := #[], guard := none }).run P w) := by
  have hr := run_range_map (P := P) w t kt et b es.toArray c ht hb
  simp [execOp, hx, hr, ranTo, hK]
theorem ran_next {r b since c0 c : Nat} {seen : Array Nat} {es : List MapEntry} (hx : ρ x = .pointer (some ⟨r, 0, none⟩)) (hr : w.heap[r]? = some (.mapIter (some b) since seen c0)) (hb : w.heap[b]? = some (.map es.toArray c))
    (hold : ∀ e ∈ es, e.born < since) (hsc : since ≤ c0) (hK0 : (leftOf es.toArray seen).size = 0 → K (.tuple #[.bool false]) w)
    (hK1 : ∀ e w1, e ∈ (leftOf es.toArray seen).toList → (w1 = w ∨ w1 = w.drew) → K (.tuple #[.bool true, e.key, e.val]) (Go.ChangeMaps.setBlock w1 r (.mapIter (some b) since (seen.push e.born) c))) :
    ranTo K ((execOp ρ { dst := d, op := .next x false, type := ty, pos := "", after := #[], guard := none }).run P w) := by
  rcases run_next_at (P := P) w ty r b since c0 seen es.toArray c hr hb (by simpa using hold) hsc with ⟨h0, h1⟩ | ⟨e, he, w1, hw, h1⟩
  · simp [execOp, hx, h1, ranTo, hK0 h0]
  · simp [execOp, hx, h1, ranTo, hK1 e w1 he hw]
theorem ran_entry {r b since c : Nat} {seen : Array Nat} {es : List MapEntry} {e : MapEntry} (hx : ρ x = .pointer (some ⟨r, 0, none⟩)) (hr : w.heap[r]? = some (.mapIter (some b) since (seen.push e.born) c)) (hb : w.heap[b]? = some (.map es.toArray c))
    (he : e ∈ es) (hs : MapKept.Stamped es.toArray c) (hK : K (.tuple #[e.key, e.val]) w) :
    ranTo K ((execOp ρ { dst := d, op := .entry x, type := ty, pos := "", after := #[], guard := none }).run P w) := by
  have h1 := run_entry_at (P := P) w r b since seen es.toArray c e hr hb (by simpa using he) hs.2.1
  simp [execOp, hx, h1, ranTo, hK]
end

/-- The state of a loop over a map. -/
def HP.it (b mb since : Nat) (seen : Array Nat) (clock : Nat) : HP where
  p w S := w.heap[b]? = some (.mapIter (some mb) since seen clock) ∧ ∀ x, S x ↔ x = b
  lt h x hx := by rw [(h.2 x).1 hx]; exact (Array.getElem?_eq_some_iff.1 h.1).1
  st h e := ⟨by rw [e b ((h.2 b).2 rfl)]; exact h.1, h.2⟩
section
variable {w0 W : World} {F : BSet} {L : List HP}
theorem setBlock_at {w : World} {b : Nat} {o : Obj} (h : b < w.heap.size) : (Go.ChangeMaps.setBlock w b o).heap[b]? = some o := by
  simp [Go.ChangeMaps.setBlock, h]
theorem setBlock_ne {w : World} {b x : Nat} {o : Obj} (h : x ≠ b) : (Go.ChangeMaps.setBlock w b o).heap[x]? = w.heap[x]? := by
  simp [Go.ChangeMaps.setBlock, Ne.symm h]
theorem up_setBlock {S : BSet} {b : Nat} {o : Obj} (h : ∀ x, S x ↔ x = b) : Up S W (Go.ChangeMaps.setBlock W b o) :=
  ⟨by simp [Go.ChangeMaps.setBlock], rfl, rfl, rfl, fun x _ hx => setBlock_ne fun e => hx ((h x).2 e)⟩
theorem Own.setM {i b c c' : Nat} {es : List MapEntry} (h : Own w0 F L W) (hi : L[i]? = some (.mp b es c)) (es' : List MapEntry) : Own w0 F (L.set i (.mp b es' c')) (setMap W b es'.toArray c') :=
  h.turn hi fun S ⟨h1, h2⟩ => ⟨S, ⟨setBlock_at (Array.getElem?_eq_some_iff.1 h1).1, h2⟩, up_setBlock h2, fun x hx => .inl hx⟩
theorem Own.allocI (h : Own w0 F L W) (mb since : Nat) (seen : Array Nat) (c : Nat) : Own w0 F (.it W.heap.size mb since seen c :: L) (W.alloc (.mapIter (some mb) since seen c)) :=
  h.add (S1 := fun x => x = W.heap.size) (Keep.alloc _ _) ⟨by rw [heap_alloc_new W], fun _ => Iff.rfl⟩ fun b hb => by rw [hb]; exact Nat.le_refl _
theorem Own.it {i b mb since c : Nat} {seen : Array Nat} (h : Own w0 F L W) (hi : L[i]? = some (.it b mb since seen c)) : W.heap[b]? = some (.mapIter (some mb) since seen c) := by
  obtain ⟨S, h1, _, _⟩ := h
  obtain ⟨S1, S2, h4, _⟩ := h1.at_ hi
  exact h4.1
theorem Own.setI {i b mb since c : Nat} {seen : Array Nat} (h : Own w0 F L W) (hi : L[i]? = some (.it b mb since seen c)) (seen' : Array Nat) (c' : Nat) : Own w0 F (L.set i (.it b mb since seen' c')) (Go.ChangeMaps.setBlock W b (.mapIter (some mb) since seen' c')) :=
  h.turn hi fun S ⟨h1, h2⟩ => ⟨S, ⟨setBlock_at (Array.getElem?_eq_some_iff.1 h1).1, h2⟩, up_setBlock h2, fun x hx => .inl hx⟩
end

/-! A loop whose measure lies in the world. -/
def roundW {ι : Type} (keep : List Nat) (env : ι → Env) (inv : ι → World → Prop) (μ : World → Nat) (m : Nat) (Q : Post) : Post := fun x e w => match x with
  | .normal => ∃ j, prune keep e = env j ∧ inv j w ∧ μ w < m
  | x => Q x e w
section
variable {ι : Type} {keep : List Nat} {env : ι → Env} {inv : ι → World → Prop} {μ : World → Nat} {m i : Nat} {Q : Post} {e : Env} {w : World}
theorem roundW_n : roundW keep env inv μ m Q .normal e w = ∃ j, prune keep e = env j ∧ inv j w ∧ μ w < m := rfl
theorem roundW_x : roundW keep env inv μ m Q (.exit i) e w = Q (.exit i) e w := rfl
end
theorem vc_loopW {ι : Type} {P : Program} {keep : List Nat} {c : C} {Q : Post} {e : Env} {w : World} (env : ι → Env) (inv : ι → World → Prop) (μ : World → Nat) (i0 : ι) (h0 : prune keep e = env i0) (h1 : inv i0 w)
    (h : ∀ i w, inv i w → c.vc P (roundW keep env inv μ (μ w) Q) (env i) w) : (C.loop keep c).vc P Q e w := by
  refine ⟨fun e w => ∃ i, e = env i ∧ inv i w, fun _ w => μ w, ⟨i0, h0, h1⟩, ?_⟩
  rintro e w ⟨i, rfl, hi⟩
  refine C.vc_mono c ?_ (h i w hi)
  intro x e' w' hx
  cases x <;> simp only [loopP, roundW] at hx ⊢ <;> try (exact hx)
  obtain ⟨j, hj1, hj2, hj3⟩ := hx
  exact ⟨⟨j, hj1, hj2⟩, hj3⟩
/-- How many entries a loop over a map has before it. -/
def leftW (it : Nat) (w : World) : Nat := match w.heap[it]? with
  | some (.mapIter (some b) _ seen _) => (match w.heap[b]? with
    | some (.map es _) => (leftOf es seen).size
    | _ => 0)
  | _ => 0
theorem leftW_eq {it b since c c0 : Nat} {seen : Array Nat} {es : Array MapEntry} {w : World} (h1 : w.heap[it]? = some (.mapIter (some b) since seen c0)) (h2 : w.heap[b]? = some (.map es c)) : leftW it w = (leftOf es seen).size := by
  simp only [leftW, h1, h2]
end Go.Sx
