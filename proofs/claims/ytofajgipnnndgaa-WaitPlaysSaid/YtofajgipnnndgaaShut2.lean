/-
  More of what comes in: structs, slices of structs.
-/
import Derived.Test.YtofajgipnnndgaaShut
set_option linter.unusedSimpArgs false
set_option linter.unusedVariables false
namespace Go.Proofs.Ytofajgipnnndgaa
open Go Go.Sx Go.ChangeShapes Go.WideShapes Go.ChangeAt Go.RowKit

theorem cell_str {P : Program} {w : World} {r : Reach} {base : Nat} {t : TypeId} {v : Value} (ht : P.underlying t = some .string) (h : Cell.okWide P w r base t v) : ∃ s, v = .string s := by
  cases v <;> simp [Cell.okWide, Cell.ok, ht] at h
  exact ⟨_, rfl⟩
theorem cell_bool {P : Program} {w : World} {r : Reach} {base : Nat} {t : TypeId} {v : Value} (ht : P.underlying t = some .bool) (h : Cell.okWide P w r base t v) : ∃ b, v = .bool b := by
  cases v <;> simp [Cell.okWide, Cell.ok, ht] at h
  exact ⟨_, rfl⟩
/-- The cells of a struct that comes in. -/
theorem agg_cells {P : Program} {w : World} {r : Reach} {base : Nat} {t : TypeId} {v : Value} {fs : Array Field} {n : Nat} {ts : List TypeId} (hu : P.underlying t = some (.struct fs)) (hn : P.cellsOf t = n) (hts : P.cellTypes P.depth t = some ts) (h : Value.okWide P w r base t v) :
    ∃ l : List Value, v = .agg l.toArray ∧ l.length = n ∧ ∀ (i : Nat) (x : Value), l[i]? = some x → ∃ u, ts[i % ts.length]? = some u ∧ Cell.okWide P w r base u x := by
  simp only [Value.okWide, hu] at h
  obtain ⟨A, rfl, hsz, ts', hts', _, hr⟩ := h
  rw [hts] at hts'
  cases hts'
  refine ⟨A.toList, by simp, by rw [← hn, ← hsz]; simp, ?_⟩
  intro i x hx
  exact hr i x (by simpa using hx)
theorem cells_at {w : World} {base : Nat} {a : Addr} {n : Nat} {cs : List Value} (h : w.cells? base a n = some cs) : cs.length = n ∧ ∀ i, i < n → w.cell? (a.add i) = cs[i]? := by
  unfold World.cells? at h
  split at h
  · exact ⟨by simpa using mapM_some_length h, fun i hi => mapM_some_get h i i (by simp [hi])⟩
  · cases h
theorem list_of {α : Type} {R : Nat → α → Prop} : ∀ (n : Nat), (∀ i, i < n → ∃ x, R i x) → ∃ l : List α, l.length = n ∧ ∀ (i : Nat) (h : i < l.length), R i l[i]
  | 0, _ => ⟨[], rfl, fun i h => by simp at h⟩
  | n + 1, h => by
    obtain ⟨l, hl, hr⟩ := list_of n fun i hi => h i (by omega)
    obtain ⟨x, hx⟩ := h n (by omega)
    refine ⟨l ++ [x], by simp [hl], fun i hi => ?_⟩
    by_cases hin : i < l.length
    · rw [List.getElem_append_left hin]; exact hr i hin
    · have : i = n := by simp [hl] at hi; omega
      subst this
      rw [List.getElem_append_right (by omega)]
      simpa [hl] using hx
/-- A slice of structs that comes in. -/
theorem arg_slice {H : Type} {enc : TypeId × Value → H} {P : Program} {w : World} {t e : TypeId} {a0 : Option Addr} {n0 c0 : Nat} {d : DataW H} {ps : List MemPlace} {α : Type} {enc1 : α → List Value} {n : Nat} (ht : P.underlying t = some (.slice e)) (hn : P.cellsOf e = n) (hpos : 0 < n)
    (hrow : ∀ (m : Nat) (cs : List Value) (x : DataW H × List MemPlace), DataW.trod enc P w 0 (fun _ => true) true m e cs = some x → ∃ a : α, cs = enc1 a)
    (h : DataW.Trod enc P w 0 (fun _ => true) true t (.slice a0 n0 c0) d ps) : ∃ l : List α, ArgSl w n (.slice a0 n0 c0) (l.map enc1) := by
  obtain ⟨fuel, h⟩ := h
  rcases DataW.trod_slice ht h with ⟨hc, _⟩ | ⟨a, len, cap, elems, rest, m, _, hc, _, hb, hl, hcap, hel, hall, _, _⟩
  · simp only [Value.cells, List.cons.injEq, Value.slice.injEq, and_true] at hc
    obtain ⟨rfl, rfl, rfl⟩ := hc
    exact ⟨[], .inl ⟨rfl, _, _, rfl⟩⟩
  · simp only [Value.cells, List.cons.injEq, Value.slice.injEq, and_true] at hc
    obtain ⟨rfl, rfl, rfl⟩ := hc
    rw [hn] at hall
    have hex : ∀ i, i < n0 → ∃ x : α, (enc1 x).length = n ∧ ∀ j, j < n → w.cell? ((a.add (i * n)).add j) = (enc1 x)[j]? := by
      intro i hi
      have h1 := hall i hi
      rw [List.getElem?_eq_getElem (by omega)] at h1
      obtain ⟨cs, h2, h3⟩ := Option.bind_eq_some_iff.1 h1
      obtain ⟨x, rfl⟩ := hrow _ _ _ h3
      exact ⟨x, cells_at h2⟩
    obtain ⟨l, hll, hR⟩ := list_of n0 hex
    by_cases h0 : n0 = 0
    · subst h0
      have : l = [] := List.eq_nil_of_length_eq_zero hll
      subst this
      exact ⟨[], .inl ⟨rfl, _, _, rfl⟩⟩
    · obtain ⟨hr1, hr2⟩ := hR 0 (by omega)
      have h1 := hr2 0 hpos
      rw [Nat.zero_mul, Addr.add_zero', Addr.add_zero', List.getElem?_eq_getElem (by omega)] at h1
      obtain ⟨b, o, sp⟩ := a
      unfold World.cell? at h1
      split at h1 <;> try (cases h1; done)
      rename_i c T fz hheap
      cases sp with
      | some k => simp at h1
      | none =>
        refine ⟨l, .inr ⟨b, o, c0, T, fz, c, by rw [List.length_map, hll], hheap, fun k hk => ?_⟩⟩
        obtain ⟨hk1, hk2⟩ := hR k (by simpa using hk)
        refine ⟨by simpa using hk1, fun j hj => ?_⟩
        have h3 := hk2 j hj
        rw [Addr.add_lit, Addr.add_lit, cell_at, hheap, cellOf_some] at h3
        simpa using h3
end Go.Proofs.Ytofajgipnnndgaa
