/-
  SeatShut: a law's row from its walk, where the walk keeps every old block.
-/
import Derived.Test.YtpocidlfjakmlaaRows
import Derived.Test.YtpocidlfjakmlaaBase
import Derived.WalkKit
import Derived.ProofKit
import Derived.OpenShut
import Derived.Carry
namespace Go.Proofs.Ytpocidlfjakmlaa
open Go Go.Sx Go.ChangeShapes Go.WideShapes Go.ChangeAt Go.RowKit
set_option linter.unusedVariables false

theorem own : ownKnob Try.prog.godebug = none := by kernel_rfl

theorem keptBut_of_keep {W W' : World} (h : Keep W W') (may : MemPlace → Prop) : W.keptBut W' may := by
  refine ⟨h.os, h.output, fun i hi => ?_⟩
  rw [h.block i hi]
  split <;> rename_i hh <;> simp_all

theorem frozen_of_keep {W W' : World} (h : Keep W W') (a : Addr) (ha : a.block < W.heap.size) : W'.frozen? a = W.frozen? a := by
  simp only [World.frozen?, h.block a.block ha]

/-- 'post_of_same' for a walk that keeps every old block. -/
theorem post_of_keep {H : Type} {enc : TypeId × Value → H} {P : Program} {f : Func} {s : ChangeSpec} {apart fresh handsOn again : Bool} {W W' : World} {args : Array Value} {v : Value} {ds gs : List (DataW H)} {before pa pv : List MemPlace}
    (hW : DataW.Whole enc P f.params.toList s.vars apart W args.toList ds gs before)
    (hres : ∀ (b : Nat) (sp : Nat → Bool) (hd : Bool), DataW.TrodAll enc P W' b sp hd f.resultTypes.toList (v.resultList f.resultTypes.size) (s.fn H (ds ++ gs)).results [])
    (hargs : ∀ sp : Nat → Bool, (∀ p ∈ before, sp p.block = true) → DataW.TrodAll enc P W' 0 sp true f.params.toList args.toList (s.fn H (ds ++ gs)).args pa)
    (hvars : ∀ sp : Nat → Bool, (∀ p ∈ before, sp p.block = true) → DataW.TrodVars enc P W' sp s.vars (s.fn H (ds ++ gs)).vars pv)
    (hps : before = pa ++ pv) (hk : Keep W W')
    (hok : ∀ (j : Nat) (t : TypeId) (r : Value), f.resultTypes[j]? = some t → (v.resultList f.resultTypes.size)[j]? = some r → Value.okWide P W' .any 0 t r) :
    s.post enc P f apart fresh handsOn again W args v W' := by
  have hold : ∀ p ∈ before, (fun b => decide (b < W.heap.size)) p.block = true := fun p hp => by simpa using hW.lt p hp
  have hlt := hW.lt
  refine ⟨ds, gs, before, [], pa, pv, hW, hres _ _ _, hargs _ hold, hvars _ hold, World.keptBut_mono (fun p hp => ⟨hp, ?_⟩) (keptBut_of_keep hk (· ∈ before)), fun _ => ?_⟩
  · rw [hps, List.mem_append] at hp
    exact Or.inr hp
  · obtain ⟨_, _, _, _, _, hz, hn⟩ := hW
    refine ⟨hok, _, _, ([] ++ pa) ++ pv, ⟨[] ++ pa, pv, trodAll_append (hargs _ (fun _ _ => rfl)) (hres _ _ _), hvars _ (fun _ _ => rfl), rfl, ?_, ?_⟩, ?_⟩
    · intro b off hp
      have hp' : MemPlace.cell b off ∈ before := by rw [hps]; simpa using hp
      rw [frozen_of_keep hk _ (hlt _ hp')]
      exact hz b off hp'
    · intro ha
      have := hn ha
      rw [hps] at this
      simpa using this
    · intro p hp _
      rw [hps]
      simpa using hp

theorem below_of_keep {W W' : World} (h : Keep W W') : Below W.heap.size W W' := ⟨h.os, h.tape, h.output, h.size, h.block⟩

/-- Arguments read behind a walk that keeps every old block as they did before. -/
theorem trodAll_keep {H : Type} {enc : TypeId × Value → H} {P : Program} (hl : laidOutB P = true) {W W' : World} (hk : Keep W W') (sp : Nat → Bool) :
    ∀ {ts : List TypeId} {vs : List Value} {ds : List (DataW H)} {p : List MemPlace}, (ts.all fun t => P.readableRec t && decide (t < P.types.size)) = true →
      DataW.TrodAll enc P W 0 (fun _ => true) true ts vs ds p → (∀ x ∈ p, x.block < W.heap.size) → (∀ x ∈ p, sp x.block = true) → DataW.TrodAll enc P W' 0 sp true ts vs ds p
  | [], _, _, _, _, h, _, _ => by
    obtain ⟨rfl, rfl, rfl⟩ := trodAll_nil h
    exact trodAll_mk0
  | t :: ts, _, _, _, ht, h, hlt, hs => by
    obtain ⟨v, vs', d, ds', a, b, rfl, rfl, rfl, h1, h2⟩ := trodAll_cons h
    simp only [List.all_cons, Bool.and_eq_true, decide_eq_true_eq] at ht
    refine trodAll_cons_mk ?_ (trodAll_keep hl hk sp (by simpa using ht.2) h2 (fun x hx => hlt x (List.mem_append_right _ hx)) (fun x hx => hs x (List.mem_append_right _ hx)))
    exact WideElems.Trod_stays hl ht.1.1 ht.1.2 h1 (fun x hx => (below_of_keep hk).same (hlt x (List.mem_append_left _ hx))) (fun x hx => hs x (List.mem_append_left _ hx))

theorem cell_int {P : Program} {w : World} {r : Reach} {base : Nat} {t : TypeId} {k : IntKind} {v : Value} (ht : P.underlying t = some (.int k)) (h : Cell.okWide P w r base t v) : ∃ n, v = .int k n ∧ k.has n := by
  cases v <;> simp [Cell.okWide, Cell.ok, ht] at h
  obtain ⟨rfl, h⟩ := h
  exact ⟨_, rfl, h⟩
theorem cell_int' {P : Program} {w : World} {r : Reach} {base : Nat} {t : TypeId} {k : IntKind} {v : Value} (ht : P.underlying t = some (.int k)) (h : Value.okWide P w r base t v) : ∃ n, v = .int k n ∧ k.has n := by
  unfold Value.okWide at h
  rw [ht] at h
  exact cell_int ht h
theorem cell_str {P : Program} {w : World} {r : Reach} {base : Nat} {t : TypeId} {v : Value} (ht : P.underlying t = some .string) (h : Cell.okWide P w r base t v) : ∃ s, v = .string s := by
  cases v <;> simp [Cell.okWide, Cell.ok, ht] at h
  exact ⟨_, rfl⟩
theorem cell_bool {P : Program} {w : World} {r : Reach} {base : Nat} {t : TypeId} {v : Value} (ht : P.underlying t = some .bool) (h : Cell.okWide P w r base t v) : ∃ b, v = .bool b := by
  cases v <;> simp [Cell.okWide, Cell.ok, ht] at h
  exact ⟨_, rfl⟩
/-- The cells of a struct that comes in. -/
theorem agg_cells {P : Program} {w : World} {r : Reach} {base : Nat} {t : TypeId} {v : Value} {fs : Array Field} {n : Nat} {ts : List TypeId} (hu : P.underlying t = some (.struct fs)) (hn : P.cellsOf t = n) (hts : P.cellTypes P.depth t = some ts) (h : Value.okWide P w r base t v) :
    ∃ l : List Value, v = .agg l.toArray ∧ l.length = n ∧ ∀ (i : Nat) (x : Value), l[i]? = some x → ∃ u, ts[i % ts.length]? = some u ∧ Cell.okWide P w r base u x := by
  simp only [Value.okWide, hu] at h
  obtain ⟨A, rfl, hsz, ts', hts', _, hr⟩ := h
  rw [hts] at hts'
  cases hts'
  refine ⟨A.toList, by simp, by rw [← hn, ← hsz]; simp, ?_⟩
  intro i x hx
  exact hr i x (by simpa using hx)
theorem cells_at {w : World} {base : Nat} {a : Addr} {n : Nat} {cs : List Value} (h : w.cells? base a n = some cs) : cs.length = n ∧ ∀ i, i < n → w.cell? (a.add i) = cs[i]? := by
  unfold World.cells? at h
  split at h
  · exact ⟨by simpa using mapM_some_length h, fun i hi => mapM_some_get h i i (by simp [hi])⟩
  · cases h
theorem list_of {α : Type} {R : Nat → α → Prop} : ∀ (n : Nat), (∀ i, i < n → ∃ x, R i x) → ∃ l : List α, l.length = n ∧ ∀ (i : Nat) (h : i < l.length), R i l[i]
  | 0, _ => ⟨[], rfl, fun i h => by simp at h⟩
  | n + 1, h => by
    obtain ⟨l, hl, hr⟩ := list_of n fun i hi => h i (by omega)
    obtain ⟨x, hx⟩ := h n (by omega)
    refine ⟨l ++ [x], by simp [hl], fun i hi => ?_⟩
    by_cases hin : i < l.length
    · rw [List.getElem_append_left hin]; exact hr i hin
    · have : i = n := by simp [hl] at hi; omega
      subst this
      rw [List.getElem_append_right (by omega)]
      simpa [hl] using hx
/-- A slice of structs that comes in. -/
theorem arg_slice {H : Type} {enc : TypeId × Value → H} {P : Program} {w : World} {t e : TypeId} {a0 : Option Addr} {n0 c0 : Nat} {d : DataW H} {ps : List MemPlace} {α : Type} {enc1 : α → List Value} {n : Nat} (ht : P.underlying t = some (.slice e)) (hn : P.cellsOf e = n) (hpos : 0 < n)
    (hrow : ∀ (m : Nat) (cs : List Value) (x : DataW H × List MemPlace), DataW.trod enc P w 0 (fun _ => true) true m e cs = some x → ∃ a : α, cs = enc1 a)
    (h : DataW.Trod enc P w 0 (fun _ => true) true t (.slice a0 n0 c0) d ps) : ∃ l : List α, ArgSl w n (.slice a0 n0 c0) (l.map enc1) := by
  obtain ⟨fuel, h⟩ := h
  rcases DataW.trod_slice ht h with ⟨hc, _⟩ | ⟨a, len, cap, elems, rest, m, _, hc, _, hb, hl, hcap, hel, hall, _, _⟩
  · simp only [Value.cells, List.cons.injEq, Value.slice.injEq, and_true] at hc
    obtain ⟨rfl, rfl, rfl⟩ := hc
    exact ⟨[], .inl ⟨rfl, _, _, rfl⟩⟩
  · simp only [Value.cells, List.cons.injEq, Value.slice.injEq, and_true] at hc
    obtain ⟨rfl, rfl, rfl⟩ := hc
    rw [hn] at hall
    have hex : ∀ i, i < n0 → ∃ x : α, (enc1 x).length = n ∧ ∀ j, j < n → w.cell? ((a.add (i * n)).add j) = (enc1 x)[j]? := by
      intro i hi
      have h1 := hall i hi
      rw [List.getElem?_eq_getElem (by omega)] at h1
      obtain ⟨cs, h2, h3⟩ := Option.bind_eq_some_iff.1 h1
      obtain ⟨x, rfl⟩ := hrow _ _ _ h3
      exact ⟨x, cells_at h2⟩
    obtain ⟨l, hll, hR⟩ := list_of n0 hex
    by_cases h0 : n0 = 0
    · subst h0
      have : l = [] := List.eq_nil_of_length_eq_zero hll
      subst this
      exact ⟨[], .inl ⟨rfl, _, _, rfl⟩⟩
    · obtain ⟨hr1, hr2⟩ := hR 0 (by omega)
      have h1 := hr2 0 hpos
      rw [Nat.zero_mul, Addr.add_zero', Addr.add_zero', List.getElem?_eq_getElem (by omega)] at h1
      obtain ⟨b, o, sp⟩ := a
      unfold World.cell? at h1
      split at h1 <;> try (cases h1; done)
      rename_i c T fz hheap
      cases sp with
      | some k => simp at h1
      | none =>
        refine ⟨l, .inr ⟨b, o, c0, T, fz, c, by rw [List.length_map, hll], hheap, fun k hk => ?_⟩⟩
        obtain ⟨hk1, hk2⟩ := hR k (by simpa using hk)
        refine ⟨by simpa using hk1, fun j hj => ?_⟩
        have h3 := hk2 j hj
        rw [Addr.add_lit, Addr.add_lit, cell_at, hheap, cellOf_some] at h3
        simpa using h3
end Go.Proofs.Ytpocidlfjakmlaa
