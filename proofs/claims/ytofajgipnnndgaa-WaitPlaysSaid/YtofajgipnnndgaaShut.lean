/-
  SeatShut: a law's row from its walk, where the walk keeps every old block.
-/
import Derived.Test.YtofajgipnnndgaaRows
import Derived.Test.YtofajgipnnndgaaBase
import Derived.WalkKit
import Derived.ProofKit
import Derived.OpenShut
import Derived.Carry
namespace Go.Proofs.Ytofajgipnnndgaa
open Go Go.Sx Go.ChangeShapes Go.WideShapes Go.ChangeAt Go.RowKit
set_option linter.unusedVariables false

theorem own : ownKnob Try.prog.godebug = none := by kernel_rfl

theorem keptBut_of_keep {W W' : World} (h : Keep W W') (may : MemPlace → Prop) : W.keptBut W' may := by
  refine ⟨h.os, h.output, fun i hi => ?_⟩
  rw [h.block i hi]
  split <;> rename_i hh <;> simp_all

theorem frozen_of_keep {W W' : World} (h : Keep W W') (a : Addr) (ha : a.block < W.heap.size) : W'.frozen? a = W.frozen? a := by
  simp only [World.frozen?, h.block a.block ha]

/-- 'post_of_same' for a walk that keeps every old block. -/
theorem post_of_keep {H : Type} {enc : TypeId × Value → H} {P : Program} {f : Func} {s : ChangeSpec} {apart fresh handsOn again : Bool} {W W' : World} {args : Array Value} {v : Value} {ds gs : List (DataW H)} {before pa pv : List MemPlace}
    (hW : DataW.Whole enc P f.params.toList s.vars apart W args.toList ds gs before)
    (hres : ∀ (b : Nat) (sp : Nat → Bool) (hd : Bool), DataW.TrodAll enc P W' b sp hd f.resultTypes.toList (v.resultList f.resultTypes.size) (s.fn H (ds ++ gs)).results [])
    (hargs : ∀ sp : Nat → Bool, (∀ p ∈ before, sp p.block = true) → DataW.TrodAll enc P W' 0 sp true f.params.toList args.toList (s.fn H (ds ++ gs)).args pa)
    (hvars : ∀ sp : Nat → Bool, (∀ p ∈ before, sp p.block = true) → DataW.TrodVars enc P W' sp s.vars (s.fn H (ds ++ gs)).vars pv)
    (hps : before = pa ++ pv) (hk : Keep W W')
    (hok : ∀ (j : Nat) (t : TypeId) (r : Value), f.resultTypes[j]? = some t → (v.resultList f.resultTypes.size)[j]? = some r → Value.okWide P W' .any 0 t r) :
    s.post enc P f apart fresh handsOn again W args v W' := by
  have hold : ∀ p ∈ before, (fun b => decide (b < W.heap.size)) p.block = true := fun p hp => by simpa using hW.lt p hp
  have hlt := hW.lt
  refine ⟨ds, gs, before, [], pa, pv, hW, hres _ _ _, hargs _ hold, hvars _ hold, World.keptBut_mono (fun p hp => ⟨hp, ?_⟩) (keptBut_of_keep hk (· ∈ before)), fun _ => ?_⟩
  · rw [hps, List.mem_append] at hp
    exact Or.inr hp
  · obtain ⟨_, _, _, _, _, hz, hn⟩ := hW
    refine ⟨hok, _, _, ([] ++ pa) ++ pv, ⟨[] ++ pa, pv, trodAll_append (hargs _ (fun _ _ => rfl)) (hres _ _ _), hvars _ (fun _ _ => rfl), rfl, ?_, ?_⟩, ?_⟩
    · intro b off hp
      have hp' : MemPlace.cell b off ∈ before := by rw [hps]; simpa using hp
      rw [frozen_of_keep hk _ (hlt _ hp')]
      exact hz b off hp'
    · intro ha
      have := hn ha
      rw [hps] at this
      simpa using this
    · intro p hp _
      rw [hps]
      simpa using hp

theorem below_of_keep {W W' : World} (h : Keep W W') : Below W.heap.size W W' := ⟨h.os, h.tape, h.output, h.size, h.block⟩

/-- Arguments read behind a walk that keeps every old block as they did before. -/
theorem trodAll_keep {H : Type} {enc : TypeId × Value → H} {P : Program} (hl : laidOutB P = true) {W W' : World} (hk : Keep W W') (sp : Nat → Bool) :
    ∀ {ts : List TypeId} {vs : List Value} {ds : List (DataW H)} {p : List MemPlace}, (ts.all fun t => P.readableRec t && decide (t < P.types.size)) = true →
      DataW.TrodAll enc P W 0 (fun _ => true) true ts vs ds p → (∀ x ∈ p, x.block < W.heap.size) → (∀ x ∈ p, sp x.block = true) → DataW.TrodAll enc P W' 0 sp true ts vs ds p
  | [], _, _, _, _, h, _, _ => by
    obtain ⟨rfl, rfl, rfl⟩ := trodAll_nil h
    exact trodAll_mk0
  | t :: ts, _, _, _, ht, h, hlt, hs => by
    obtain ⟨v, vs', d, ds', a, b, rfl, rfl, rfl, h1, h2⟩ := trodAll_cons h
    simp only [List.all_cons, Bool.and_eq_true, decide_eq_true_eq] at ht
    refine trodAll_cons_mk ?_ (trodAll_keep hl hk sp (by simpa using ht.2) h2 (fun x hx => hlt x (List.mem_append_right _ hx)) (fun x hx => hs x (List.mem_append_right _ hx)))
    exact WideElems.Trod_stays hl ht.1.1 ht.1.2 h1 (fun x hx => (below_of_keep hk).same (hlt x (List.mem_append_left _ hx))) (fun x hx => hs x (List.mem_append_left _ hx))

theorem cell_int {P : Program} {w : World} {r : Reach} {base : Nat} {t : TypeId} {k : IntKind} {v : Value} (ht : P.underlying t = some (.int k)) (h : Cell.okWide P w r base t v) : ∃ n, v = .int k n ∧ k.has n := by
  cases v <;> simp [Cell.okWide, Cell.ok, ht] at h
  obtain ⟨rfl, h⟩ := h
  exact ⟨_, rfl, h⟩
theorem cell_int' {P : Program} {w : World} {r : Reach} {base : Nat} {t : TypeId} {k : IntKind} {v : Value} (ht : P.underlying t = some (.int k)) (h : Value.okWide P w r base t v) : ∃ n, v = .int k n ∧ k.has n := by
  unfold Value.okWide at h
  rw [ht] at h
  exact cell_int ht h
end Go.Proofs.Ytofajgipnnndgaa
