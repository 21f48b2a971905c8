/-
  SxG: the steps of a region are sound.
-/
import Derived.Test.YtpocidlfjakmlaaSxF
set_option linter.unusedSimpArgs false
namespace Go.Sx
open Go

section
variable {e e' : Env} {w0 : World}

theorem segE_refs {f : Operand → Option Og} (hf : ∀ x y, f x = some y → y.1.val e' w0 = y.1.val e w0) : ∀ (s : List (List Value × Option (Nat × Operand))) (t : List (List Value × Option (Nat × Og))) (acc : E), segMap f s = some t →
    acc.val e' w0 = acc.val e w0 → (segE acc t).val e' w0 = (segE acc t).val e w0
  | [], t, acc, h, ha => by simp [segMap] at h; subst h; simpa [segE] using ha
  | (z, none) :: r, t, acc, h, ha => by
    simp only [segMap] at h
    cases hr : segMap f r with
    | none => simp [hr] at h
    | some t' =>
      simp [hr] at h; subst h
      simp only [segE]
      refine segE_refs hf r t' _ hr ?_
      split
      · exact ha
      · simp only [E.val, ha]
  | (z, some (n, x)) :: r, t, acc, h, ha => by
    simp only [segMap] at h
    cases hx : f x with
    | none => simp [hx] at h
    | some y =>
      cases hr : segMap f r with
      | none => simp [hx, hr] at h
      | some t' =>
        simp [hx, hr] at h; subst h
        simp only [segE]
        refine segE_refs hf r t' _ hr ?_
        have := hf x y hx
        split <;> simp only [E.val, ha, this]

theorem ofQ_refs {f : Operand → Option Og} (hf : ∀ x y, f x = some y → y.1.val e' w0 = y.1.val e w0) {q : Q Operand} {qe : Q Og} (h : Q.mapO f q = some qe) :
    (E.ofQ qe).val e' w0 = (E.ofQ qe).val e w0 := by
  cases q with
  | q0 x =>
    simp only [Q.mapO] at h
    cases hx : f x with
    | none => simp [hx] at h
    | some y => simp [hx] at h; subst h; exact hf x y hx
  | q1 u x =>
    simp only [Q.mapO] at h
    cases hx : f x with
    | none => simp [hx] at h
    | some y => simp [hx] at h; subst h; cases u <;> simp only [E.ofQ, E.val, hf x y hx]
  | q2 u x y =>
    simp only [Q.mapO] at h
    cases hx : f x with
    | none => simp [hx] at h
    | some x' =>
      cases hy : f y with
      | none => simp [hx, hy] at h
      | some y' => simp [hx, hy] at h; subst h; simp only [E.ofQ, E.val, hf x x' hx, hf y y' hy]
  | q3 u x y z =>
    simp only [Q.mapO] at h
    cases hx : f x with
    | none => simp [hx] at h
    | some x' =>
      cases hy : f y with
      | none => simp [hx, hy] at h
      | some y' =>
        cases hz : f z with
        | none => simp [hx, hy, hz] at h
        | some z' => simp [hx, hy, hz] at h; subst h; simp only [E.ofQ, E.val, hf x x' hx, hf y y' hy, hf z z' hz]
  | qlo u l x lo hi =>
    simp only [Q.mapO] at h
    cases hx : f x with
    | none => simp [hx] at h
    | some x' =>
      simp only [hx] at h
      cases lo with
      | none =>
        cases hi with
        | none => simp [omapO] at h; subst h; simp only [E.ofQ, E.val, hf x x' hx]
        | some z =>
          cases hz : f z with
          | none => simp [omapO, hz] at h
          | some z' => simp [omapO, hz] at h; subst h; simp only [E.ofQ, E.val, hf x x' hx, hf z z' hz]
      | some y =>
        cases hy : f y with
        | none => simp [omapO, hy] at h
        | some y' =>
          cases hi with
          | none => simp [omapO, hy] at h; subst h; simp only [E.ofQ, E.val, hf x x' hx, hf y y' hy]
          | some z =>
            cases hz : f z with
            | none => simp [omapO, hy, hz] at h
            | some z' => simp [omapO, hy, hz] at h; subst h; simp only [E.ofQ, E.val, hf x x' hx, hf y y' hy, hf z z' hz]
  | ite x y z =>
    simp only [Q.mapO] at h
    cases hx : f x with
    | none => simp [hx] at h
    | some x' =>
      cases hy : f y with
      | none => simp [hx, hy] at h
      | some y' =>
        cases hz : f z with
        | none => simp [hx, hy, hz] at h
        | some z' => simp [hx, hy, hz] at h; subst h; simp only [E.ofQ, E.val, hf x x' hx, hf y y' hy, hf z z' hz]
  | qn s =>
    simp only [Q.mapO] at h
    cases hs : segMap f s with
    | none => simp [hs] at h
    | some t => simp [hs] at h; subst h; exact segE_refs hf s t _ hs rfl
end

/-- The guard's meaning at run time. -/
theorem guard_wanted {n : Nat} {σ : Sig} {known : List Nat} {e : Env} {w0 : World} {a : Act} {ops : Array Oper} (hI : Inv n σ known e w0 a) {o : Oper} {g : Option E} (h : cguard ops σ o = some g) :
    (holds e w0 g → Region.wanted o (yielded ops a.tmps) = true) ∧ (¬ holds e w0 g → Region.wanted o (yielded ops a.tmps) = false) := by
  unfold cguard at h
  unfold Region.wanted
  split at h
  · cases h
    rename_i hg
    simp [hg, holds]
  · rename_i j want hg
    simp only [hg]
    split at h
    · rename_i t ht
      have hyield : yielded ops a.tmps j = match a.tmps[t]? with | some (.bool b) => some b | _ => none := by
        unfold yielded; rw [ht]; rfl
      split at h
      · rename_i x hs
        cases h
        have h1 := (hI.sig t x none hs).1 trivial
        rw [hyield, h1]
        simp only [holds, E.val, vBool]
        generalize x.val e w0 = u
        cases u <;> simp [vIs]
      · rename_i x p hs
        cases h
        have h1 := hI.sig t x (some p) hs
        rw [hyield]
        simp only [holds, E.val] at h1 ⊢
        generalize vBool (p.val e w0) = q at h1 ⊢
        generalize x.val e w0 = u at h1 ⊢
        cases q with
        | true =>
          rw [h1.1 rfl]
          cases u <;> simp [vIs, vBool]
        | false =>
          rw [h1.2 (by simp)]
          simp [undef, vBool]
      · cases h
    · cases h

theorem guard_refs {n : Nat} {σ : Sig} {known : List Nat} {e : Env} {w0 : World} {a : Act} {ops : Array Oper} (hI : Inv n σ known e w0 a) {o : Oper} {g : Option E} (h : cguard ops σ o = some g) (e' : Env) (ha : Agree known e e') :
    holds e' w0 g ↔ holds e w0 g := by
  unfold cguard at h
  split at h
  · cases h; simp [holds]
  · split at h
    · rename_i t ht
      split at h
      · rename_i x hs
        cases h
        have := (hI.refs t x none hs e' ha).1
        simp only [holds, E.val, this]
      · rename_i x p hs
        cases h
        have := (hI.refs t x (some p) hs e' ha)
        simp only [holds, E.val] at this ⊢
        rw [this.1]
        constructor
        · intro h
          simp only [vBool, Bool.and_eq_true] at h ⊢
          exact ⟨h.1, this.2.1 h.2⟩
        · intro h
          simp only [vBool, Bool.and_eq_true] at h ⊢
          exact ⟨h.1, this.2.2 h.2⟩
      · cases h
    · cases h

theorem lookup_cons_ne {β : Type} {d t : Nat} {x : β} {l : List (Nat × β)} (h : t ≠ d) : ((d, x) :: l).lookup t = l.lookup t := by
  rw [List.lookup_cons]
  have : (t == d) = false := by simpa using h
  simp [this]
theorem lookup_cons_same {β : Type} {t : Nat} {x : β} {l : List (Nat × β)} : ((t, x) :: l).lookup t = some x := by
  rw [List.lookup_cons]; simp

/-- Behind a quiet operation. -/
theorem Inv.quiet {n : Nat} {σ : Sig} {known : List Nat} {e : Env} {w0 : World} {a : Act} (hI : Inv n σ known e w0 a) {d : Nat} (hd : d < n) {x : E} {g : Option E} {v : Value}
    (hv : (holds e w0 g → v = x.val e w0) ∧ (¬ holds e w0 g → v = undef))
    (hr : ∀ e', Agree known e e' → x.val e' w0 = x.val e w0 ∧ (holds e' w0 g ↔ holds e w0 g)) : Inv n ((d, (x, g)) :: σ) known e w0 (a.put (some d) v) where
  defers := hI.defers
  size := by simp [Act.put, hI.size]
  kn := hI.kn
  env := by
    intro t u ht hs
    by_cases htd : t = d
    · subst htd; rw [lookup_cons_same] at hs; cases hs
    · rw [lookup_cons_ne htd] at hs
      simp only [Act.put, Array.getElem?_setIfInBounds_ne (Ne.symm htd)]
      exact hI.env t u ht hs
  sig := by
    intro t y g' hs
    by_cases htd : t = d
    · subst htd
      rw [lookup_cons_same] at hs
      cases hs
      have hlt : t < a.tmps.size := by rw [hI.size]; exact hd
      constructor
      · intro h; simp [Act.put, hlt, hv.1 h]
      · intro h; simp [Act.put, hlt, hv.2 h]
    · rw [lookup_cons_ne htd] at hs
      simp only [Act.put, Array.getElem?_setIfInBounds_ne (Ne.symm htd)]
      exact hI.sig t y g' hs
  refs := by
    intro t y g' hs
    by_cases htd : t = d
    · subst htd
      rw [lookup_cons_same] at hs
      cases hs
      exact hr
    · rw [lookup_cons_ne htd] at hs
      exact hI.refs t y g' hs

theorem agree_push {known : List Nat} {e : Env} {d : Nat} {v : Value} (hk : known.contains d = false) : Agree known e ((d, v) :: e) := by
  intro t ht
  have htd : t ≠ d := by intro h; subst h; rw [ht] at hk; cases hk
  exact lookup_cons_ne htd

/-- Behind something that was done, with a result. -/
theorem Inv.done {n : Nat} {σ : Sig} {known : List Nat} {e : Env} {w0 : World} {a : Act} (hI : Inv n σ known e w0 a) {d : Nat} (hd : d < n) (hk : known.contains d = false) (v : Value) : Inv n ((d, (.tmp d, none)) :: σ) (d :: known) ((d, v) :: e) w0 (a.put (some d) v) where
  defers := hI.defers
  size := by simp [Act.put, hI.size]
  kn := by
    intro t ht
    by_cases htd : t = d
    · subst htd; rw [lookup_cons_same]; rfl
    · rw [lookup_cons_ne htd]
      refine hI.kn t ?_
      simpa [htd] using ht
  env := by
    intro t u ht hs
    by_cases htd : t = d
    · subst htd; rw [lookup_cons_same] at hs; cases hs
    · rw [lookup_cons_ne htd] at hs ht
      simp only [Act.put, Array.getElem?_setIfInBounds_ne (Ne.symm htd)]
      exact hI.env t u ht hs
  sig := by
    intro t y g' hs
    by_cases htd : t = d
    · subst htd
      rw [lookup_cons_same] at hs
      cases hs
      have hlt : t < a.tmps.size := by rw [hI.size]; exact hd
      constructor
      · intro _; simp [Act.put, hlt, E.val, lookup_cons_same]
      · intro h; exact absurd trivial h
    · rw [lookup_cons_ne htd] at hs
      simp only [Act.put, Array.getElem?_setIfInBounds_ne (Ne.symm htd)]
      have h1 := hI.sig t y g' hs
      have h2 := hI.refs t y g' hs ((d, v) :: e) (agree_push hk)
      rw [h2.1, h2.2]
      exact h1
  refs := by
    intro t y g' hs e' ha
    have ha' : Agree known e e' := by
      intro t ht
      have htd : t ≠ d := by intro h; subst h; rw [ht] at hk; cases hk
      rw [ha t (by simp [List.contains_cons] at ht ⊢; exact .inr ht), lookup_cons_ne htd]
    by_cases htd : t = d
    · subst htd
      rw [lookup_cons_same] at hs
      cases hs
      constructor
      · simp only [E.val]; rw [ha t (by simp)]
      · simp [holds]
    · rw [lookup_cons_ne htd] at hs
      have h1 := hI.refs t y g' hs ((d, v) :: e) (agree_push hk)
      have h2 := hI.refs t y g' hs e' ha'
      rw [h1.1, h1.2, h2.1, h2.2]
      exact ⟨rfl, Iff.rfl⟩

end Go.Sx
