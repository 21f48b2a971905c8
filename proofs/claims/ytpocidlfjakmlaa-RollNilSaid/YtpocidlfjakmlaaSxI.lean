/-
  SxI: regions and code.
-/
import Derived.Test.YtpocidlfjakmlaaSxH
set_option linter.unusedSimpArgs false
set_option linter.unusedVariables false
namespace Go.Sx
open Go

section
variable {P : Program} {ops : Array Oper} {n : Nat} {need : Nat → Bool} {w0 : World} {outs : List (Nat × E)} {Q : Exit → Act → World → Prop} {K : Env → World → Prop}

theorem cgo_sound : ∀ (l : List Nat) (σ : Sig) (known : List Nat) (still : Bool) (e : Env) (a : Act) (w : World) (steps : List Step) (σf : Sig) (kf : List Nat),
    cgo P ops n need l σ known still = some (steps, σf, kf) → Inv n σ known e w0 a → (still = true → Keep w0 w) →
    (∀ e a w, Inv n σf kf e w0 a → K (outs.map fun x => (x.1, x.2.val e w0)) w → Q .normal a w) →
    vsteps P w0 outs K steps e w → wpPi P ops Q (Keep w0) need (kindOf P) l a w
  | [], σ, known, still, e, a, w, steps, σf, kf, hc, hI, hst, hfin, h => by
    simp only [cgo, Option.some.injEq, Prod.mk.injEq] at hc
    obtain ⟨rfl, rfl, rfl⟩ := hc
    exact hfin e a w hI h
  | i :: r, σ, known, still, e, a, w, steps, σf, kf, hc, hI, hst, hfin, h => by
    simp only [cgo, forceN_eq, forceE_eq] at hc
    cases ho : ops[i]? with
    | none => simp [ho] at hc
    | some o =>
      simp only [ho] at hc
      cases hg : cguard ops σ o with
      | none => simp [hg] at hc
      | some g =>
        simp only [hg] at hc
        refine ⟨o, ho, ?_⟩
        have hw := guard_wanted hI hg
        cases hq : cq P o with
        | some q =>
          simp only [hq] at hc
          cases hqe : Sx.Q.mapO (resolve1 σ known) q with
          | none => simp [hqe] at hc
          | some qe =>
            cases hd : o.dst with
            | none => simp [hqe, hd] at hc
            | some d =>
              simp only [hqe, hd] at hc
              split at hc
              · rename_i hcond
                obtain ⟨hdn, hload⟩ := hcond
                split at hc
                · rename_i hnk
                  obtain ⟨_, hkn⟩ := hnk
                  cases hrest : cgo P ops n need r ((d, (.tmp d, none)) :: σ) (d :: known) still with
                  | none => simp [hrest] at hc
                  | some y =>
                    obtain ⟨s', x'⟩ := y
                    simp only [hrest, Option.some.injEq, Prod.mk.injEq] at hc
                    obtain ⟨rfl, rfl⟩ := hc
                    obtain ⟨hchk, hnext⟩ := h
                    have hrel := fun x y => resolve1_rel (x := x) (y := y) hI
                    have key : ∃ v, v = gval e w0 g ((E.ofQ qe).val e w0) ∧
                        ∀ S : World → Prop, (∀ w', S w' → q.isLoad = true → Keep w0 w') → YieldsIf P ops S o v a := by
                      by_cases hh : holds e w0 g
                      · obtain ⟨h1, h2⟩ := hchk hh
                        obtain ⟨r1, r2, r3⟩ := mapO_rel hrel hqe h1
                        refine ⟨(E.ofQ qe).val e w0, ?_, fun S hS => .inl ⟨hw.1 hh, fun w' hw' => ?_⟩⟩
                        · cases g with
                          | none => rfl
                          | some x => exact (if_pos hh).symm
                        · rw [E.ofQ_val, ← r1]
                          exact q_run hq (r2 h2) (hS w' hw') (fun _ => rfl)
                      · refine ⟨undef, ?_, fun S _ => .inr ⟨hw.2 hh, rfl⟩⟩
                        cases g with
                        | none => exact absurd trivial hh
                        | some x => exact (if_neg hh).symm
                    obtain ⟨v, hv, hy⟩ := key
                    rw [← hv] at hnext
                    have ih := cgo_sound r _ (d :: known) still ((d, v) :: e) (a.put (some d) v) w s' σf kf hrest (hI.done hdn hkn v) hst hfin hnext
                    cases hl : q.isLoad with
                    | false =>
                      have hk : kindOf P o = .pure := by simp [kindOf, hq, hl]
                      simp only [hk]
                      exact ⟨v, hy _ (fun w' _ h => by rw [hl] at h; cases h), ih⟩
                    | true =>
                      have hk : kindOf P o = .load := by simp [kindOf, hq, hl]
                      simp only [hk]
                      exact ⟨v, hst (hload hl), hy _ (fun w' h _ => h), ih⟩
                · rename_i hnn
                  clear hnn
                  cases hrest : cgo P ops n need r ((d, (E.ofQ qe, g)) :: σ) known still with
                  | none => simp [hrest] at hc
                  | some y =>
                    obtain ⟨s', x'⟩ := y
                    simp only [hrest, Option.some.injEq, Prod.mk.injEq] at hc
                    obtain ⟨rfl, rfl⟩ := hc
                    have hcn : (holds e w0 g → okG e w0 qe ∧ qe.ok w0 (ogv e w0)) ∧ vsteps P w0 outs K s' e w := by
                      split at h
                      · rename_i ht
                        refine ⟨fun _ => ?_, h⟩
                        cases qe <;> simp [triv] at ht
                        rename_i y
                        obtain ⟨y1, y2⟩ := y
                        cases y2 with
                        | none => exact ⟨trivial, trivial⟩
                        | some _ => simp at ht
                      · exact h
                    obtain ⟨hchk, hnext⟩ := hcn
                    have hrel := fun x y => resolve1_rel (x := x) (y := y) hI
                    -- the value
                    have key : ∃ v, ((holds e w0 g → v = (E.ofQ qe).val e w0) ∧ (¬ holds e w0 g → v = undef)) ∧
                        ∀ S : World → Prop, (∀ w', S w' → q.isLoad = true → Keep w0 w') → YieldsIf P ops S o v a := by
                      by_cases hh : holds e w0 g
                      · obtain ⟨h1, h2⟩ := hchk hh
                        obtain ⟨r1, r2, r3⟩ := mapO_rel hrel hqe h1
                        refine ⟨(E.ofQ qe).val e w0, ⟨fun _ => rfl, fun h => absurd hh h⟩, fun S hS => .inl ⟨hw.1 hh, fun w' hw' => ?_⟩⟩
                        rw [E.ofQ_val, ← r1]
                        exact q_run hq (r2 h2) (hS w' hw') (fun _ => rfl)
                      · exact ⟨undef, ⟨fun h => absurd h hh, fun _ => rfl⟩, fun S _ => .inr ⟨hw.2 hh, rfl⟩⟩
                    obtain ⟨v, hv, hy⟩ := key
                    have hI' : Inv n ((d, (E.ofQ qe, g)) :: σ) known e w0 (a.put (some d) v) :=
                      hI.quiet hdn hv fun e' ha => ⟨ofQ_refs (fun x y h => (resolve1_refs hI h e' ha).1) hqe, guard_refs hI hg e' ha⟩
                    have ih := cgo_sound r _ known still e (a.put (some d) v) w s' σf kf hrest hI' hst hfin hnext
                    cases hl : q.isLoad with
                    | false =>
                      have hk : kindOf P o = .pure := by simp [kindOf, hq, hl]
                      simp only [hk]
                      refine ⟨v, hy _ (fun w' _ h => by rw [hl] at h; cases h), ?_⟩
                      exact ih
                    | true =>
                      have hk : kindOf P o = .load := by simp [kindOf, hq, hl]
                      simp only [hk]
                      refine ⟨v, hst (hload hl), hy _ (fun w' h _ => h), ?_⟩
                      exact ih
              · cases hc
        | none =>
          have hk : kindOf P o = .eff := by simp [kindOf, hq]
          simp only [hk]
          simp only [hq] at hc
          cases hx : cx P o with
          | none => simp [hx] at hc
          | some x =>
            cases hxe : X.mapO (resolve1 σ known) x with
            | none => simp [hx, hxe] at hc
            | some xe =>
              simp only [hx, hxe, Option.bind_some] at hc
              have hrel := fun x y => resolve1_rel (x := x) (y := y) hI
              cases hd : o.dst with
              | some d =>
                simp only [hd] at hc
                split at hc
                · rename_i hcond
                  obtain ⟨hdn, hkn⟩ := hcond
                  cases hrest : cgo P ops n need r ((d, (.tmp d, none)) :: σ) (d :: known) (need i) with
                  | none => simp [hrest] at hc
                  | some y =>
                    obtain ⟨s', x'⟩ := y
                    simp only [hrest, Option.some.injEq, Prod.mk.injEq] at hc
                    obtain ⟨rfl, rfl⟩ := hc
                    obtain ⟨h1, h2⟩ := h
                    unfold wpOp
                    simp only [ho]
                    by_cases hh : holds e w0 g
                    · rw [if_pos (hw.1 hh)]
                      obtain ⟨hall, hvc⟩ := h1 hh
                      refine .inl (X_sound hrel hx hxe hall hvc ?_)
                      intro v w' ⟨hkeep, hnext⟩
                      rw [hd]
                      refine ⟨hkeep, ?_⟩
                      refine cgo_sound r _ (d :: known) (need i) ((d, v) :: e) _ w' s' σf kf hrest (hI.done hdn hkn v) ?_ hfin hnext
                      exact hkeep
                    · rw [if_neg (by rw [hw.2 hh]; simp)]
                      obtain ⟨hkeep, hnext⟩ := h2 hh
                      rw [hd]
                      refine ⟨hkeep, ?_⟩
                      refine cgo_sound r _ (d :: known) (need i) ((d, undef) :: e) _ w s' σf kf hrest (hI.done hdn hkn undef) ?_ hfin hnext
                      exact hkeep
                · cases hc
              | none =>
                simp only [hd] at hc
                cases hrest : cgo P ops n need r σ known (need i) with
                | none => simp [hrest] at hc
                | some y =>
                  obtain ⟨s', x'⟩ := y
                  simp only [hrest, Option.some.injEq, Prod.mk.injEq] at hc
                  obtain ⟨rfl, rfl⟩ := hc
                  obtain ⟨h1, h2⟩ := h
                  unfold wpOp
                  simp only [ho]
                  by_cases hh : holds e w0 g
                  · rw [if_pos (hw.1 hh)]
                    obtain ⟨hall, hvc⟩ := h1 hh
                    refine .inl (X_sound hrel hx hxe hall hvc ?_)
                    intro v w' ⟨hkeep, hnext⟩
                    rw [hd]
                    refine ⟨hkeep, ?_⟩
                    exact cgo_sound r σ known (need i) e a w' s' σf kf hrest hI hkeep hfin hnext
                  · rw [if_neg (by rw [hw.2 hh]; simp)]
                    obtain ⟨hkeep, hnext⟩ := h2 hh
                    rw [hd]
                    refine ⟨hkeep, ?_⟩
                    exact cgo_sound r σ known (need i) e a w s' σf kf hrest hI hkeep hfin hnext
end

/-- What was known stays known. -/
def Has (known : List Nat) (e : Env) : Prop := ∀ t, known.contains t = true → (e.lookup t).isSome = true

/-- Code, compact. -/
inductive C where
  | skip
  | reg (draw : Bool) (steps : List Step) (outs : List (Nat × E))
  | seq (a b : C)
  | cond (x : E) (a b : C)
  | block (id : Nat) (c : C)
  | loop (keep : List Nat) (c : C)
  | exit (id : Nat)
  | ret

abbrev Post := Exit → Env → World → Prop

def prune (keep : List Nat) (e : Env) : Env := keep.filterMap fun t => (e.lookup t).map fun v => (t, v)

def thenP (b : Post → Env → World → Prop) (Q : Post) : Post := fun x e w => match x with
  | .normal => b Q e w
  | x => Q x e w
def blockP (id : Nat) (Q : Post) : Post := fun x e w => match x with
  | .exit i => if i = id then Q .normal e w else Q (.exit i) e w
  | x => Q x e w
def loopP (I : Env → World → Prop) (μ : Env → World → Nat) (keep : List Nat) (m : Nat) (Q : Post) : Post := fun x e w => match x with
  | .normal => I (prune keep e) w ∧ μ (prune keep e) w < m
  | x => Q x e w

/-- What is to be shown. -/
def C.vc (P : Program) : C → Post → Env → World → Prop
  | .skip, Q, e, w => Q .normal e w
  | .reg draw steps outs, Q, e, w => let w0 := if draw then w.drew else w; vsteps P w0 outs (fun e w => Q .normal e w) steps e w0
  | .seq a b, Q, e, w => a.vc P (thenP (fun Q e w => b.vc P Q e w) Q) e w
  | .cond x a b, Q, e, w => ∃ t, x.val e w = .bool t ∧ (t = true → a.vc P Q e w) ∧ (t = false → b.vc P Q e w)
  | .block id c, Q, e, w => c.vc P (blockP id Q) e w
  | .loop keep c, Q, e, w => ∃ (I : Env → World → Prop) (μ : Env → World → Nat), I (prune keep e) w ∧ ∀ e w, I e w → c.vc P (loopP I μ keep (μ e w) Q) e w
  | .exit id, Q, e, w => Q (.exit id) e w
  | .ret, Q, e, w => Q .ret e w

theorem C.vc_mono {P : Program} : ∀ (c : C) {Q Q' : Post} {e : Env} {w : World}, (∀ x e w, Q x e w → Q' x e w) → c.vc P Q e w → c.vc P Q' e w := by
  intro c
  induction c with
  | skip => intro Q Q' e w hq h; exact hq _ _ _ h
  | reg draw steps outs =>
    intro Q Q' e w hq h
    simp only [C.vc] at h ⊢
    generalize (if draw then w.drew else w) = w0 at h ⊢
    have : ∀ (s : List Step) (e : Env) (w : World), vsteps P w0 outs (fun e w => Q .normal e w) s e w → vsteps P w0 outs (fun e w => Q' .normal e w) s e w := by
      intro s
      induction s with
      | nil => intro e w h; exact hq _ _ _ h
      | cons st r ih =>
        intro e w h
        cases st with
        | chk g q => exact ⟨h.1, ih _ _ h.2⟩
        | dfn d g q => exact ⟨h.1, ih _ _ h.2⟩
        | eff d g need x =>
          refine ⟨fun hg => ⟨(h.1 hg).1, ?_⟩, fun hg => ⟨(h.2 hg).1, ih _ _ (h.2 hg).2⟩⟩
          have h2 := (h.1 hg).2
          have hK : ∀ v w', ((need = true → Keep w0 w') ∧ vsteps P w0 outs (fun e w => Q .normal e w) r (push d v e) w') → ((need = true → Keep w0 w') ∧ vsteps P w0 outs (fun e w => Q' .normal e w) r (push d v e) w') :=
            fun v w' h => ⟨h.1, ih _ _ h.2⟩
          cases x with
          | store n p v => obtain ⟨h3, a, w', h4, h5, h6⟩ := h2; exact ⟨h3, a, w', h4, h5, hK _ _ h6⟩
          | box t v => exact hK _ _ h2
          | alloc t z => exact hK _ _ h2
          | bslice t l sg => exact ⟨h2.1, hK _ _ h2.2⟩
          | call f args => exact Calls.mono h2 fun en w' ⟨v, h7, h8⟩ => ⟨v, h7, hK _ _ h8⟩
          | raw o args =>
            simp only [X.vc] at h2 ⊢
            generalize (execOp _ o).run P w = r' at h2 ⊢
            cases r' with
            | ok nx w' => cases nx <;> simp only [ranTo] at h2 ⊢ <;> first | exact hK _ _ h2 | exact h2
            | halt _ _ => exact h2
    exact this _ _ _ h
  | seq a b iha ihb =>
    intro Q Q' e w hq h
    refine iha ?_ h
    intro x e w h'
    cases x <;> simp only [thenP] at h' ⊢ <;> first | exact hq _ _ _ h' | exact ihb hq h'
  | cond x a b iha ihb =>
    intro Q Q' e w hq h
    obtain ⟨t, h1, h2, h3⟩ := h
    exact ⟨t, h1, fun ht => iha hq (h2 ht), fun ht => ihb hq (h3 ht)⟩
  | block id c ih =>
    intro Q Q' e w hq h
    refine ih ?_ h
    intro x e w h'
    cases x <;> simp only [blockP] at h' ⊢ <;> first | exact hq _ _ _ h' | (split at h' <;> rename_i hc <;> simp only [hc, if_true, if_false] <;> exact hq _ _ _ h')
  | loop keep c ih =>
    intro Q Q' e w hq h
    obtain ⟨I, μ, h0, h1⟩ := h
    refine ⟨I, μ, h0, fun e w hI => ih ?_ (h1 e w hI)⟩
    intro x e w h'
    cases x <;> simp only [loopP] at h' ⊢ <;> first | exact hq _ _ _ h' | exact h'
  | exit id => intro Q Q' e w hq h; exact hq _ _ _ h
  | ret => intro Q Q' e w hq h; exact hq _ _ _ h
end Go.Sx
