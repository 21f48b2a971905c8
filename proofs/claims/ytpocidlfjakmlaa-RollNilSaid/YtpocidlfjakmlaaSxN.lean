/-
  SxN: functions whose results lie in memory.
-/
import Derived.Test.YtpocidlfjakmlaaSxK
set_option linter.unusedSimpArgs false
set_option linter.unusedVariables false
namespace Go.Sx
open Go

/-- A result: a name's value; so many cells behind an address; the one cell behind an address. -/
inductive RV where
  | tmp (t : Nat) | agg (t n : Nat) | one (t : Nat)

def rvOk (P : Program) : List RV → List ResultVar → Bool
  | [], [] => true
  | .tmp t :: r, .tmp u :: s => t == u && rvOk P r s
  | .agg t n :: r, .cell u ty :: s => t == u && aggB P ty == some true && sizeB P ty == some n && rvOk P r s
  | .one t :: r, .cell u ty :: s => t == u && aggB P ty == some false && rvOk P r s
  | _, _ => false

def rvals (w : World) (e : Env) : List RV → Option (List Value)
  | [] => some []
  | .tmp t :: r => match e.lookup t, rvals w e r with
    | some v, some l => some (v :: l)
    | _, _ => none
  | .agg t n :: r => match e.lookup t, rvals w e r with
    | some (.pointer (some a)), some l => (rd w a n).map fun cs => .agg cs.toArray :: l
    | _, _ => none
  | .one t :: r => match e.lookup t, rvals w e r with
    | some (.pointer (some a)), some l => (w.cell? a).map (· :: l)
    | _, _ => none

def retV (rs : List RV) (R : Ending → World → Prop) : Post := fun x e w => match x with
  | .normal => ∃ l, rvals w e rs = some l ∧ R (.returned (tup l)) w
  | .ret => ∃ l, rvals w e rs = some l ∧ R (.returned (tup l)) w
  | _ => False

theorem run_rvals {P : Program} {w : World} {n : Nat} {e : Env} {a : Act} (hf : Fits n e a) {g : ResultVar → Sem Value} (hg1 : ∀ t, g (.tmp t) = pure (a.tmps.getD t undef)) (hg2 : ∀ t ty, g (.cell t ty) = (do loadVar ty (← asAddr (a.tmps.getD t undef)))) : ∀ (rv : List RV) (rs : List ResultVar) (l : List Value), rvOk P rv rs = true → rvals w e rv = some l →
    (rs.mapM g).run P w = .ok l w
  | [], [], l, _, h => by simp [rvals] at h; subst h; simp
  | .tmp t :: r, .tmp u :: s, l, ho, h => by
    simp only [rvOk, Bool.and_eq_true, beq_iff_eq] at ho
    obtain ⟨rfl, ho⟩ := ho
    simp only [rvals] at h
    cases ht : e.lookup t with
    | none => simp [ht] at h
    | some v =>
      cases hr : rvals w e r with
      | none => simp [ht, hr] at h
      | some l' =>
        simp [ht, hr] at h; subst h
        have ih := run_rvals hf hg1 hg2 r s l' ho hr
        have h2 : a.tmps[t]? = some v := hf.at_ t v ht
        simp only [List.mapM_cons, Sem.run_bind, hg1, Sem.run_pure, Result.andThen_ok, ih]
        simp [h2]
  | .agg t m :: r, .cell u ty :: s, l, ho, h => by
    simp only [rvOk, Bool.and_eq_true, beq_iff_eq] at ho
    obtain ⟨⟨⟨rfl, hg⟩, hn⟩, ho⟩ := ho
    simp only [rvals] at h
    cases ht : e.lookup t with
    | none => simp [ht] at h
    | some v =>
      cases hr : rvals w e r with
      | none => cases v with
        | pointer q => cases q <;> simp [ht, hr] at h
        | _ => simp [ht, hr] at h
      | some l' =>
        cases v with
        | pointer q =>
          cases q with
          | none => simp [ht, hr] at h
          | some q =>
            cases hd : rd w q m with
            | none => simp [ht, hr, hd] at h
            | some cs =>
              simp [ht, hr, hd] at h; subst h
              have ih := run_rvals hf hg1 hg2 r s l' ho hr
              have h2 : a.tmps[t]? = some (.pointer (some q)) := hf.at_ t _ ht
              have h3 : a.tmps.getD t undef = .pointer (some q) := by simp [h2]
              have h4 := run_loadCells_rd (P := P) (w := w) q m 0 #[] cs (by rw [Addr.add_zero']; exact hd)
              simp only [List.mapM_cons, Sem.run_bind, hg2, h3, asAddr, Sem.run_pure, Result.andThen_ok, loadVar, run_aggB hg, run_sizeB hn, loadCells, h4, ih, if_true]
              simp
        | _ => simp [ht, hr] at h
  | .one t :: r, .cell u ty :: s, l, ho, h => by
    simp only [rvOk, Bool.and_eq_true, beq_iff_eq] at ho
    obtain ⟨⟨rfl, hg⟩, ho⟩ := ho
    simp only [rvals] at h
    cases ht : e.lookup t with
    | none => simp [ht] at h
    | some v =>
      cases hr : rvals w e r with
      | none => cases v with
        | pointer q => cases q <;> simp [ht, hr] at h
        | _ => simp [ht, hr] at h
      | some l' =>
        cases v with
        | pointer q =>
          cases q with
          | none => simp [ht, hr] at h
          | some q =>
            cases hd : w.cell? q with
            | none => simp [ht, hr, hd] at h
            | some c =>
              simp [ht, hr, hd] at h; subst h
              have ih := run_rvals hf hg1 hg2 r s l' ho hr
              have h2 : a.tmps[t]? = some (.pointer (some q)) := hf.at_ t _ ht
              have h3 : a.tmps.getD t undef = .pointer (some q) := by simp [h2]
              simp only [List.mapM_cons, Sem.run_bind, hg2, h3, asAddr, Sem.run_pure, Result.andThen_ok, loadVar, run_aggB hg, run_load, hd, ih]
              simp [run_load, hd, ih]
        | _ => simp [ht, hr] at h
  | [], _ :: _, _, ho, _ => by simp [rvOk] at ho
  | .tmp _ :: _, [], _, ho, _ => by simp [rvOk] at ho
  | .tmp _ :: _, .cell _ _ :: _, _, ho, _ => by simp [rvOk] at ho
  | .agg _ _ :: _, [], _, ho, _ => by simp [rvOk] at ho
  | .agg _ _ :: _, .tmp _ :: _, _, ho, _ => by simp [rvOk] at ho
  | .one _ :: _, [], _, ho, _ => by simp [rvOk] at ho
  | .one _ :: _, .tmp _ :: _, _, ho, _ => by simp [rvOk] at ho

theorem run_resultsV {P : Program} {w : World} {n : Nat} {e : Env} {a : Act} (hf : Fits n e a) {fn : Func} {rv : List RV} (ho : rvOk P rv fn.results.toList = true) {l : List Value} (h : rvals w e rv = some l) : (results fn a.tmps).run P w = .ok (tup l) w := by
  unfold results
  rw [Sem.run_bind, Array.mapM_eq_mapM_toList, Sem.run_map]
  rw [run_rvals hf (fun _ => rfl) (fun _ _ => rfl) rv fn.results.toList l ho h]
  simp only [Result.andThen_ok, Sem.run_pure]
  match l with
  | [] => rfl
  | [v] => rfl
  | _ :: _ :: _ => simp [tup]

theorem calls_ofV {P : Program} {f : FuncId} {fn : Func} {c : C} {args : List Value} {rv : List RV} {w : World} {R : Ending → World → Prop}
    (hm : P.follows .mixedOrders = true) (hf : P.funcs[f]? = some fn) (hc : cfun P fn = some c) (hn : (fn.params.size, decide (args.length ≤ fn.ntmps), rvOk P rv fn.results.toList) = (args.length, true, true))
    (h : c.vc P (retV rv R) (env0 0 args) w) : Calls P f args.toArray w R := by
  simp only [Prod.mk.injEq] at hn
  obtain ⟨hn1, hn2, hrv⟩ := hn
  have hn1 := hn1.symm
  have hn2 := of_decide_eq_true hn2
  unfold cfun at hc
  cases hb : fn.body with
  | none => simp [hb] at hc
  | some code =>
    simp only [hb] at hc
    cases hcc : ccode P fn.ntmps (resTmps fn) code (List.range fn.params.size) with
    | none => simp [hcc] at hc
    | some x =>
      obtain ⟨c', k'⟩ := x
      simp [hcc] at hc; subst hc
      refine calls_of_wp hf hb ?_
      have hfits : Fits fn.ntmps (env0 0 args) { tmps := args.toArray ++ Array.replicate (fn.ntmps - args.toArray.size) undef, defers := [] } := by
        refine ⟨rfl, by simp; omega, fun t v hv => ?_⟩
        rw [env0_lookup] at hv
        simp at hv
        have hlt : t < args.length := (List.getElem?_eq_some_iff.1 hv).1
        simp [Array.getElem?_append, hlt]
        exact (List.getElem?_eq_some_iff.1 hv).2
      have hhas : Has (List.range fn.params.size) (env0 0 args) := by
        intro t ht
        rw [env0_lookup]
        simp at ht ⊢
        omega
      refine wp_mono (ccode_sound hm code _ _ _ _ hcc _ _ _ w hhas hfits h) ?_
      intro ex a w' hl
      cases ex <;> simp only [lift, retV, bodyPost] at hl ⊢ <;> try (exact hl.elim)
      · obtain ⟨e, hf', _, _, l, hl, hR⟩ := hl
        exact ⟨hf'.defers, _, run_resultsV hf' hrv hl, hR⟩
      · obtain ⟨e, hf', _, _, hl⟩ := hl
        exact hl.elim
      · obtain ⟨e, hf', _, _, l, hl, hR⟩ := hl
        exact ⟨hf'.defers, _, run_resultsV hf' hrv hl, hR⟩
end Go.Sx
