/-
  SxF: from a region to its steps.
-/
import Derived.Test.YtpocidlfjakmlaaSxE
set_option linter.unusedSimpArgs false
namespace Go.Sx
open Go

abbrev Sig := List (Nat × Og)

def resolve1 (σ : Sig) (known : List Nat) : Operand → Option Og
  | .tmp t => match σ.lookup t with
    | some x => some x
    | none => if known.contains t then some (.tmp t, none) else none
  | .const v => some (.const v, none)
  | .func f => some (.const (.func (.func f) #[] #[]), none)
  | .global g => some (.const (.pointer (some ⟨g, 0, none⟩)), none)

def omapO {α β : Type} (f : α → Option β) : Option α → Option (Option β)
  | none => some none
  | some x => (f x).map some

def segMap {α β : Type} (f : α → Option β) : List (List Value × Option (Nat × α)) → Option (List (List Value × Option (Nat × β)))
  | [] => some []
  | (z, none) :: r => (segMap f r).map ((z, none) :: ·)
  | (z, some (n, x)) :: r => match f x, segMap f r with
    | some y, some l => some ((z, some (n, y)) :: l)
    | _, _ => none

def Q.mapO {α β : Type} (f : α → Option β) : Q α → Option (Q β)
  | .q0 x => (f x).map .q0
  | .q1 u x => (f x).map (.q1 u)
  | .q2 u x y => match f x, f y with
    | some a, some b => some (.q2 u a b)
    | _, _ => none
  | .q3 u x y z => match f x, f y, f z with
    | some a, some b, some c => some (.q3 u a b c)
    | _, _, _ => none
  | .qlo u l x lo hi => match f x, omapO f lo, omapO f hi with
    | some a, some b, some c => some (.qlo u l a b c)
    | _, _, _ => none
  | .ite x y z => match f x, f y, f z with
    | some a, some b, some c => some (.ite a b c)
    | _, _, _ => none
  | .qn s => (segMap f s).map .qn

def listMap {α β : Type} (f : α → Option β) : List α → Option (List β)
  | [] => some []
  | x :: r => match f x, listMap f r with
    | some y, some l => some (y :: l)
    | _, _ => none

def X.mapO {α β : Type} (f : α → Option β) : X α → Option (X β)
  | .store n p v => match f p, f v with
    | some a, some b => some (.store n a b)
    | _, _ => none
  | .box t v => (f v).map (.box t)
  | .alloc t z => some (.alloc t z)
  | .bslice t n s => (segMap f s).map (.bslice t n)
  | .call g args => (listMap f args).map (.call g)
  | .raw o args => (listMap (fun x => (f x.2).map fun y => (x.1, y)) args).map (.raw o)

def selectB : Op → Bool
  | .select _ _ => true
  | _ => false

/-- What is done by an operation that is not quiet. -/
def cx (P : Program) (o : Oper) : Option (X Operand) :=
  let rawX : Option (X Operand) := if selectB o.op then none else some (.raw { o with pos := "", after := #[], guard := none } (o.op.operands.toList.filterMap fun | .tmp t => some (t, .tmp t) | _ => none))
  match o.op with
  | .store t a v => (sizeB P t).map fun n => .store n a v
  | .box t v => some (.box t v)
  | .alloc t => (zeroB P t).map (.alloc t)
  | .buildSlice t len parts => match P.underlying t with
    | some (.slice e) => match sizeB P e, zeroB P e with
      | some n, some z => if z.length = n ∧ len * n ≤ 16777216 ∧ 0 < n then
          ((partsAt ((List.range len).map fun i => (i * n, n)) parts.toList).bind (segs ((List.replicate len z).flatten) 0)).map (.bslice e len) else none
      | _, _ => none
    | _ => none
  | .call c => match c.callee with
    | .value (.func f) => match P.funcs[f]? with
      | some fn => if fn.body.isSome && fn.name != "runtime.NumGoroutine" then some (.call f c.args.toList) else rawX
      | none => none
    | _ => rawX
  | _ => rawX

/-- The guard of an operation. -/
def cguard (ops : Array Oper) (σ : Sig) (o : Oper) : Option (Option E) := match o.guard with
  | none => some none
  | some (j, want) => match (ops[j]?).bind (·.dst) with
    | some t => match σ.lookup t with
      | some (x, none) => some (some (.g1 x want))
      | some (x, some p) => some (some (.g2 x want p))
      | none => none
    | none => none

/-- Nothing is asked of it. -/
def triv : Q Og → Bool
  | .q0 (_, none) => true
  | _ => false

def kindOf (P : Program) (o : Oper) : Kind := match cq P o with
  | some q => if q.isLoad then .load else .pure
  | none => .eff

/-! What is reckoned is reckoned at once (the kernel is lazy). -/
def forceN {α : Type} (n : Nat) (k : Nat → α) : α := match n with
  | 0 => k 0
  | m + 1 => k (m + 1)
theorem forceN_eq {α : Type} (n : Nat) (k : Nat → α) : forceN n k = k n := by cases n <;> rfl
def forceL {α : Type} : List Nat → (List Nat → α) → α
  | [], k => k []
  | x :: r, k => forceL r fun r' => forceN x fun x' => k (x' :: r')
theorem forceL_eq {α : Type} : ∀ (l : List Nat) (k : List Nat → α), forceL l k = k l
  | [], k => rfl
  | x :: r, k => by simp only [forceL, forceL_eq r, forceN_eq]
def forceE {α : Type} (x : E) (k : E → α) : α := match x with
  | .tmp t => k (.tmp t)
  | .const v => k (.const v)
  | .u1 u a => k (.u1 u a)
  | .u2 u a b => k (.u2 u a b)
  | .u3 u a b c => k (.u3 u a b c)
  | .ite a b c => k (.ite a b c)
  | .g1 a b => k (.g1 a b)
  | .g2 a b c => k (.g2 a b c)
theorem forceE_eq {α : Type} (x : E) (k : E → α) : forceE x k = k x := by cases x <;> rfl

/-- What is reckoned once and kept under its name. -/
def named (g : Option E) : Q Og → Bool
  | .q0 _ => false
  | .q1 u _ => match u with
    | .nilc | .off _ | .same | .sz _ => false
    | .fld _ _ | .fld1 _ | .ext _ => g.isSome
    | _ => true
  | .q2 u _ _ => match u with
    | .idxA _ | .idxP _ _ | .app => g.isSome
    | _ => true
  | .q3 _ _ _ _ => true
  | .qlo _ _ _ _ _ => true
  | .ite _ _ _ => true
  | .qn _ => false

def cgo (P : Program) (ops : Array Oper) (n : Nat) (need : Nat → Bool) : List Nat → Sig → List Nat → Bool → Option (List Step × Sig × List Nat)
  | [], σ, known, _ => some ([], σ, known)
  | i :: r, σ, known, still =>
    match ops[i]? with
    | none => none
    | some o => match cguard ops σ o with
      | none => none
      | some g => match cq P o with
        | some q => match Q.mapO (resolve1 σ known) q, o.dst with
          | some qe, some d =>
            if d < n ∧ (q.isLoad = true → still = true) then
              if named g qe = true ∧ known.contains d = false then
                match forceN d fun d => cgo P ops n need r ((d, (.tmp d, none)) :: σ) (d :: known) still with
                | some (s, x) => some (.dfn d g qe :: s, x)
                | none => none
              else
              match forceN d fun d => forceE (E.ofQ qe) fun x => cgo P ops n need r ((d, (x, g)) :: σ) known still with
              | some (s, x) => some (if triv qe then s else .chk g qe :: s, x)
              | none => none
            else none
          | _, _ => none
        | none => match (cx P o).bind (X.mapO (resolve1 σ known)) with
          | none => none
          | some x => match o.dst with
            | some d => if d < n ∧ known.contains d = false then
                match forceN d fun d => cgo P ops n need r ((d, (.tmp d, none)) :: σ) (d :: known) (need i) with
                | some (s, y) => some (.eff (some d) g (need i) x :: s, y)
                | none => none
              else none
            | none =>
                match cgo P ops n need r σ known (need i) with
                | some (s, y) => some (.eff none g (need i) x :: s, y)
                | none => none

/-- Frames that are as the environment says. -/
structure Fits (n : Nat) (e : Env) (a : Act) : Prop where
  defers : a.defers = []
  size : a.tmps.size = n
  at_ : ∀ t v, e.lookup t = some v → a.tmps[t]? = some v

def Agree (known : List Nat) (e e' : Env) : Prop := ∀ t, known.contains t = true → e'.lookup t = e.lookup t

structure Inv (n : Nat) (σ : Sig) (known : List Nat) (e : Env) (w0 : World) (a : Act) : Prop where
  defers : a.defers = []
  size : a.tmps.size = n
  kn : ∀ t, known.contains t = true → (e.lookup t).isSome = true
  env : ∀ t v, e.lookup t = some v → σ.lookup t = none → a.tmps[t]? = some v
  sig : ∀ t x g, σ.lookup t = some (x, g) → (holds e w0 g → a.tmps[t]? = some (x.val e w0)) ∧ (¬ holds e w0 g → a.tmps[t]? = some undef)
  /-- what is meant by a temporary is known: so a new one changes no value -/
  refs : ∀ t x g, σ.lookup t = some (x, g) → ∀ e', Agree known e e' → x.val e' w0 = x.val e w0 ∧ (holds e' w0 g ↔ holds e w0 g)

def relO (e : Env) (w0 : World) (a : Act) (x : Operand) (y : Og) : Prop := holds e w0 y.2 → a.eval x = y.1.val e w0

theorem resolve1_rel {n : Nat} {σ : Sig} {known : List Nat} {e : Env} {w0 : World} {a : Act} (hI : Inv n σ known e w0 a) {x : Operand} {y : Og} (h : resolve1 σ known x = some y) : relO e w0 a x y := by
  intro hg
  cases x with
  | tmp t =>
    simp only [resolve1] at h
    cases hs : σ.lookup t with
    | some z =>
      simp only [hs, Option.some.injEq] at h; subst h
      have := (hI.sig t z.1 z.2 hs).1 hg
      simp [Act.eval, this]
    | none =>
      simp only [hs] at h
      split at h
      · rename_i hk
        cases h
        obtain ⟨v, hv⟩ := Option.isSome_iff_exists.1 (hI.kn t hk)
        simp [Act.eval, hI.env t v hv hs, E.val, hv]
      · cases h
  | const v => simp only [resolve1, Option.some.injEq] at h; subst h; rfl
  | func f => simp only [resolve1, Option.some.injEq] at h; subst h; rfl
  | global g => simp only [resolve1, Option.some.injEq] at h; subst h; rfl

theorem resolve1_refs {n : Nat} {σ : Sig} {known : List Nat} {e : Env} {w0 : World} {a : Act} (hI : Inv n σ known e w0 a) {x : Operand} {y : Og} (h : resolve1 σ known x = some y) (e' : Env) (ha : Agree known e e') :
    y.1.val e' w0 = y.1.val e w0 ∧ (holds e' w0 y.2 ↔ holds e w0 y.2) := by
  cases x with
  | tmp t =>
    simp only [resolve1] at h
    cases hs : σ.lookup t with
    | some z => simp only [hs, Option.some.injEq] at h; subst h; exact hI.refs t z.1 z.2 hs e' ha
    | none =>
      simp only [hs] at h
      split at h
      · rename_i hk
        cases h
        simp [E.val, holds, ha t hk]
      · cases h
  | const v => simp only [resolve1, Option.some.injEq] at h; subst h; simp [E.val, holds]
  | func f => simp only [resolve1, Option.some.injEq] at h; subst h; simp [E.val, holds]
  | global g => simp only [resolve1, Option.some.injEq] at h; subst h; simp [E.val, holds]

/-- A relation, operand by operand. -/
theorem segMap_rel {e : Env} {w0 : World} {a : Act} {f : Operand → Option Og} (hf : ∀ x y, f x = some y → relO e w0 a x y) : ∀ (s : List (List Value × Option (Nat × Operand))) (t : List (List Value × Option (Nat × Og))), segMap f s = some t → segG e w0 t →
    segCells a.eval s = segCells (ogv e w0) t ∧ (segOk (ogv e w0) t → segOk a.eval s)
  | [], t, h, _ => by simp [segMap] at h; subst h; simp [segCells, segOk]
  | (z, none) :: r, t, h, hg => by
    simp only [segMap] at h
    cases hr : segMap f r with
    | none => simp [hr] at h
    | some t' =>
      simp [hr] at h; subst h
      obtain ⟨h1, h2⟩ := segMap_rel hf r t' hr hg
      simp only [segCells, segOk, h1]
      exact ⟨trivial, h2⟩
  | (z, some (n, x)) :: r, t, h, hg => by
    simp only [segMap] at h
    cases hx : f x with
    | none => simp [hx] at h
    | some y =>
      cases hr : segMap f r with
      | none => simp [hx, hr] at h
      | some t' =>
        simp [hx, hr] at h; subst h
        obtain ⟨h1, h2⟩ := segMap_rel hf r t' hr hg.2
        have h3 : a.eval x = ogv e w0 y := hf x y hx hg.1
        simp only [segCells, segOk, h1, h3]
        exact ⟨trivial, fun h => ⟨h.1, h2 h.2⟩⟩

theorem mapO_rel {e : Env} {w0 : World} {a : Act} {f : Operand → Option Og} (hf : ∀ x y, f x = some y → relO e w0 a x y) {q : Q Operand} {qe : Q Og} (h : Q.mapO f q = some qe) (hg : okG e w0 qe) :
    q.val w0 a.eval = qe.val w0 (ogv e w0) ∧ (qe.ok w0 (ogv e w0) → q.ok w0 a.eval) ∧ q.isLoad = qe.isLoad := by
  cases q with
  | q0 x =>
    simp only [Q.mapO] at h
    cases hx : f x with
    | none => simp [hx] at h
    | some y =>
      simp [hx] at h; subst h
      have h3 : a.eval x = ogv e w0 y := hf x y hx hg
      simp [Q.val, Q.ok, h3, Q.isLoad]
  | q1 u x =>
    simp only [Q.mapO] at h
    cases hx : f x with
    | none => simp [hx] at h
    | some y =>
      simp [hx] at h; subst h
      have h3 : a.eval x = ogv e w0 y := hf x y hx hg
      simp [Q.val, Q.ok, h3, Q.isLoad]
  | q2 u x y =>
    simp only [Q.mapO] at h
    cases hx : f x with
    | none => simp [hx] at h
    | some x' =>
      cases hy : f y with
      | none => simp [hx, hy] at h
      | some y' =>
        simp [hx, hy] at h; subst h
        have h3 : a.eval x = ogv e w0 x' := hf x x' hx hg.1
        have h4 : a.eval y = ogv e w0 y' := hf y y' hy hg.2
        simp [Q.val, Q.ok, h3, h4, Q.isLoad]
  | q3 u x y z =>
    simp only [Q.mapO] at h
    cases hx : f x with
    | none => simp [hx] at h
    | some x' =>
      cases hy : f y with
      | none => simp [hx, hy] at h
      | some y' =>
        cases hz : f z with
        | none => simp [hx, hy, hz] at h
        | some z' =>
          simp [hx, hy, hz] at h; subst h
          have h3 : a.eval x = ogv e w0 x' := hf x x' hx hg.1
          have h4 : a.eval y = ogv e w0 y' := hf y y' hy hg.2.1
          have h5 : a.eval z = ogv e w0 z' := hf z z' hz hg.2.2
          simp [Q.val, Q.ok, h3, h4, h5, Q.isLoad]
  | qlo u l x lo hi =>
    simp only [Q.mapO] at h
    cases hx : f x with
    | none => simp [hx] at h
    | some x' =>
      simp only [hx] at h
      cases lo with
      | none =>
        cases hi with
        | none =>
          simp [omapO] at h; subst h
          have h3 : a.eval x = ogv e w0 x' := hf x x' hx hg.1
          simp [Q.val, Q.ok, h3, Q.isLoad]
        | some z =>
          cases hz : f z with
          | none => simp [omapO, hz] at h
          | some z' =>
            simp [omapO, hz] at h; subst h
            have h3 : a.eval x = ogv e w0 x' := hf x x' hx hg.1
            have h5 : a.eval z = ogv e w0 z' := hf z z' hz hg.2.2
            simp [Q.val, Q.ok, h3, h5, Q.isLoad]
      | some y =>
        cases hy : f y with
        | none => simp [omapO, hy] at h
        | some y' =>
          cases hi with
          | none =>
            simp [omapO, hy] at h; subst h
            have h3 : a.eval x = ogv e w0 x' := hf x x' hx hg.1
            have h4 : a.eval y = ogv e w0 y' := hf y y' hy hg.2.1
            simp [Q.val, Q.ok, h3, h4, Q.isLoad]
          | some z =>
            cases hz : f z with
            | none => simp [omapO, hy, hz] at h
            | some z' =>
              simp [omapO, hy, hz] at h; subst h
              have h3 : a.eval x = ogv e w0 x' := hf x x' hx hg.1
              have h4 : a.eval y = ogv e w0 y' := hf y y' hy hg.2.1
              have h5 : a.eval z = ogv e w0 z' := hf z z' hz hg.2.2
              simp [Q.val, Q.ok, h3, h4, h5, Q.isLoad]
  | ite x y z =>
    simp only [Q.mapO] at h
    cases hx : f x with
    | none => simp [hx] at h
    | some x' =>
      cases hy : f y with
      | none => simp [hx, hy] at h
      | some y' =>
        cases hz : f z with
        | none => simp [hx, hy, hz] at h
        | some z' =>
          simp [hx, hy, hz] at h; subst h
          have h3 : a.eval x = ogv e w0 x' := hf x x' hx hg.1
          simp only [Q.val, Q.ok, h3, Q.isLoad, id_eq, and_true, imp_self]
          split
          · rename_i hb
            exact hf y y' hy (hg.2.1 hb)
          · rename_i hb
            exact hf z z' hz (hg.2.2 (by simpa [ogv] using hb))
  | qn s =>
    simp only [Q.mapO] at h
    cases hs : segMap f s with
    | none => simp [hs] at h
    | some t =>
      simp [hs] at h; subst h
      obtain ⟨h1, h2⟩ := segMap_rel hf s t hs hg
      simp only [Q.val, Q.ok, h1, Q.isLoad, and_true, true_and]
      exact h2
end Go.Sx
