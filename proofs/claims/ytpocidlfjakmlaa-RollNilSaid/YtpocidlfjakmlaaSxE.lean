/-
  SxE: a region as steps over expression trees; what a step asks.
-/
import Derived.Test.YtpocidlfjakmlaaSxD
set_option linter.unusedSimpArgs false
namespace Go.Sx
open Go

abbrev Env := List (Nat × Value)

inductive E where
  | tmp (t : Nat)
  | const (v : Value)
  | u1 (u : U1) (a : E)
  | u2 (u : U2) (a b : E)
  | u3 (u : U3) (a b c : E)
  | ite (c a b : E)
  | g1 (x : E) (want : Bool)
  | g2 (x : E) (want : Bool) (prev : E)
  deriving Inhabited

def vIs (want : Bool) : Value → Bool
  | .bool b => b == want
  | _ => false

def E.val (e : Env) (w : World) : E → Value
  | .tmp t => (e.lookup t).getD undef
  | .const v => v
  | .u1 u a => u.val w (a.val e w)
  | .u2 u a b => u.val (a.val e w) (b.val e w)
  | .u3 u a b c => u.val (a.val e w) (b.val e w) (c.val e w)
  | .ite c a b => if vBool (c.val e w) then a.val e w else b.val e w
  | .g1 x want => .bool (vIs want (x.val e w))
  | .g2 x want p => .bool (vIs want (x.val e w) && vBool (p.val e w))

/-- An operand: its value, and when it has it. -/
abbrev Og := E × Option E

def holds (e : Env) (w : World) : Option E → Prop
  | none => True
  | some x => vBool (x.val e w) = true

def ogv (e : Env) (w : World) (x : Og) : Value := x.1.val e w

def segE : E → List (List Value × Option (Nat × Og)) → E
  | acc, [] => acc
  | acc, (z, none) :: r => segE (if z.isEmpty then acc else .u2 .app acc (.const (.agg z.toArray))) r
  | acc, (z, some (_, x)) :: r => segE (.u2 .app (if z.isEmpty then acc else .u2 .app acc (.const (.agg z.toArray))) x.1) r

def E.ofQ : Q Og → E
  | .q0 x => x.1
  | .q1 .nilc x => x.1
  | .q1 u x => .u1 u x.1
  | .q2 u x y => .u2 u x.1 y.1
  | .q3 u x y z => .u3 u x.1 y.1 z.1
  | .qlo u l x lo hi => .u3 u x.1 (match lo with | some y => y.1 | none => .const (.int .i64 0)) (match hi with | some y => y.1 | none => .u1 l x.1)
  | .ite c a b => .ite c.1 a.1 b.1
  | .qn s => segE (.const (.agg #[])) s

theorem segE_val (e : Env) (w : World) : ∀ (s : List (List Value × Option (Nat × Og))) (acc : E) (l : List Value), acc.val e w = .agg l.toArray → (segE acc s).val e w = .agg (l ++ segCells (ogv e w) s).toArray
  | [], acc, l, h => by simp [segE, segCells, h]
  | (z, none) :: r, acc, l, h => by
    simp only [segE, segCells]
    split
    · rename_i hz
      rw [segE_val e w r acc l h]
      simp at hz; subst hz; simp
    · rw [segE_val e w r _ (l ++ z) (by simp [E.val, h, U2.val, Value.cells])]
      simp
  | (z, some (n, x)) :: r, acc, l, h => by
    simp only [segE, segCells]
    rw [segE_val e w r _ (l ++ z ++ (ogv e w x).cells.toList)]
    · simp
    · split
      · rename_i hz
        simp at hz; subst hz
        simp only [E.val, h, U2.val, List.append_nil, ogv]
        rw [← Array.toArray_toList (xs := (x.1.val e w).cells)]; simp
      · simp only [E.val, h, U2.val, ogv]
        rw [show (Value.agg z.toArray).cells = z.toArray from rfl, ← Array.toArray_toList (xs := (x.1.val e w).cells)]; simp

theorem E.ofQ_val (e : Env) (w : World) (q : Q Og) : (E.ofQ q).val e w = q.val w (ogv e w) := by
  cases q with
  | q0 x => rfl
  | q1 u x => cases u <;> rfl
  | q2 u x y => rfl
  | q3 u x y z => rfl
  | qlo u l x lo hi => cases lo <;> cases hi <;> rfl
  | ite c a b => rfl
  | qn s => simp [E.ofQ, Q.val, segE_val e w s (.const (.agg #[])) [] rfl]

/-- The operands have their values. -/
def segG (e : Env) (w : World) : List (List Value × Option (Nat × Og)) → Prop
  | [] => True
  | (_, none) :: r => segG e w r
  | (_, some (_, x)) :: r => holds e w x.2 ∧ segG e w r
def okG (e : Env) (w : World) : Q Og → Prop
  | .q0 x => holds e w x.2
  | .q1 _ x => holds e w x.2
  | .q2 _ x y => holds e w x.2 ∧ holds e w y.2
  | .q3 _ x y z => holds e w x.2 ∧ holds e w y.2 ∧ holds e w z.2
  | .qlo _ _ x lo hi => holds e w x.2 ∧ (match lo with | some y => holds e w y.2 | none => True) ∧ (match hi with | some y => holds e w y.2 | none => True)
  | .ite c a b => holds e w c.2 ∧ (vBool (c.1.val e w) = true → holds e w a.2) ∧ (vBool (c.1.val e w) = false → holds e w b.2)
  | .qn s => segG e w s

/-- Something that is done. -/
inductive X (α : Type) where
  | store (n : Nat) (p v : α)
  | box (elem : TypeId) (v : α)
  | alloc (elem : TypeId) (zero : List Value)
  | bslice (elem : TypeId) (len : Nat) (sg : List (List Value × Option (Nat × α)))
  | call (f : FuncId) (args : List α)
  | raw (o : Oper) (args : List (Nat × α))

/-- Cells laid one behind the other. -/
def stAt (w : World) (a : Addr) : List Value → Option World
  | [] => some w
  | v :: r => if v.oneCell' = true ∧ (w.cell? a).isSome = true ∧ w.frozen? a = false then stAt (w.setCell a v) (a.add 1) r else none

def rawEv (l : List (Nat × Value)) : Operand → Value
  | .tmp t => (l.lookup t).getD undef
  | .const v => v
  | .global g => .pointer (some ⟨g, 0, none⟩)
  | .func f => .func (.func f) #[] #[]

def ranTo (K : Value → World → Prop) : Result Next → Prop
  | .ok (.value v) w => K v w
  | .ok .skip w => K undef w
  | _ => False

def X.vc (P : Program) (ρ : Og → Value) (w : World) (K : Value → World → Prop) : X Og → Prop
  | .store n p v => (ρ v).cells.size = n ∧ ∃ a w', ρ p = .pointer (some a) ∧ stAt w a (ρ v).cells.toList = some w' ∧ K undef w'
  | .box t v => K (.pointer (some ⟨w.heap.size, 0, none⟩)) (w.alloc (.cells (ρ v).cells t))
  | .alloc t z => K (.pointer (some ⟨w.heap.size, 0, none⟩)) (w.alloc (.cells z.toArray t))
  | .bslice t len sg => segOk ρ sg ∧ K (.slice (some ⟨w.heap.size, 0, none⟩) len len) (w.alloc (.cells (segCells ρ sg).toArray t))
  | .call f args => Calls P f (args.map ρ).toArray w fun en w' => ∃ v, en = .returned v ∧ K v w'
  | .raw o args => ranTo K ((execOp (rawEv (args.map fun x => (x.1, ρ x.2))) o).run P w)

def X.gs {α : Type} : X α → List α
  | .store _ p v => [p, v]
  | .box _ v => [v]
  | .alloc _ _ => []
  | .bslice _ _ sg => sg.filterMap fun x => x.2.map (·.2)
  | .call _ args => args
  | .raw _ args => args.map (·.2)

def allG (e : Env) (w : World) : List Og → Prop
  | [] => True
  | x :: r => holds e w x.2 ∧ allG e w r

inductive Step where
  | chk (g : Option E) (q : Q Og)
  | dfn (d : Nat) (g : Option E) (q : Q Og)
  | eff (d : Option Nat) (g : Option E) (need : Bool) (x : X Og)

def push (d : Option Nat) (v : Value) (e : Env) : Env := match d with
  | some t => (t, v) :: e
  | none => e

/-- A value that is there only when asked for. -/
def gval (e : Env) (w : World) (g : Option E) (v : Value) : Value := match g with
  | none => v
  | some x => if vBool (x.val e w) = true then v else undef

/-- What a region's steps ask, and what stands behind it. w0: the world at the region's begin; w: the world at hand. -/
def vsteps (P : Program) (w0 : World) (outs : List (Nat × E)) (K : Env → World → Prop) : List Step → Env → World → Prop
  | [], e, w => K (outs.map fun x => (x.1, x.2.val e w0)) w
  | .chk g q :: r, e, w => (holds e w0 g → okG e w0 q ∧ q.ok w0 (ogv e w0)) ∧ vsteps P w0 outs K r e w
  | .dfn d g q :: r, e, w => (holds e w0 g → okG e w0 q ∧ q.ok w0 (ogv e w0)) ∧ vsteps P w0 outs K r ((d, gval e w0 g ((E.ofQ q).val e w0)) :: e) w
  | .eff d g need x :: r, e, w =>
    (holds e w0 g → allG e w0 x.gs ∧ x.vc P (ogv e w0) w fun v w' => (need = true → Keep w0 w') ∧ vsteps P w0 outs K r (push d v e) w') ∧
    (¬ holds e w0 g → (need = true → Keep w0 w) ∧ vsteps P w0 outs K r (push d undef e) w)
end Go.Sx
