/-
  SxK: small lemmas for walks on the compact form.
-/
import Derived.Test.YtpocidlfjakmlaaSxM
set_option linter.unusedSimpArgs false
set_option linter.unusedVariables false
namespace Go.Sx
open Go
theorem vIs_t (b : Bool) : vIs true (.bool b) = b := by cases b <;> rfl
theorem vIs_f (b : Bool) : vIs false (.bool b) = !b := by cases b <;> rfl
theorem vIs_u (b : Bool) : vIs b undef = false := rfl
theorem vBool_u : vBool undef = false := rfl
/-- What stands behind a step; behind a region; behind the first of two. Defined, so that they are opened only where they are reached. -/
def aft (P : Program) (w0 : World) (outs : List (Nat × E)) (K : Env → World → Prop) (r : List Step) (d : Option Nat) (e : Env) : Value → World → Prop := fun v w' => vsteps P w0 outs K r (push d v e) w'
def aftN (P : Program) (w0 : World) (outs : List (Nat × E)) (K : Env → World → Prop) (r : List Step) (d : Option Nat) (e : Env) : Value → World → Prop := fun v w' => Keep w0 w' ∧ vsteps P w0 outs K r (push d v e) w'
def aftG (P : Program) (w0 : World) (outs : List (Nat × E)) (K : Env → World → Prop) (r : List Step) (d : Option Nat) (need : Bool) (e : Env) : Value → World → Prop := fun v w' => (need = true → Keep w0 w') ∧ vsteps P w0 outs K r (push d v e) w'
def nrm (Q : Post) : Env → World → Prop := fun e w => Q .normal e w
def seqP (P : Program) (b : C) (Q : Post) : Post := thenP (fun Q e w => b.vc P Q e w) Q
theorem aft_app {P : Program} {w0 w : World} {outs : List (Nat × E)} {K : Env → World → Prop} {r : List Step} {d : Option Nat} {e : Env} {v : Value} : aft P w0 outs K r d e v w = vsteps P w0 outs K r (push d v e) w := rfl
theorem aftN_app {P : Program} {w0 w : World} {outs : List (Nat × E)} {K : Env → World → Prop} {r : List Step} {d : Option Nat} {e : Env} {v : Value} : aftN P w0 outs K r d e v w = (Keep w0 w ∧ vsteps P w0 outs K r (push d v e) w) := rfl
theorem aftG_app {P : Program} {w0 w : World} {outs : List (Nat × E)} {K : Env → World → Prop} {r : List Step} {d : Option Nat} {need : Bool} {e : Env} {v : Value} : aftG P w0 outs K r d need e v w = ((need = true → Keep w0 w) ∧ vsteps P w0 outs K r (push d v e) w) := rfl
theorem nrm_app {Q : Post} {e : Env} {w : World} : nrm Q e w = Q .normal e w := rfl
theorem seqP_n {P : Program} {b : C} {Q : Post} {e : Env} {w : World} : seqP P b Q .normal e w = b.vc P Q e w := rfl
theorem seqP_x {P : Program} {b : C} {Q : Post} {e : Env} {w : World} {i : Nat} : seqP P b Q (.exit i) e w = Q (.exit i) e w := rfl
theorem seqP_r {P : Program} {b : C} {Q : Post} {e : Env} {w : World} : seqP P b Q .ret e w = Q .ret e w := rfl
theorem blockP_n {Q : Post} {e : Env} {w : World} {i : Nat} : blockP i Q .normal e w = Q .normal e w := rfl
theorem blockP_x {Q : Post} {e : Env} {w : World} {i j : Nat} : blockP i Q (.exit j) e w = if j = i then Q .normal e w else Q (.exit j) e w := rfl
theorem blockP_r {Q : Post} {e : Env} {w : World} {i : Nat} : blockP i Q .ret e w = Q .ret e w := rfl
theorem retP_n {rs : List ResultVar} {R : Ending → World → Prop} {e : Env} {w : World} : retP rs R .normal e w = ∃ l, resL e rs = some l ∧ R (.returned (tup l)) w := rfl
theorem retP_r {rs : List ResultVar} {R : Ending → World → Prop} {e : Env} {w : World} : retP rs R .ret e w = ∃ l, resL e rs = some l ∧ R (.returned (tup l)) w := rfl
theorem eff_plain {P : Program} {w0 w : World} {outs : List (Nat × E)} {K : Env → World → Prop} {d : Option Nat} {x : X Og} {r : List Step} {e : Env} :
    vsteps P w0 outs K (.eff d none false x :: r) e w = (allG e w0 x.gs ∧ x.vc P (ogv e w0) w (aft P w0 outs K r d e)) := by
  unfold aft; simp [vsteps, holds]
theorem eff_need {P : Program} {w0 w : World} {outs : List (Nat × E)} {K : Env → World → Prop} {d : Option Nat} {x : X Og} {r : List Step} {e : Env} :
    vsteps P w0 outs K (.eff d none true x :: r) e w = (allG e w0 x.gs ∧ x.vc P (ogv e w0) w (aftN P w0 outs K r d e)) := by
  unfold aftN; simp [vsteps, holds]
/-- An effect that is there only when asked for. -/
def effV (P : Program) (w0 : World) (outs : List (Nat × E)) (K : Env → World → Prop) (d : Option Nat) (need : Bool) (x : X Og) (r : List Step) (e : Env) (w : World) (b : Bool) : Prop :=
  (b = true → allG e w0 x.gs ∧ x.vc P (ogv e w0) w (aftG P w0 outs K r d need e)) ∧ (b = false → (need = true → Keep w0 w) ∧ vsteps P w0 outs K r (push d undef e) w)
theorem effV_t {P : Program} {w0 w : World} {outs : List (Nat × E)} {K : Env → World → Prop} {d : Option Nat} {need : Bool} {x : X Og} {r : List Step} {e : Env} : effV P w0 outs K d need x r e w true = (allG e w0 x.gs ∧ x.vc P (ogv e w0) w (aftG P w0 outs K r d need e)) := by simp [effV]
theorem effV_f {P : Program} {w0 w : World} {outs : List (Nat × E)} {K : Env → World → Prop} {d : Option Nat} {need : Bool} {x : X Og} {r : List Step} {e : Env} : effV P w0 outs K d need x r e w false = ((need = true → Keep w0 w) ∧ vsteps P w0 outs K r (push d undef e) w) := by simp [effV]
theorem eff_guard {P : Program} {w0 w : World} {outs : List (Nat × E)} {K : Env → World → Prop} {d : Option Nat} {g : E} {need : Bool} {x : X Og} {r : List Step} {e : Env} :
    vsteps P w0 outs K (.eff d (some g) need x :: r) e w = effV P w0 outs K d need x r e w (vBool (g.val e w0)) := by
  unfold effV aftG; simp [vsteps, holds]
/-- What a call owes to what stands behind it. -/
abbrev callP (K : Value → World → Prop) : Ending → World → Prop := fun en w' => ∃ v, en = .returned v ∧ K v w'
theorem callP_app {K : Value → World → Prop} {v : Value} {w : World} : callP K (.returned v) w = K v w := by simp [callP]
/-- A store. -/
def storeP (w : World) (p : Value) (vs : List Value) (K : Value → World → Prop) : Prop := ∃ a w', p = .pointer (some a) ∧ stAt w a vs = some w' ∧ K undef w'
def stK (o : Option World) (K : Value → World → Prop) : Prop := match o with
  | some w => K undef w
  | none => False
theorem stK_some {w : World} {K : Value → World → Prop} : stK (some w) K = K undef w := rfl
theorem storeP_app {w : World} {a : Addr} {vs : List Value} {K : Value → World → Prop} : storeP w (.pointer (some a)) vs K = stK (stAt w a vs) K := by
  apply propext
  constructor
  · rintro ⟨a', w', h, h1, h2⟩; cases h; rw [h1]; exact h2
  · intro h
    cases hs : stAt w a vs with
    | none => rw [hs] at h; exact h.elim
    | some w' => rw [hs] at h; exact ⟨a, w', rfl, hs, h⟩
theorem vc_store {P : Program} {ρ : Og → Value} {w : World} {K : Value → World → Prop} {n : Nat} {p v : Og} : X.vc P ρ w K (.store n p v) = ((ρ v).cells.size = n ∧ storeP w (ρ p) (ρ v).cells.toList K) := rfl
theorem vc_box {P : Program} {ρ : Og → Value} {w : World} {K : Value → World → Prop} {t : TypeId} {v : Og} : X.vc P ρ w K (.box t v) = K (.pointer (some ⟨w.heap.size, 0, none⟩)) (w.alloc (.cells (ρ v).cells t)) := rfl
theorem vc_alloc {P : Program} {ρ : Og → Value} {w : World} {K : Value → World → Prop} {t : TypeId} {z : List Value} : X.vc P ρ w K (.alloc t z) = K (.pointer (some ⟨w.heap.size, 0, none⟩)) (w.alloc (.cells z.toArray t)) := rfl
theorem vc_bslice {P : Program} {ρ : Og → Value} {w : World} {K : Value → World → Prop} {t : TypeId} {len : Nat} {sg : List (List Value × Option (Nat × Og))} : X.vc P ρ w K (.bslice t len sg) = (segOk ρ sg ∧ K (.slice (some ⟨w.heap.size, 0, none⟩) len len) (w.alloc (.cells (segCells ρ sg).toArray t))) := rfl
theorem vc_call {P : Program} {ρ : Og → Value} {w : World} {K : Value → World → Prop} {f : FuncId} {args : List Og} : X.vc P ρ w K (.call f args) = Calls P f (args.map ρ).toArray w (callP K) := rfl
theorem vc_raw {P : Program} {ρ : Og → Value} {w : World} {K : Value → World → Prop} {o : Oper} {args : List (Nat × Og)} : X.vc P ρ w K (.raw o args) = ranTo K ((execOp (rawEv (args.map fun x => (x.1, ρ x.2))) o).run P w) := rfl
/-- A test. -/
def condV (P : Program) (v : Value) (a b : C) (Q : Post) (e : Env) (w : World) : Prop := ∃ t, v = .bool t ∧ (t = true → a.vc P Q e w) ∧ (t = false → b.vc P Q e w)
theorem condV_t {P : Program} {a b : C} {Q : Post} {e : Env} {w : World} : condV P (.bool true) a b Q e w = a.vc P Q e w := by simp [condV]
theorem condV_f {P : Program} {a b : C} {Q : Post} {e : Env} {w : World} : condV P (.bool false) a b Q e w = b.vc P Q e w := by simp [condV]
theorem condV_s {P : Program} {a b : C} {Q : Post} {e : Env} {w : World} {t : Bool} : condV P (.bool t) a b Q e w = ((t = true → a.vc P Q e w) ∧ (t = false → b.vc P Q e w)) := by simp [condV]
theorem chk_plain {P : Program} {w0 w : World} {outs : List (Nat × E)} {K : Env → World → Prop} {q : Q Og} {r : List Step} {e : Env} :
    vsteps P w0 outs K (.chk none q :: r) e w = ((okG e w0 q ∧ q.ok w0 (ogv e w0)) ∧ vsteps P w0 outs K r e w) := by
  simp [vsteps, holds]
theorem chk_guard {P : Program} {w0 w : World} {outs : List (Nat × E)} {K : Env → World → Prop} {g : E} {q : Q Og} {r : List Step} {e : Env} :
    vsteps P w0 outs K (.chk (some g) q :: r) e w = ((vBool (g.val e w0) = true → okG e w0 q ∧ q.ok w0 (ogv e w0)) ∧ vsteps P w0 outs K r e w) := by
  simp [vsteps, holds]
theorem dfn_plain {P : Program} {w0 w : World} {outs : List (Nat × E)} {K : Env → World → Prop} {d : Nat} {q : Q Og} {r : List Step} {e : Env} :
    vsteps P w0 outs K (.dfn d none q :: r) e w = ((okG e w0 q ∧ q.ok w0 (ogv e w0)) ∧ vsteps P w0 outs K r ((d, (E.ofQ q).val e w0) :: e) w) := by
  simp [vsteps, holds, gval]
theorem dfn_guard {P : Program} {w0 w : World} {outs : List (Nat × E)} {K : Env → World → Prop} {g : E} {d : Nat} {q : Q Og} {r : List Step} {e : Env} :
    vsteps P w0 outs K (.dfn d (some g) q :: r) e w = ((vBool (g.val e w0) = true → okG e w0 q ∧ q.ok w0 (ogv e w0)) ∧ vsteps P w0 outs K r ((d, if vBool (g.val e w0) = true then (E.ofQ q).val e w0 else undef) :: e) w) := by
  simp [vsteps, holds, gval]
theorem vsteps_nil {P : Program} {w0 w : World} {outs : List (Nat × E)} {K : Env → World → Prop} {e : Env} :
    vsteps P w0 outs K [] e w = K (outs.map fun x => (x.1, x.2.val e w0)) w := rfl
theorem vc_reg_f {P : Program} {s : List Step} {o : List (Nat × E)} {Q : Post} {e : Env} {w : World} : (C.reg false s o).vc P Q e w = vsteps P w o (nrm Q) s e w := rfl
theorem vc_reg_t {P : Program} {s : List Step} {o : List (Nat × E)} {Q : Post} {e : Env} {w : World} : (C.reg true s o).vc P Q e w = vsteps P w.drew o (nrm Q) s e w.drew := rfl
theorem vc_seq {P : Program} {a b : C} {Q : Post} {e : Env} {w : World} : (C.seq a b).vc P Q e w = a.vc P (seqP P b Q) e w := rfl
theorem vc_cond {P : Program} {x : E} {a b : C} {Q : Post} {e : Env} {w : World} : (C.cond x a b).vc P Q e w = condV P (x.val e w) a b Q e w := rfl
theorem vc_block {P : Program} {i : Nat} {c : C} {Q : Post} {e : Env} {w : World} : (C.block i c).vc P Q e w = c.vc P (blockP i Q) e w := rfl
theorem vc_exit {P : Program} {i : Nat} {Q : Post} {e : Env} {w : World} : (C.exit i).vc P Q e w = Q (.exit i) e w := rfl
theorem vc_ret {P : Program} {Q : Post} {e : Env} {w : World} : C.ret.vc P Q e w = Q .ret e w := rfl
theorem vc_skip {P : Program} {Q : Post} {e : Env} {w : World} : C.skip.vc P Q e w = Q .normal e w := rfl
/-- What a round must bring. -/
def roundP {ι : Type} (keep : List Nat) (env : ι → Env) (inv : ι → World → Prop) (μ : ι → Nat) (m : Nat) (Q : Post) : Post := fun x e w => match x with
  | .normal => ∃ j, prune keep e = env j ∧ inv j w ∧ μ j < m
  | x => Q x e w
section
variable {ι : Type} {keep : List Nat} {env : ι → Env} {inv : ι → World → Prop} {μ : ι → Nat} {m i : Nat} {Q : Post} {e : Env} {w : World}
theorem roundP_n : roundP keep env inv μ m Q .normal e w = ∃ j, prune keep e = env j ∧ inv j w ∧ μ j < m := rfl
theorem roundP_x : roundP keep env inv μ m Q (.exit i) e w = Q (.exit i) e w := rfl
theorem roundP_r : roundP keep env inv μ m Q .ret e w = Q .ret e w := rfl
end
/-- The loop, by what holds at its head of what is at hand. -/
theorem vc_loop {ι : Type} {P : Program} {keep : List Nat} {c : C} {Q : Post} {e : Env} {w : World} (env : ι → Env) (inv : ι → World → Prop) (μ : ι → Nat) (i0 : ι) (h0 : prune keep e = env i0) (h1 : inv i0 w)
    (hinj : ∀ i j, env i = env j → μ i = μ j)
    (h : ∀ i w, inv i w → c.vc P (roundP keep env inv μ (μ i) Q) (env i) w) : (C.loop keep c).vc P Q e w := by
  classical
  refine ⟨fun e w => ∃ i, e = env i ∧ inv i w, fun e _ => if h : ∃ i, e = env i then μ h.choose else 0, ⟨i0, h0, h1⟩, ?_⟩
  rintro e w ⟨i, rfl, hi⟩
  refine C.vc_mono c ?_ (h i w hi)
  intro x e' w' hx
  have hm : ∀ i, (if h : ∃ j, env i = env j then μ h.choose else 0) = μ i := by
    intro i
    have hex : ∃ j, env i = env j := ⟨i, rfl⟩
    rw [dif_pos hex]
    exact hinj _ _ hex.choose_spec.symm
  cases x <;> simp only [loopP, roundP] at hx ⊢ <;> try (exact hx)
  obtain ⟨j, hj1, hj2, hj3⟩ := hx
  refine ⟨⟨j, hj1, hj2⟩, ?_⟩
  rw [hj1, hm, hm]
  exact hj3
/-- A loop that ends in its first round. -/
def exitP (Q : Post) : Post := fun x e w => match x with
  | .normal => False
  | x => Q x e w
theorem exitP_n {Q : Post} {e : Env} {w : World} : exitP Q .normal e w = False := rfl
theorem exitP_x {Q : Post} {e : Env} {w : World} {i : Nat} : exitP Q (.exit i) e w = Q (.exit i) e w := rfl
theorem exitP_r {Q : Post} {e : Env} {w : World} : exitP Q .ret e w = Q .ret e w := rfl
theorem vc_once {P : Program} {keep : List Nat} {c : C} {Q : Post} {e : Env} {w : World} (h : c.vc P (exitP Q) (prune keep e) w) : (C.loop keep c).vc P Q e w := by
  refine ⟨fun e' w' => e' = prune keep e ∧ w' = w, fun _ _ => 0, ⟨rfl, rfl⟩, ?_⟩
  rintro e' w' ⟨rfl, rfl⟩
  refine C.vc_mono c ?_ h
  intro x e w h
  cases x <;> first | exact h.elim | exact h
/-- Where ways meet again. -/
theorem vc_cut {P : Program} {c : C} {Q : Post} {e : Env} {w : World} (M : Env → World → Prop) (h1 : c.vc P (fun x e w => match x with | .normal => M e w | x => Q x e w) e w) (h2 : ∀ e w, M e w → Q .normal e w) : c.vc P Q e w := by
  refine C.vc_mono c ?_ h1
  intro x e w h
  cases x <;> simp only at h <;> first | exact h2 _ _ h | exact h
theorem val_nilc {w : World} {v : Value} : U1.val w .nilc v = v := rfl
theorem val_same {w : World} {v : Value} : U1.val w .same v = v := rfl
theorem val_sz {w : World} {n : Nat} {v : Value} : U1.val w (.sz n) v = v := rfl
theorem val_off {w : World} {n : Nat} {a : Addr} : U1.val w (.off n) (.pointer (some a)) = .pointer (some (a.add n)) := rfl
theorem val_conv {w : World} {k k' : IntKind} {n : Int} : U1.val w (.conv k) (.int k' n) = .int k (k.wrap n) := rfl
theorem val_bnot {w : World} {b : Bool} : U1.val w .bnot (.bool b) = .bool (!b) := rfl
theorem val_neg {w : World} {k k' : IntKind} {n : Int} : U1.val w (.neg k) (.int k' n) = .int k (k.wrap (0 - n)) := rfl
theorem val_lenS {w : World} {s : ByteArray} : U1.val w .lenS (.string s) = .int .i64 s.size := rfl
theorem val_lenL {w : World} {a : Option Addr} {n c : Nat} : U1.val w .lenL (.slice a n c) = .int .i64 n := rfl
theorem val_fld {w : World} {o n : Nat} {cs : Array Value} : U1.val w (.fld o n) (.agg cs) = .agg (cs.extract o (o + n)) := rfl
theorem val_fld1 {w : World} {o : Nat} {cs : Array Value} : U1.val w (.fld1 o) (.agg cs) = cs[o]?.getD undef := rfl
theorem val_ext {w : World} {i : Nat} {vs : Array Value} : U1.val w (.ext i) (.tuple vs) = vs[i]?.getD undef := rfl
theorem val_load {w : World} {n : Nat} {a : Addr} : U1.val w (.load n) (.pointer (some a)) = .agg ((rd w a n).getD []).toArray := rfl
theorem val_load1 {w : World} {a : Addr} : U1.val w .load1 (.pointer (some a)) = (w.cell? a).getD undef := rfl
theorem val_nilq_f {w : World} {p : Option Addr} : U1.val w (.nilq false) (.pointer p) = .bool p.isNone := rfl
theorem val_nilq_t {w : World} {p : Option Addr} : U1.val w (.nilq true) (.pointer p) = .bool (!p.isNone) := rfl
theorem val_nils_f {w : World} {p : Option Addr} {n c : Nat} : U1.val w (.nils false) (.slice p n c) = .bool p.isNone := rfl
theorem val_nils_t {w : World} {p : Option Addr} {n c : Nat} : U1.val w (.nils true) (.slice p n c) = .bool (!p.isNone) := rfl
theorem ok_nilc {w : World} {a : Addr} : U1.ok w .nilc (.pointer (some a)) = (true = true) := rfl
theorem ok_same {w : World} {v : Value} : U1.ok w .same v = True := rfl
theorem ok_sz {w : World} {n : Nat} {v : Value} : U1.ok w (.sz n) v = (v.cells.size = n) := rfl
theorem ok_off {w : World} {n : Nat} {a : Addr} : U1.ok w (.off n) (.pointer (some a)) = (true = true) := rfl
theorem ok_conv {w : World} {k k' : IntKind} {n : Int} : U1.ok w (.conv k) (.int k' n) = (true = true) := rfl
theorem ok_bnot {w : World} {b : Bool} : U1.ok w .bnot (.bool b) = (true = true) := rfl
theorem ok_neg {w : World} {k k' : IntKind} {n : Int} : U1.ok w (.neg k) (.int k' n) = (decide (k' = k) = true) := rfl
theorem ok_lenS {w : World} {s : ByteArray} : U1.ok w .lenS (.string s) = (true = true) := rfl
theorem ok_lenL {w : World} {a : Option Addr} {n c : Nat} : U1.ok w .lenL (.slice a n c) = True := rfl
theorem ok_fld {w : World} {o n : Nat} {cs : Array Value} : U1.ok w (.fld o n) (.agg cs) = True := rfl
theorem ok_fld1 {w : World} {o : Nat} {cs : Array Value} : U1.ok w (.fld1 o) (.agg cs) = (o < cs.size) := rfl
theorem ok_ext {w : World} {i : Nat} {vs : Array Value} : U1.ok w (.ext i) (.tuple vs) = (i < vs.size) := rfl
theorem ok_load {w : World} {n : Nat} {a : Addr} : U1.ok w (.load n) (.pointer (some a)) = (a.block < w.heap.size ∧ (rd w a n).isSome = true) := rfl
theorem ok_load1 {w : World} {a : Addr} : U1.ok w .load1 (.pointer (some a)) = ((w.cell? a).isSome = true) := rfl
theorem ok_nilq {w : World} {g : Bool} {p : Option Addr} : U1.ok w (.nilq g) (.pointer p) = True := rfl
theorem ok_nils {w : World} {g : Bool} {p : Option Addr} {n c : Nat} : U1.ok w (.nils g) (.slice p n c) = True := rfl
theorem val_ib_add {k k1 k2 : IntKind} {a b : Int} : U2.val (.ib .add k) (.int k1 a) (.int k2 b) = .int k (k.wrap (a + b)) := rfl
theorem ok_ib_add {k k1 k2 : IntKind} {a b : Int} : U2.ok (.ib .add k) (.int k1 a) (.int k2 b) = (decide (k1 = k) = true ∧ decide (k2 = k) = true ∧ True) := rfl
theorem val_ib_sub {k k1 k2 : IntKind} {a b : Int} : U2.val (.ib .sub k) (.int k1 a) (.int k2 b) = .int k (k.wrap (a - b)) := rfl
theorem ok_ib_sub {k k1 k2 : IntKind} {a b : Int} : U2.ok (.ib .sub k) (.int k1 a) (.int k2 b) = (decide (k1 = k) = true ∧ decide (k2 = k) = true ∧ True) := rfl
theorem val_ib_mul {k k1 k2 : IntKind} {a b : Int} : U2.val (.ib .mul k) (.int k1 a) (.int k2 b) = .int k (k.wrap (a * b)) := rfl
theorem ok_ib_mul {k k1 k2 : IntKind} {a b : Int} : U2.ok (.ib .mul k) (.int k1 a) (.int k2 b) = (decide (k1 = k) = true ∧ decide (k2 = k) = true ∧ True) := rfl
theorem val_ib_quo {k k1 k2 : IntKind} {a b : Int} : U2.val (.ib .quo k) (.int k1 a) (.int k2 b) = .int k (k.wrap (a.tdiv b)) := rfl
theorem ok_ib_quo {k k1 k2 : IntKind} {a b : Int} : U2.ok (.ib .quo k) (.int k1 a) (.int k2 b) = (decide (k1 = k) = true ∧ decide (k2 = k) = true ∧ (b ≠ 0)) := rfl
theorem val_ib_rem {k k1 k2 : IntKind} {a b : Int} : U2.val (.ib .rem k) (.int k1 a) (.int k2 b) = .int k (a.tmod b) := rfl
theorem ok_ib_rem {k k1 k2 : IntKind} {a b : Int} : U2.ok (.ib .rem k) (.int k1 a) (.int k2 b) = (decide (k1 = k) = true ∧ decide (k2 = k) = true ∧ (b ≠ 0)) := rfl
theorem val_ib_and {k k1 k2 : IntKind} {a b : Int} : U2.val (.ib .and k) (.int k1 a) (.int k2 b) = .int k (k.wrap (BitVec.ofInt k.bits a &&& BitVec.ofInt k.bits b).toNat) := rfl
theorem ok_ib_and {k k1 k2 : IntKind} {a b : Int} : U2.ok (.ib .and k) (.int k1 a) (.int k2 b) = (decide (k1 = k) = true ∧ decide (k2 = k) = true ∧ True) := rfl
theorem val_ib_or {k k1 k2 : IntKind} {a b : Int} : U2.val (.ib .or k) (.int k1 a) (.int k2 b) = .int k (k.wrap (BitVec.ofInt k.bits a ||| BitVec.ofInt k.bits b).toNat) := rfl
theorem ok_ib_or {k k1 k2 : IntKind} {a b : Int} : U2.ok (.ib .or k) (.int k1 a) (.int k2 b) = (decide (k1 = k) = true ∧ decide (k2 = k) = true ∧ True) := rfl
theorem val_ib_xor {k k1 k2 : IntKind} {a b : Int} : U2.val (.ib .xor k) (.int k1 a) (.int k2 b) = .int k (k.wrap (BitVec.ofInt k.bits a ^^^ BitVec.ofInt k.bits b).toNat) := rfl
theorem ok_ib_xor {k k1 k2 : IntKind} {a b : Int} : U2.ok (.ib .xor k) (.int k1 a) (.int k2 b) = (decide (k1 = k) = true ∧ decide (k2 = k) = true ∧ True) := rfl
theorem val_ib_andNot {k k1 k2 : IntKind} {a b : Int} : U2.val (.ib .andNot k) (.int k1 a) (.int k2 b) = .int k (k.wrap (BitVec.ofInt k.bits a &&& ~~~ BitVec.ofInt k.bits b).toNat) := rfl
theorem ok_ib_andNot {k k1 k2 : IntKind} {a b : Int} : U2.ok (.ib .andNot k) (.int k1 a) (.int k2 b) = (decide (k1 = k) = true ∧ decide (k2 = k) = true ∧ True) := rfl
theorem val_ib_eql {k k1 k2 : IntKind} {a b : Int} : U2.val (.ib .eql k) (.int k1 a) (.int k2 b) = .bool (decide (a = b)) := rfl
theorem ok_ib_eql {k k1 k2 : IntKind} {a b : Int} : U2.ok (.ib .eql k) (.int k1 a) (.int k2 b) = (decide (k1 = k) = true ∧ decide (k2 = k) = true ∧ True) := rfl
theorem val_ib_neq {k k1 k2 : IntKind} {a b : Int} : U2.val (.ib .neq k) (.int k1 a) (.int k2 b) = .bool (!decide (a = b)) := rfl
theorem ok_ib_neq {k k1 k2 : IntKind} {a b : Int} : U2.ok (.ib .neq k) (.int k1 a) (.int k2 b) = (decide (k1 = k) = true ∧ decide (k2 = k) = true ∧ True) := rfl
theorem val_ib_lss {k k1 k2 : IntKind} {a b : Int} : U2.val (.ib .lss k) (.int k1 a) (.int k2 b) = .bool (decide (a < b)) := rfl
theorem ok_ib_lss {k k1 k2 : IntKind} {a b : Int} : U2.ok (.ib .lss k) (.int k1 a) (.int k2 b) = (decide (k1 = k) = true ∧ decide (k2 = k) = true ∧ True) := rfl
theorem val_ib_leq {k k1 k2 : IntKind} {a b : Int} : U2.val (.ib .leq k) (.int k1 a) (.int k2 b) = .bool (decide (a ≤ b)) := rfl
theorem ok_ib_leq {k k1 k2 : IntKind} {a b : Int} : U2.ok (.ib .leq k) (.int k1 a) (.int k2 b) = (decide (k1 = k) = true ∧ decide (k2 = k) = true ∧ True) := rfl
theorem val_ib_gtr {k k1 k2 : IntKind} {a b : Int} : U2.val (.ib .gtr k) (.int k1 a) (.int k2 b) = .bool (decide (a > b)) := rfl
theorem ok_ib_gtr {k k1 k2 : IntKind} {a b : Int} : U2.ok (.ib .gtr k) (.int k1 a) (.int k2 b) = (decide (k1 = k) = true ∧ decide (k2 = k) = true ∧ True) := rfl
theorem val_ib_geq {k k1 k2 : IntKind} {a b : Int} : U2.val (.ib .geq k) (.int k1 a) (.int k2 b) = .bool (decide (a ≥ b)) := rfl
theorem ok_ib_geq {k k1 k2 : IntKind} {a b : Int} : U2.ok (.ib .geq k) (.int k1 a) (.int k2 b) = (decide (k1 = k) = true ∧ decide (k2 = k) = true ∧ True) := rfl
theorem val_shl {k k' k1 k2 : IntKind} {a b : Int} : U2.val (.sh true k k') (.int k1 a) (.int k2 b) = .int k (k.wrap (a * 2 ^ (min b.toNat k.bits))) := rfl
theorem val_shr {k k' k1 k2 : IntKind} {a b : Int} : U2.val (.sh false k k') (.int k1 a) (.int k2 b) = .int k (a.fdiv (2 ^ (min b.toNat k.bits))) := rfl
theorem ok_sh {l : Bool} {k k' k1 k2 : IntKind} {a b : Int} : U2.ok (.sh l k k') (.int k1 a) (.int k2 b) = (decide (k1 = k) = true ∧ decide (k2 = k') = true ∧ 0 ≤ b) := rfl
theorem val_bb_f {a b : Bool} : U2.val (.bb false) (.bool a) (.bool b) = .bool (a == b) := rfl
theorem val_bb_t {a b : Bool} : U2.val (.bb true) (.bool a) (.bool b) = .bool (a != b) := rfl
theorem ok_bb {n a b : Bool} : U2.ok (.bb n) (.bool a) (.bool b) = (true = true ∧ true = true) := rfl
theorem val_sb_add {a b : ByteArray} : U2.val (.sb .add) (.string a) (.string b) = .string (a ++ b) := rfl
theorem ok_sb_add {a b : ByteArray} : U2.ok (.sb .add) (.string a) (.string b) = (a.size + b.size ≤ 9223372036854775807) := rfl
theorem val_sb_eql {a b : ByteArray} : U2.val (.sb .eql) (.string a) (.string b) = .bool (decide (a.data.toList = b.data.toList)) := rfl
theorem ok_sb_eql {a b : ByteArray} : U2.ok (.sb .eql) (.string a) (.string b) = True := rfl
theorem val_sb_neq {a b : ByteArray} : U2.val (.sb .neq) (.string a) (.string b) = .bool (!decide (a.data.toList = b.data.toList)) := rfl
theorem ok_sb_neq {a b : ByteArray} : U2.ok (.sb .neq) (.string a) (.string b) = True := rfl
theorem val_sb_lss {a b : ByteArray} : U2.val (.sb .lss) (.string a) (.string b) = .bool (Op.bytesLess a.toList b.toList) := rfl
theorem ok_sb_lss {a b : ByteArray} : U2.ok (.sb .lss) (.string a) (.string b) = True := rfl
theorem val_idxA {sz n c : Nat} {a : Addr} {k : IntKind} {i : Int} : U2.val (.idxA sz) (.slice (some a) n c) (.int k i) = .pointer (some (a.add (i.toNat * sz))) := rfl
theorem ok_idxA {sz n c : Nat} {a : Addr} {k : IntKind} {i : Int} : U2.ok (.idxA sz) (.slice (some a) n c) (.int k i) = (0 ≤ i ∧ i < n) := rfl
theorem val_idxP {len sz : Nat} {a : Addr} {k : IntKind} {i : Int} : U2.val (.idxP len sz) (.pointer (some a)) (.int k i) = .pointer (some (a.add (i.toNat * sz))) := rfl
theorem ok_idxP {len sz : Nat} {a : Addr} {k : IntKind} {i : Int} : U2.ok (.idxP len sz) (.pointer (some a)) (.int k i) = (0 ≤ i ∧ i < len) := rfl
theorem val_idxS {s : ByteArray} {k : IntKind} {i : Int} : U2.val .idxS (.string s) (.int k i) = .int .u8 ((s.data.toList.getD i.toNat 0).toNat : Int) := rfl
theorem ok_idxS {s : ByteArray} {k : IntKind} {i : Int} : U2.ok .idxS (.string s) (.int k i) = (0 ≤ i ∧ i < s.size) := rfl
theorem val_idxV_t {len sz : Nat} {cs : Array Value} {k : IntKind} {i : Int} : U2.val (.idxV len sz true) (.agg cs) (.int k i) = .agg (cs.extract (i.toNat * sz) (i.toNat * sz + sz)) := rfl
theorem val_idxV_f {len sz : Nat} {cs : Array Value} {k : IntKind} {i : Int} : U2.val (.idxV len sz false) (.agg cs) (.int k i) = cs[i.toNat * sz]?.getD undef := rfl
theorem ok_idxV_t {len sz : Nat} {cs : Array Value} {k : IntKind} {i : Int} : U2.ok (.idxV len sz true) (.agg cs) (.int k i) = (0 ≤ i ∧ i < len) := rfl
theorem ok_idxV_f {len sz : Nat} {cs : Array Value} {k : IntKind} {i : Int} : U2.ok (.idxV len sz false) (.agg cs) (.int k i) = (0 ≤ i ∧ i < len ∧ i.toNat * sz < cs.size) := rfl
theorem val_max {k k1 k2 : IntKind} {a b : Int} : U2.val (.mm true k) (.int k1 a) (.int k2 b) = .int k (max a b) := rfl
theorem val_min {k k1 k2 : IntKind} {a b : Int} : U2.val (.mm false k) (.int k1 a) (.int k2 b) = .int k (min a b) := rfl
theorem ok_mm {m : Bool} {k k1 k2 : IntKind} {a b : Int} : U2.ok (.mm m k) (.int k1 a) (.int k2 b) = (decide (k1 = k) = true ∧ decide (k2 = k) = true) := rfl
theorem val_app {a : Array Value} {v : Value} : U2.val .app (.agg a) v = .agg (a ++ v.cells) := rfl
theorem ok_app {a : Array Value} {v : Value} : U2.ok .app (.agg a) v = True := rfl
theorem val_slS {s : ByteArray} {k1 k2 : IntKind} {l h : Int} : U3.val .slS (.string s) (.int k1 l) (.int k2 h) = .string (s.extract l.toNat h.toNat) := rfl
theorem ok_slS {s : ByteArray} {k1 k2 : IntKind} {l h : Int} : U3.ok .slS (.string s) (.int k1 l) (.int k2 h) = (0 ≤ l ∧ l ≤ h ∧ h ≤ s.size) := rfl
theorem val_slL {sz n c : Nat} {a : Option Addr} {k1 k2 : IntKind} {l h : Int} : U3.val (.slL sz) (.slice a n c) (.int k1 l) (.int k2 h) = .slice (if c = l.toNat then a else a.map (·.add (l.toNat * sz))) (h.toNat - l.toNat) (c - l.toNat) := rfl
theorem ok_slL {sz n c : Nat} {a : Option Addr} {k1 k2 : IntKind} {l h : Int} : U3.ok (.slL sz) (.slice a n c) (.int k1 l) (.int k2 h) = (0 ≤ l ∧ l ≤ h ∧ h ≤ c) := rfl
theorem vBool_b {b : Bool} : vBool (.bool b) = b := rfl
theorem cells_int {k : IntKind} {n : Int} : (Value.int k n).cells = #[.int k n] := rfl
theorem cells_bool {b : Bool} : (Value.bool b).cells = #[.bool b] := rfl
theorem cells_str {b : ByteArray} : (Value.string b).cells = #[.string b] := rfl
theorem cells_ptr {b : Option Addr} : (Value.pointer b).cells = #[.pointer b] := rfl
theorem cells_sl {a : Option Addr} {n c : Nat} : (Value.slice a n c).cells = #[.slice a n c] := rfl
theorem cells_map {a : Option Nat} : (Value.map a).cells = #[.map a] := rfl
theorem cells_agg {a : Array Value} : (Value.agg a).cells = a := rfl

/-! Memory, block by block. -/
def cellOf (o : Option Obj) (i : Nat) : Option Value := match o with
  | some (.cells c _ _) => c[i]?
  | _ => none
theorem cell_at {w : World} {b o : Nat} : w.cell? ⟨b, o, none⟩ = cellOf (w.heap[b]?) o := by
  unfold World.cell? cellOf
  cases w.heap[b]? with
  | none => rfl
  | some x => cases x <;> rfl
theorem cellOf_some {c : Array Value} {T : TypeId} {f : Nat × Nat} {i : Nat} : cellOf (some (.cells c T f)) i = c[i]? := rfl
def rdOf (o : Option Obj) (i n : Nat) : Option (List Value) := match o with
  | some (.cells c _ _) => if i + n ≤ c.size then some ((c.toList.drop i).take n) else if n = 0 then some [] else none
  | _ => if n = 0 then some [] else none
theorem rd_at {w : World} {b : Nat} : ∀ {n o : Nat}, rd w ⟨b, o, none⟩ n = rdOf (w.heap[b]?) o n
  | 0, o => by
    unfold rdOf; simp only [rd]
    cases w.heap[b]? with
    | none => rfl
    | some x => cases x <;> simp
  | n + 1, o => by
    simp only [rd, Addr.add_lit, rd_at (n := n), cell_at]
    unfold rdOf cellOf
    cases w.heap[b]? with
    | none => simp
    | some x =>
      cases x <;> simp only [Nat.add_eq_zero_iff, Nat.succ_ne_self, and_false, if_false, reduceCtorEq] <;> try (split <;> simp_all; done)
      rename_i c T f
      by_cases h : o + (n + 1) ≤ c.size
      · have hlt : o < c.size := by omega
        rw [if_pos h, if_pos (by omega), Array.getElem?_eq_getElem hlt]
        have hl : o < c.toList.length := by simpa using hlt
        rw [List.drop_eq_getElem_cons hl, List.take_succ_cons]
        simp
      · rw [if_neg h]
        by_cases hlt : o < c.size
        · rw [Array.getElem?_eq_getElem hlt, if_neg (by omega)]
          by_cases hn : n = 0
          · subst hn; omega
          · simp [hn]
        · rw [Array.getElem?_eq_none (by omega)]
theorem rdOf_some {c : Array Value} {T : TypeId} {f : Nat × Nat} {i n : Nat} (h : i + n ≤ c.size) : rdOf (some (.cells c T f)) i n = some ((c.toList.drop i).take n) := by simp [rdOf, h]
def setObj (cs : Array Value) : Option Obj → Option Obj
  | some (.cells _ T f) => some (.cells cs T f)
  | o => o
theorem heap_setRow_same {w : World} {g : Nat} {cs : Array Value} : (w.setRow g cs).heap[g]? = setObj cs (w.heap[g]?) := by
  unfold World.setRow setObj
  simp only [Array.getElem?_modify, if_true]
  cases w.heap[g]? with
  | none => rfl
  | some x => cases x <;> rfl
theorem setObj_some {c cs : Array Value} {T : TypeId} {f : Nat × Nat} : setObj cs (some (.cells c T f)) = some (.cells cs T f) := rfl
theorem heap_setRow_ne {w : World} {g b : Nat} {cs : Array Value} (h : b ≠ g) : (w.setRow g cs).heap[b]? = w.heap[b]? := setRow_other w g b cs h
theorem heap_alloc_lt {w : World} {o : Obj} {b : Nat} (h : b < w.heap.size) : (w.alloc o).heap[b]? = w.heap[b]? := heap_alloc_old w o h
theorem heap_alloc_same {w : World} {o : Obj} : (w.alloc o).heap[w.heap.size]? = some o := heap_alloc_new w o
theorem heap_drew {w : World} : w.drew.heap = w.heap := rfl
def splice (c : Array Value) (o : Nat) (vs : List Value) : Array Value := (c.toList.take o ++ vs ++ c.toList.drop (o + vs.length)).toArray
def stOf (w : World) (b o : Nat) (vs : List Value) : Option Obj → Option World
  | some (.cells c T (0, 0)) => if o + vs.length ≤ c.size ∧ vs.all Value.oneCell' = true then some (w.setRow b (splice c o vs)) else stAt w ⟨b, o, none⟩ vs
  | _ => stAt w ⟨b, o, none⟩ vs
theorem st_at {w : World} {b o : Nat} {vs : List Value} : stAt w ⟨b, o, none⟩ vs = stOf w b o vs (w.heap[b]?) := by
  unfold stOf
  split
  · rename_i c T hc
    split
    · rename_i h
      have := Blk.st (w := w) (b := b) (T := T) (cs := c.toList) (by unfold Blk; rw [hc]) vs o (by simpa using h.1) (by simpa using h.2)
      rw [this]; rfl
    · rfl
  · rfl
theorem stOf_some {w : World} {b o : Nat} {vs : List Value} {c : Array Value} {T : TypeId} (h : o + vs.length ≤ c.size) (h1 : vs.all Value.oneCell' = true) : stOf w b o vs (some (.cells c T (0, 0))) = some (w.setRow b (splice c o vs)) := by
  simp only [stOf]; rw [if_pos ⟨h, h1⟩]
theorem st_vc {a : Addr} {w : World} {K : World → Prop} {vs : List Value} : (∃ a' w', Value.pointer (some a) = .pointer (some a') ∧ stAt w a' vs = some w' ∧ K w') = ∃ w', stAt w a vs = some w' ∧ K w' := by
  apply propext
  constructor
  · rintro ⟨a', w', h, h1, h2⟩; cases h; exact ⟨w', h1, h2⟩
  · rintro ⟨w', h1, h2⟩; exact ⟨a, w', rfl, h1, h2⟩
theorem one_int {k : IntKind} {n : Int} : Value.oneCell' (.int k n) = true := rfl
theorem one_bool {b : Bool} : Value.oneCell' (.bool b) = true := rfl
theorem one_str {b : ByteArray} : Value.oneCell' (.string b) = true := rfl
theorem one_ptr {b : Option Addr} : Value.oneCell' (.pointer b) = true := rfl
theorem one_sl {a : Option Addr} {n c : Nat} : Value.oneCell' (.slice a n c) = true := rfl
theorem one_map {a : Option Nat} : Value.oneCell' (.map a) = true := rfl
/-- The append, once its operands are known. -/
theorem ranTo_append {P : Program} {K : Value → World → Prop} {ρ : Operand → Value} {w : World} {d : Option Nat} {a b : Operand} {t ty : TypeId} {va vb : Value} (ha : ρ a = va) (hb : ρ b = vb)
    (h : ∃ v w', (Builtin.append_ #[t, t] ty #[va, vb]).run P w = .ok v w' ∧ K v w') :
    ranTo K ((execOp ρ { dst := d, op := .call { callee := .builtin .append, args := #[a, b], argTypes := #[t, t] }, type := ty, pos := "", after := #[], guard := none }).run P w) := by
  obtain ⟨v, w', h1, h2⟩ := h
  subst ha; subst hb
  simp [execOp, resolve, invoke, builtin, h1, ranTo, h2]
theorem splice_all {z : Array Value} {vs : List Value} (h : z.size = vs.length) : splice z 0 vs = vs.toArray := by
  unfold splice
  have : z.toList.drop (0 + vs.length) = [] := List.drop_eq_nil_of_le (by simp [h])
  simp only [this, List.take_zero, List.nil_append, List.append_nil]
theorem wrap_i64 {n : Int} (h : -9223372036854775808 ≤ n ∧ n ≤ 9223372036854775807) : IntKind.i64.wrap n = n := IntWalk.i64_in n h
end Go.Sx
