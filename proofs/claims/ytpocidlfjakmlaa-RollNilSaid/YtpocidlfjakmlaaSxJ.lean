/-
  SxJ: from a function's code to its compact form, and what that form owes.
-/
import Derived.Test.YtpocidlfjakmlaaSxI
import Derived.Scope
set_option linter.unusedSimpArgs false
set_option linter.unusedVariables false
namespace Go.Sx
open Go

def opTmps (l : List Operand) : List Nat := l.filterMap fun | .tmp t => some t | _ => none
def regCross : List Oper → List Nat → List Nat
  | [], _ => []
  | o :: r, seen => (opTmps o.op.operands.toList).filter (fun t => !seen.contains t) ++ regCross r (match o.dst with | some d => d :: seen | none => seen)
def cross : Code → List Nat
  | .region _ ops _ => regCross ops.toList []
  | .seq a b => cross a ++ cross b
  | .cond c a b => opTmps [c] ++ cross a ++ cross b
  | .block _ c => cross c
  | .loop c => cross c
  | .scope c => cross c
  | _ => []
def resTmps (fn : Func) : List Nat := fn.results.toList.filterMap fun | .tmp t => some t | _ => none

def greedyM (ops : Array Oper) (kind : Oper → Kind) : Nat → Nat → List Nat
  | 0, _ => []
  | fuel + 1, m =>
    let rs := readyM ops.toList 0 m
    match rs.find? fun i => !effOf ops kind i with
    | some i => strict (m ||| 1 <<< i) fun m' => i :: greedyM ops kind fuel m'
    | none => match rs with
      | i :: _ => strict (m ||| 1 <<< i) fun m' => i :: greedyM ops kind fuel m'
      | [] => []

def loadM (kind : Oper → Kind) : List Oper → Nat → Nat
  | [], _ => 0
  | o :: r, j => if kind o == .load then (1 <<< j) ||| loadM kind r (j + 1) else loadM kind r (j + 1)

def needM (kind : Oper → Kind) (draw : Bool) (lm : Nat) (ms : List Nat) : List Oper → Nat → Nat
  | [], _ => 0
  | o :: r, j => if kind o == .eff && (if draw then !within lm (ms.getD j 0) else lm >>> (j + 1) != 0) then (1 <<< j) ||| needM kind draw lm ms r (j + 1) else needM kind draw lm ms r (j + 1)

def needsOf {α : Type} (ops : Array Oper) (kind : Oper → Kind) (draw : Bool) (k : Nat → α) : α :=
  strict (loadM kind ops.toList 0) fun lm => if draw then clos ops.toList [] fun ms => strict (needM kind draw lm ms ops.toList 0) k else strict (needM kind draw lm [] ops.toList 0) k

def orderOf {α : Type} (ops : Array Oper) (kind : Oper → Kind) (draw : Bool) (k : List Nat → α) : α :=
  if draw then forceL (greedyM ops kind ops.size 0) k else k (List.range ops.size)

def drawOk (ops : Array Oper) (kind : Oper → Kind) (draw : Bool) (needs : Nat) (order : List Nat) : Bool :=
  if draw then Region.noSelect ops && order.length == ops.size && clos ops.toList [] (fun ms => schedM ops needs kind ms order 0) else order == List.range ops.size

def outsOf (σ : Sig) (kf : List Nat) (cand : List Nat) : List (Nat × E) := cand.filterMap fun t => match resolve1 σ kf (.tmp t) with
  | some (x, none) => some (t, x)
  | _ => none

def creg2 (P : Program) (n : Nat) (shared : List Nat) (ops : Array Oper) (draw : Bool) (k : List Nat) (needs : Nat) (order : List Nat) : Option (C × List Nat) :=
  if drawOk ops (kindOf P) draw needs order then
    match cgo P ops n needs.testBit order [] k true with
    | none => none
    | some (steps, σ, kf) =>
      let cand := k ++ ((ops.toList.filterMap (·.dst)).filter fun d => shared.contains d && !k.contains d)
      let outs := outsOf σ kf cand
      forceL (outs.map (·.1)) fun k' =>
      if k.all k'.contains then some (.reg draw steps outs, k') else none
  else none

def creg (P : Program) (n : Nat) (shared : List Nat) (ops : Array Oper) (draw : Bool) (k : List Nat) : Option (C × List Nat) :=
  needsOf ops (kindOf P) draw fun needs => orderOf ops (kindOf P) draw fun order => creg2 P n shared ops draw k needs order

theorem creg_spec {P : Program} {n : Nat} {shared : List Nat} {ops : Array Oper} {draw : Bool} {k : List Nat} {x : C × List Nat} (h : creg P n shared ops draw k = some x) : ∃ needs order, creg2 P n shared ops draw k needs order = some x := by
  unfold creg needsOf orderOf at h
  rw [strict_eq] at h
  cases draw with
  | false => simp only [Bool.false_eq_true, if_false, strict_eq] at h; exact ⟨_, _, h⟩
  | true =>
    simp only [if_true, strict_eq, forceL_eq] at h
    have : ∀ (l : List Oper) (ms : List Nat), ∃ ms', clos l ms (fun ms => creg2 P n shared ops true k (needM (kindOf P) true (loadM (kindOf P) ops.toList 0) ms ops.toList 0) (greedyM ops (kindOf P) ops.size 0)) = creg2 P n shared ops true k (needM (kindOf P) true (loadM (kindOf P) ops.toList 0) ms' ops.toList 0) (greedyM ops (kindOf P) ops.size 0) := by
      intro l
      induction l with
      | nil => intro ms; exact ⟨ms, rfl⟩
      | cons o r ih => intro ms; simp only [clos, strict_eq]; exact ih _
    obtain ⟨ms, hms⟩ := this ops.toList []
    rw [hms] at h
    exact ⟨_, _, h⟩

def meet (a b : Option (List Nat)) : Option (List Nat) := match a, b with
  | none, b => b
  | a, none => a
  | some a, some b => some (a.filter b.contains)

def condE (k : List Nat) : Operand → Option E
  | .tmp t => if k.contains t then some (.tmp t) else none
  | .const v => some (.const v)
  | _ => none

def ccode (P : Program) (n : Nat) (shared : List Nat) : Code → List Nat → Option (C × Option (List Nat))
  | .skip, k => some (.skip, some k)
  | .label _, k => some (.skip, some k)
  | .region _ ops draw, k => (creg P n shared ops draw k).map fun x => (x.1, some x.2)
  | .seq a b, k => match forceL (cross b ++ shared) fun sh => ccode P n sh a k with
    | some (ca, ka) => match ccode P n shared b (ka.getD k) with
      | some (cb, kb) => some (.seq ca cb, match kb with | none => none | some l => forceL (l.filter fun t => k.contains t || shared.contains t) some)
      | none => none
    | none => none
  | .cond x a b, k => match condE k x, ccode P n shared a k, ccode P n shared b k with
    | some x', some (ca, ka), some (cb, kb) => some (.cond x' ca cb, meet ka kb)
    | _, _, _ => none
  | .block id c, k => (ccode P n shared c k).map fun x => (.block id x.1, some k)
  | .loop c, k => (forceL (cross c ++ shared) fun sh => ccode P n sh c k).map fun x => (.loop k x.1, none)
  | .scope c, k => ccode P n shared c k
  | .exit id, _ => some (.exit id, none)
  | .ret, _ => some (.ret, none)
  | _, _ => none

def Sub (k l : List Nat) : Prop := ∀ t, k.contains t = true → l.contains t = true

theorem ccode_sub {P : Program} {n : Nat} : ∀ (c : Code) (shared : List Nat) (k : List Nat) (c' : C) (k' : Option (List Nat)), ccode P n shared c k = some (c', k') → ∀ l, k' = some l → Sub k l := by
  intro c
  induction c with
  | skip => intro shared k c' k' h l hl; simp [ccode] at h; obtain ⟨rfl, rfl⟩ := h; cases hl; exact fun _ h => h
  | label _ => intro shared k c' k' h l hl; simp [ccode] at h; obtain ⟨rfl, rfl⟩ := h; cases hl; exact fun _ h => h
  | region id ops draw =>
    intro shared k c' k' h l hl
    simp only [ccode] at h
    cases hr : creg P n shared ops draw k with
    | none => simp [hr] at h
    | some x =>
      simp [hr] at h; obtain ⟨rfl, rfl⟩ := h
      cases hl
      obtain ⟨needs, order, hr⟩ := creg_spec hr
      unfold creg2 at hr
      split at hr
      · split at hr
        · cases hr
        · simp only [forceL_eq] at hr
          split at hr
          · rename_i hall
            cases hr
            intro t ht
            exact List.all_eq_true.1 hall t (by simpa using ht)
          · cases hr
      · cases hr
  | seq a b iha ihb =>
    intro shared k c' k' h l hl
    simp only [ccode, forceL_eq] at h
    cases ha : ccode P n (cross b ++ shared) a k with
    | none => simp [ha] at h
    | some x =>
      obtain ⟨ca, ka⟩ := x
      simp only [ha] at h
      cases hb : ccode P n shared b (ka.getD k) with
      | none => simp [hb] at h
      | some y =>
        obtain ⟨cb, kb⟩ := y
        simp only [hb, Option.some.injEq, Prod.mk.injEq] at h; obtain ⟨rfl, rfl⟩ := h
        cases kb with
        | none => simp at hl
        | some m0 =>
          simp only [Option.some.injEq] at hl; subst hl
          have h1 := ihb _ _ _ _ hb m0 rfl
          have h2 : Sub k m0 := by
            cases ka with
            | none => exact h1
            | some m => exact fun t ht => h1 t (iha _ _ _ _ ha m rfl t ht)
          intro t ht
          have h3 := h2 t ht
          simp at h3 ht ⊢
          exact ⟨h3, .inl ht⟩
  | cond x a b iha ihb =>
    intro shared k c' k' h l hl
    simp only [ccode] at h
    cases hx : condE k x with
    | none => simp [hx] at h
    | some x' =>
      cases ha : ccode P n shared a k with
      | none => simp [hx, ha] at h
      | some y =>
        obtain ⟨ca, ka⟩ := y
        cases hb : ccode P n shared b k with
        | none => simp [hx, ha, hb] at h
        | some z =>
          obtain ⟨cb, kb⟩ := z
          simp [hx, ha, hb] at h; obtain ⟨rfl, rfl⟩ := h
          cases ka with
          | none => exact ihb _ _ _ _ hb l (by simpa [meet] using hl)
          | some m =>
            cases kb with
            | none => exact iha _ _ _ _ ha l (by simpa [meet] using hl)
            | some m' =>
              simp [meet] at hl; subst hl
              intro t ht
              have h1 := iha _ _ _ _ ha m rfl t ht
              have h2 := ihb _ _ _ _ hb m' rfl t ht
              simp at h1 h2 ⊢
              exact ⟨h1, h2⟩
  | block id c ih =>
    intro shared k c' k' h l hl
    simp only [ccode] at h
    cases hr : ccode P n shared c k with
    | none => simp [hr] at h
    | some x => simp [hr] at h; obtain ⟨rfl, rfl⟩ := h; cases hl; exact fun _ h => h
  | loop c ih =>
    intro shared k c' k' h l hl
    simp only [ccode, forceL_eq] at h
    cases hr : ccode P n (cross c ++ shared) c k with
    | none => simp [hr] at h
    | some x => simp [hr] at h; obtain ⟨rfl, rfl⟩ := h; cases hl
  | scope c ih => intro shared k c' k' h l hl; exact ih shared k c' k' h l hl
  | exit id => intro shared k c' k' h l hl; simp [ccode] at h; obtain ⟨rfl, rfl⟩ := h; cases hl
  | ret => intro shared k c' k' h l hl; simp [ccode] at h; obtain ⟨rfl, rfl⟩ := h; cases hl
  | goto _ => intro shared k c' k' h; simp [ccode] at h
  | rangeFunc _ _ _ _ _ _ => intro shared k c' k' h; simp [ccode] at h
  | refuse _ => intro shared k c' k' h; simp [ccode] at h

def lift (n : Nat) (k : List Nat) (k' : Option (List Nat)) (Q : Post) (x : Exit) (a : Act) (w : World) : Prop := match x with
  | .panic _ => False
  | .outgrown => False
  | .goto _ => False
  | x => ∃ e, Fits n e a ∧ Has k e ∧ (x = .normal → ∃ l, k' = some l ∧ Has l e) ∧ Q x e w

theorem lift_sub {n : Nat} {k l : List Nat} {k' : Option (List Nat)} {Q : Post} (hs : Sub k l) {x : Exit} {a : Act} {w : World} (h : lift n l k' Q x a w) : lift n k k' Q x a w := by
  cases x <;> simp only [lift] at h ⊢ <;> (obtain ⟨e, h1, h2, h3⟩ := h; exact ⟨e, h1, fun t ht => h2 t (hs t ht), h3⟩)

theorem lift_filter {n : Nat} {k : List Nat} {k' : Option (List Nat)} {p : Nat → Bool} {Q : Post} {x : Exit} {a : Act} {w : World} (h : lift n k k' Q x a w) : lift n k (k'.map fun l => l.filter p) Q x a w := by
  cases x <;> simp only [lift] at h ⊢ <;> try (exact h)
  · obtain ⟨e, h1, h2, h3, h4⟩ := h
    obtain ⟨l, rfl, h5⟩ := h3 trivial
    exact ⟨e, h1, h2, fun _ => ⟨_, rfl, fun t ht => h5 t (by simp at ht ⊢; exact ht.1)⟩, h4⟩
  · obtain ⟨e, h1, h2, h3, h4⟩ := h
    exact ⟨e, h1, h2, (fun h => by cases h), h4⟩
  · obtain ⟨e, h1, h2, h3, h4⟩ := h
    exact ⟨e, h1, h2, (fun h => by cases h), h4⟩

theorem lookup_filterMap {keep : List Nat} {f : Nat → Option Value} (t : Nat) : (keep.filterMap fun s => (f s).map fun v => (s, v)).lookup t = if keep.contains t then f t else none := by
  induction keep with
  | nil => simp
  | cons s r ih =>
    simp only [List.filterMap_cons, List.contains_cons]
    by_cases hts : t = s
    · subst hts
      cases hf : f t with
      | none => simp [ih, hf]
      | some v => simp [lookup_cons_same]
    · have hb : (t == s) = false := by simpa using hts
      cases hf : f s with
      | none => simp [ih, hb]
      | some v => simp [lookup_cons_ne hts, ih, hb]

theorem Fits.prune {n : Nat} {keep : List Nat} {e : Env} {a : Act} (h : Fits n e a) : Fits n (prune keep e) a :=
  ⟨h.defers, h.size, fun t v hv => h.at_ t v (by
    unfold Sx.prune at hv
    rw [lookup_filterMap (f := fun t => e.lookup t)] at hv
    split at hv
    · exact hv
    · cases hv)⟩
theorem Has.prune {keep : List Nat} {e : Env} (h : Has keep e) : Has keep (prune keep e) := by
  intro t ht
  unfold Sx.prune
  rw [lookup_filterMap (f := fun t => e.lookup t), if_pos ht]
  exact h t ht

def envOf (keep : List Nat) (a : Act) : Env := keep.filterMap fun t => (a.tmps[t]?).map fun v => (t, v)
theorem envOf_eq {n : Nat} {keep : List Nat} {e : Env} {a : Act} (h : Fits n e a) (hk : Has keep e) : envOf keep a = prune keep e := by
  unfold envOf Sx.prune
  have : ∀ l : List Nat, (∀ t ∈ l, keep.contains t = true) → (l.filterMap fun t => (a.tmps[t]?).map fun v => (t, v)) = l.filterMap fun t => (e.lookup t).map fun v => (t, v) := by
    intro l
    induction l with
    | nil => intro _; rfl
    | cons t r ih =>
      intro hl
      obtain ⟨v, hv⟩ := Option.isSome_iff_exists.1 (hk t (hl t List.mem_cons_self))
      simp only [List.filterMap_cons, hv, h.at_ t v hv, ih (fun t ht => hl t (List.mem_cons_of_mem _ ht))]
  exact this keep (fun t ht => by simpa using ht)

theorem resolve1_at {n : Nat} {σ : Sig} {known : List Nat} {e : Env} {w0 : World} {a : Act} (hI : Inv n σ known e w0 a) {t : Nat} {x : E} (h : resolve1 σ known (.tmp t) = some (x, none)) : a.tmps[t]? = some (x.val e w0) := by
  simp only [resolve1] at h
  cases hs : σ.lookup t with
  | some z =>
    simp only [hs, Option.some.injEq] at h; subst h
    exact (hI.sig t x none hs).1 trivial
  | none =>
    simp only [hs] at h
    split at h
    · rename_i hk
      cases h
      obtain ⟨v, hv⟩ := Option.isSome_iff_exists.1 (hI.kn t hk)
      simp [hI.env t v hv hs, E.val, hv]
    · cases h

theorem outs_fits {n : Nat} {σ : Sig} {kf : List Nat} {e : Env} {w0 : World} {a : Act} (hI : Inv n σ kf e w0 a) (cand : List Nat) : Fits n ((outsOf σ kf cand).map fun x => (x.1, x.2.val e w0)) a := by
  refine ⟨hI.defers, hI.size, fun t v hv => ?_⟩
  induction cand with
  | nil => simp [outsOf] at hv
  | cons s r ih =>
    simp only [outsOf, List.filterMap_cons] at hv ih
    split at hv
    · exact ih hv
    · rename_i y hy
      split at hy
      · rename_i x hx
        cases hy
        simp only [List.map_cons] at hv
        by_cases hts : t = s
        · subst hts
          rw [lookup_cons_same] at hv
          cases hv
          exact resolve1_at hI hx
        · rw [lookup_cons_ne hts] at hv
          exact ih hv
      · cases hy

theorem outs_has {σ : Sig} {kf : List Nat} {e : Env} {w0 : World} {l : List (Nat × E)} : Has (l.map (·.1)) (l.map fun x => (x.1, x.2.val e w0)) := by
  intro t ht
  induction l with
  | nil => simp at ht
  | cons s r ih =>
    simp only [List.map_cons, List.contains_cons, Bool.or_eq_true, beq_iff_eq] at ht ⊢
    by_cases hts : t = s.1
    · subst hts; rw [lookup_cons_same]; rfl
    · rw [lookup_cons_ne hts]
      exact ih (ht.resolve_left hts)

set_option maxHeartbeats 1000000 in
theorem ccode_sound {P : Program} {n : Nat} (hm : P.follows .mixedOrders = true) : ∀ (c : Code) (shared : List Nat) (k : List Nat) (c' : C) (k' : Option (List Nat)), ccode P n shared c k = some (c', k') →
    ∀ (Q : Post) (e : Env) (a : Act) (w : World), Has k e → Fits n e a → c'.vc P Q e w → c.wp P (lift n k k' Q) a w := by
  intro c
  induction c with
  | skip =>
    intro shared k c' k' h Q e a w hk hf hv
    simp [ccode] at h; obtain ⟨rfl, rfl⟩ := h
    exact wp_skip ⟨e, hf, hk, fun _ => ⟨k, rfl, hk⟩, hv⟩
  | label _ =>
    intro shared k c' k' h Q e a w hk hf hv
    simp [ccode] at h; obtain ⟨rfl, rfl⟩ := h
    exact wp_label ⟨e, hf, hk, fun _ => ⟨k, rfl, hk⟩, hv⟩
  | region id ops draw =>
    intro shared k c' k' h Q e a w hk hf hv
    simp only [ccode] at h
    cases hr : creg P n shared ops draw k with
    | none => simp [hr] at h
    | some x =>
      simp [hr] at h; obtain ⟨rfl, rfl⟩ := h
      obtain ⟨needs, order, hr⟩ := creg_spec hr
      unfold creg2 at hr
      split at hr <;> try (cases hr; done)
      rename_i hdraw
      split at hr <;> try (cases hr; done)
      rename_i steps σ kf hgo
      simp only [forceL_eq] at hr
      split at hr <;> try (cases hr; done)
      rename_i hall
      cases hr
      have hI : ∀ w0, Inv n [] k e w0 a := fun w0 => ⟨hf.defers, hf.size, hk, fun t v h _ => hf.at_ t v h, fun t x g h => by simp at h, fun t x g h => by simp at h⟩
      simp only [C.vc] at hv
      have main : ∀ w0, vsteps P w0 (outsOf σ kf (k ++ ((ops.toList.filterMap (·.dst)).filter fun d => shared.contains d && !k.contains d))) (fun e w => Q .normal e w) steps e w0 →
          wpPi P ops (lift n k (some ((outsOf σ kf (k ++ ((ops.toList.filterMap (·.dst)).filter fun d => shared.contains d && !k.contains d))).map (·.1))) Q) (Keep w0) needs.testBit (kindOf P) order a w0 := by
        intro w0 hv
        refine cgo_sound _ [] k true e a w0 steps σ kf hgo (hI w0) (fun _ => Keep.refl w0) ?_ hv
        intro e' a' w' hI' hK
        refine ⟨_, outs_fits hI' _, ?_, fun _ => ⟨_, rfl, outs_has (σ := σ) (kf := kf)⟩, hK⟩
        intro t ht
        refine outs_has (σ := σ) (kf := kf) t ?_
        exact List.all_eq_true.1 hall t (by simpa using ht)
      cases draw with
      | false =>
        have := main w hv
        have ho : order = List.range ops.size := by simpa [drawOk] using hdraw
        subst ho
        exact wp_region_pi (S := Keep w) (need := needs.testBit) (kind := kindOf P) this
      | true =>
        have := main w.drew hv
        simp only [drawOk, if_true, Bool.and_eq_true, beq_iff_eq] at hdraw
        exact wp_region_draw_pi (S := Keep w.drew) (needs := needs) (kind := kindOf P) hm hdraw.1.1 (fun c a w dst v h => h) hdraw.1.2 hdraw.2 this
  | seq x y ihx ihy =>
    intro shared k c' k' h Q e a w hk hf hv
    simp only [ccode, forceL_eq] at h
    cases ha : ccode P n (cross y ++ shared) x k with
    | none => simp [ha] at h
    | some z =>
      obtain ⟨ca, ka⟩ := z
      simp only [ha] at h
      cases hb : ccode P n shared y (ka.getD k) with
      | none => simp [hb] at h
      | some z =>
        obtain ⟨cb, kb⟩ := z
        simp only [hb, Option.some.injEq, Prod.mk.injEq] at h; obtain ⟨rfl, rfl⟩ := h
        have h1 := ihx _ _ _ _ ha _ e a w hk hf hv
        refine wp_seq (wp_mono h1 ?_)
        intro ex a' w' hl
        cases ex <;> simp only [lift, Exit.then] at hl ⊢ <;> try (exact hl.elim)
        · obtain ⟨e', hf', hk', hn, hq⟩ := hl
          obtain ⟨l, rfl, hl'⟩ := hn trivial
          have h2 := ihy _ _ _ _ hb Q e' a' w' hl' hf' hq
          cases kb with
          | none => exact wp_mono h2 fun ex a w h => lift_sub (ccode_sub _ _ _ _ _ ha l rfl) h
          | some m => exact wp_mono h2 fun ex a w h => lift_filter (k' := some m) (lift_sub (ccode_sub _ _ _ _ _ ha l rfl) h)
        · obtain ⟨e', hf', hk', hn, hq⟩ := hl
          exact ⟨e', hf', hk', (fun h => by cases h), hq⟩
        · obtain ⟨e', hf', hk', hn, hq⟩ := hl
          exact ⟨e', hf', hk', (fun h => by cases h), hq⟩
  | cond x p q ihp ihq =>
    intro shared k c' k' h Q e a w hk hf hv
    simp only [ccode] at h
    cases hx : condE k x with
    | none => simp [hx] at h
    | some x' =>
      cases ha : ccode P n shared p k with
      | none => simp [hx, ha] at h
      | some y =>
        obtain ⟨ca, ka⟩ := y
        cases hb : ccode P n shared q k with
        | none => simp [hx, ha, hb] at h
        | some z =>
          obtain ⟨cb, kb⟩ := z
          simp [hx, ha, hb] at h; obtain ⟨rfl, rfl⟩ := h
          obtain ⟨t, hval, ht, hfa⟩ := hv
          have heval : a.eval x = .bool t := by
            cases x with
            | tmp s =>
              simp only [condE] at hx
              split at hx
              · rename_i hks
                cases hx
                obtain ⟨v, hv⟩ := Option.isSome_iff_exists.1 (hk s hks)
                simp only [E.val, hv, Option.getD_some] at hval
                simp [Act.eval, hf.at_ s v hv, hval]
              · cases hx
            | const v => simp only [condE, Option.some.injEq] at hx; subst hx; exact hval
            | _ => simp [condE] at hx
          have up1 : ∀ ex a w, lift n k ka Q ex a w → lift n k (meet ka kb) Q ex a w := by
            intro ex a w hl
            cases ex <;> simp only [lift] at hl ⊢ <;> try (exact hl)
            · obtain ⟨e', hf', hk', hn, hq⟩ := hl
              obtain ⟨l, rfl, hl'⟩ := hn trivial
              refine ⟨e', hf', hk', fun _ => ?_, hq⟩
              cases kb with
              | none => exact ⟨l, rfl, hl'⟩
              | some m => exact ⟨_, rfl, fun t ht => hl' t (by simp at ht ⊢; exact ht.1)⟩
            all_goals
              obtain ⟨e', hf', hk', hn, hq⟩ := hl
              exact ⟨e', hf', hk', fun h => (by cases h), hq⟩
          have up2 : ∀ ex a w, lift n k kb Q ex a w → lift n k (meet ka kb) Q ex a w := by
            intro ex a w hl
            cases ex <;> simp only [lift] at hl ⊢ <;> try (exact hl)
            · obtain ⟨e', hf', hk', hn, hq⟩ := hl
              obtain ⟨l, rfl, hl'⟩ := hn trivial
              refine ⟨e', hf', hk', fun _ => ?_, hq⟩
              cases ka with
              | none => exact ⟨l, rfl, hl'⟩
              | some m => exact ⟨_, rfl, fun t ht => hl' t (by simp at ht ⊢; exact ht.2)⟩
            all_goals
              obtain ⟨e', hf', hk', hn, hq⟩ := hl
              exact ⟨e', hf', hk', fun h => (by cases h), hq⟩
          refine wp_cond_split heval ?_ ?_
          · intro h; exact wp_mono (ihp _ _ _ _ ha Q e a w hk hf (ht h)) up1
          · intro h; exact wp_mono (ihq _ _ _ _ hb Q e a w hk hf (hfa h)) up2
  | block id c ih =>
    intro shared k c' k' h Q e a w hk hf hv
    simp only [ccode] at h
    cases hr : ccode P n shared c k with
    | none => simp [hr] at h
    | some x =>
      obtain ⟨c1, k1⟩ := x
      simp [hr] at h; obtain ⟨rfl, rfl⟩ := h
      refine wp_block (wp_mono (ih _ _ _ _ hr (blockP id Q) e a w hk hf hv) ?_)
      intro ex a' w' hl
      cases ex <;> simp only [lift, Exit.inBlock] at hl ⊢ <;> try (exact hl.elim)
      · obtain ⟨e', hf', hk', hn, hq⟩ := hl
        exact ⟨e', hf', hk', fun _ => ⟨k, rfl, hk'⟩, hq⟩
      · obtain ⟨e', hf', hk', hn, hq⟩ := hl
        simp only [blockP] at hq
        split
        · rename_i hid
          rw [if_pos hid] at hq
          exact ⟨e', hf', hk', fun _ => ⟨k, rfl, hk'⟩, hq⟩
        · rename_i hid
          rw [if_neg hid] at hq
          exact ⟨e', hf', hk', (fun h => by cases h), hq⟩
      · obtain ⟨e', hf', hk', hn, hq⟩ := hl
        exact ⟨e', hf', hk', (fun h => by cases h), hq⟩
  | loop c ih =>
    intro shared k c' k' h Q e a w hk hf hv
    simp only [ccode, forceL_eq] at h
    cases hr : ccode P n (cross c ++ shared) c k with
    | none => simp [hr] at h
    | some x =>
      obtain ⟨c1, k1⟩ := x
      simp [hr] at h; obtain ⟨rfl, rfl⟩ := h
      obtain ⟨I, μ, h0, hround⟩ := hv
      refine wp_loop (fun a w => ∃ e, Fits n e a ∧ Has k e ∧ I (prune k e) w) (fun a w => μ (envOf k a) w) ⟨e, hf, hk, h0⟩ ?_
      rintro a1 w1 ⟨e1, hf1, hk1, hI1⟩
      have h1 := hround (prune k e1) w1 hI1
      refine wp_mono (ih _ _ _ _ hr _ (prune k e1) a1 w1 hk1.prune hf1.prune h1) ?_
      intro ex a' w' hl
      cases ex <;> simp only [lift, Exit.then] at hl ⊢ <;> try (exact hl.elim)
      · obtain ⟨e', hf', hk', hn, hq⟩ := hl
        refine ⟨⟨e', hf', hk', hq.1⟩, ?_⟩
        rw [envOf_eq hf' hk', envOf_eq hf1 hk1]
        exact hq.2
      · obtain ⟨e', hf', hk', hn, hq⟩ := hl
        exact ⟨e', hf', hk', (fun h => by cases h), hq⟩
      · obtain ⟨e', hf', hk', hn, hq⟩ := hl
        exact ⟨e', hf', hk', (fun h => by cases h), hq⟩
  | scope c ih =>
    intro shared k c' k' h Q e a w hk hf hv
    refine wp_scope_straight (wp_mono (ih shared k c' k' h Q e a w hk hf hv) ?_)
    intro ex a' w' hl
    cases ex <;> simp only [lift, Exit.noGoto] at hl ⊢ <;> exact hl
  | exit id =>
    intro shared k c' k' h Q e a w hk hf hv
    simp [ccode] at h; obtain ⟨rfl, rfl⟩ := h
    exact wp_exit ⟨e, hf, hk, (fun h => by cases h), hv⟩
  | ret =>
    intro shared k c' k' h Q e a w hk hf hv
    simp [ccode] at h; obtain ⟨rfl, rfl⟩ := h
    exact wp_ret ⟨e, hf, hk, (fun h => by cases h), hv⟩
  | goto _ => intro shared k c' k' h; simp [ccode] at h
  | rangeFunc _ _ _ _ _ _ => intro shared k c' k' h; simp [ccode] at h
  | refuse _ => intro shared k c' k' h; simp [ccode] at h

/-! ### Functions -/
def cfun (P : Program) (fn : Func) : Option C := match fn.body with
  | some c => (ccode P fn.ntmps (resTmps fn) c (List.range fn.params.size)).map (·.1)
  | none => none

def resL (e : Env) : List ResultVar → Option (List Value)
  | [] => some []
  | .tmp t :: r => match e.lookup t, resL e r with
    | some v, some l => some (v :: l)
    | _, _ => none
  | .cell _ _ :: _ => none
def tup : List Value → Value
  | [v] => v
  | l => .tuple l.toArray

def retP (rs : List ResultVar) (R : Ending → World → Prop) : Post := fun x e w => match x with
  | .normal => ∃ l, resL e rs = some l ∧ R (.returned (tup l)) w
  | .ret => ∃ l, resL e rs = some l ∧ R (.returned (tup l)) w
  | _ => False

def env0 : Nat → List Value → Env
  | _, [] => []
  | i, v :: r => (i, v) :: env0 (i + 1) r

theorem env0_lookup : ∀ (l : List Value) (i t : Nat), (env0 i l).lookup t = if i ≤ t then l[t - i]? else none
  | [], i, t => by simp [env0]
  | v :: r, i, t => by
    simp only [env0]
    by_cases h : t = i
    · subst h; rw [lookup_cons_same]; simp
    · rw [lookup_cons_ne h, env0_lookup r (i + 1) t]
      by_cases h2 : i ≤ t
      · rw [if_pos (by omega), if_pos h2]
        obtain ⟨m, rfl⟩ : ∃ m, t = i + 1 + m := ⟨t - i - 1, by omega⟩
        simp [show i + 1 + m - i = m + 1 from by omega]
      · rw [if_neg (by omega), if_neg h2]

theorem run_resL {P : Program} {w : World} {n : Nat} {e : Env} {a : Act} (hf : Fits n e a) {g : ResultVar → Sem Value} (hg : ∀ t, g (.tmp t) = pure (a.tmps.getD t undef)) : ∀ (rs : List ResultVar) (l : List Value), resL e rs = some l →
    (rs.mapM g).run P w = .ok l w
  | [], l, h => by simp [resL] at h; subst h; simp
  | .tmp t :: r, l, h => by
    simp only [resL] at h
    cases ht : e.lookup t with
    | none => simp [ht] at h
    | some v =>
      cases hr : resL e r with
      | none => simp [ht, hr] at h
      | some l' =>
        simp [ht, hr] at h; subst h
        have := run_resL (P := P) (w := w) hf hg r l' hr
        have h2 : a.tmps[t]? = some v := hf.at_ t v ht
        simp only [List.mapM_cons, Sem.run_bind, hg, Sem.run_pure, Result.andThen_ok, this]
        simp [h2]
  | .cell _ _ :: r, l, h => by simp [resL] at h

theorem run_results {P : Program} {w : World} {n : Nat} {e : Env} {a : Act} (hf : Fits n e a) {fn : Func} {l : List Value} (h : resL e fn.results.toList = some l) : (results fn a.tmps).run P w = .ok (tup l) w := by
  unfold results
  rw [Sem.run_bind, Array.mapM_eq_mapM_toList, Sem.run_map]
  rw [run_resL hf (fun _ => rfl) fn.results.toList l h]
  simp only [Result.andThen_ok, Sem.run_pure]
  match l with
  | [] => rfl
  | [v] => rfl
  | _ :: _ :: _ => simp [tup]

theorem calls_of {P : Program} {f : FuncId} {fn : Func} {c : C} {args : List Value} {rs : List ResultVar} {w : World} {R : Ending → World → Prop}
    (hm : P.follows .mixedOrders = true) (hf : P.funcs[f]? = some fn) (hc : cfun P fn = some c) (hn : (fn.params.size, decide (args.length ≤ fn.ntmps), fn.results.toList) = (args.length, true, rs))
    (h : c.vc P (retP rs R) (env0 0 args) w) : Calls P f args.toArray w R := by
  simp only [Prod.mk.injEq] at hn
  obtain ⟨hn1, hn2, rfl⟩ := hn
  have hn1 := hn1.symm
  have hn2 := of_decide_eq_true hn2
  unfold cfun at hc
  cases hb : fn.body with
  | none => simp [hb] at hc
  | some code =>
    simp only [hb] at hc
    cases hcc : ccode P fn.ntmps (resTmps fn) code (List.range fn.params.size) with
    | none => simp [hcc] at hc
    | some x =>
      obtain ⟨c', k'⟩ := x
      simp [hcc] at hc; subst hc
      refine calls_of_wp hf hb ?_
      have hfits : Fits fn.ntmps (env0 0 args) { tmps := args.toArray ++ Array.replicate (fn.ntmps - args.toArray.size) undef, defers := [] } := by
        refine ⟨rfl, by simp; omega, fun t v hv => ?_⟩
        rw [env0_lookup] at hv
        simp at hv
        have hlt : t < args.length := (List.getElem?_eq_some_iff.1 hv).1
        simp [Array.getElem?_append, hlt]
        exact (List.getElem?_eq_some_iff.1 hv).2
      have hhas : Has (List.range fn.params.size) (env0 0 args) := by
        intro t ht
        rw [env0_lookup]
        simp at ht ⊢
        omega
      refine wp_mono (ccode_sound hm code _ _ _ _ hcc _ _ _ w hhas hfits h) ?_
      intro ex a w' hl
      cases ex <;> simp only [lift, retP, bodyPost] at hl ⊢ <;> try (exact hl.elim)
      · obtain ⟨e, hf', _, _, l, hl, hR⟩ := hl
        exact ⟨hf'.defers, _, run_results hf' hl, hR⟩
      · obtain ⟨e, hf', _, _, hl⟩ := hl
        exact hl.elim
      · obtain ⟨e, hf', _, _, l, hl, hR⟩ := hl
        exact ⟨hf'.defers, _, run_results hf' hl, hR⟩
end Go.Sx
