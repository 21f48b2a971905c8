/-
  SxT: structs and arrays of plain cells compared.
-/
import Derived.Test.YtpocidlfjakmlaaSxS
import Derived.Laws.StructEq
import Derived.ChangeKeysEq
set_option linter.unusedSimpArgs false
set_option linter.unusedVariables false
namespace Go.Sx
open Go

inductive FK where
  | int (k : IntKind) | bool | str
  deriving DecidableEq

def vEq : Value → Value → Bool
  | .int _ a, .int _ b => a == b
  | .bool a, .bool b => a == b
  | .string a, .string b => decide (a.data.toList = b.data.toList)
  | _, _ => false
def lEq : List Value → List Value → Bool
  | [], [] => true
  | x :: xs, y :: ys => vEq x y && lEq xs ys
  | _, _ => false
def kFit : FK → Value → Bool
  | .int q, .int q' _ => decide (q' = q)
  | .bool, .bool _ => true
  | .str, .string _ => true
  | _, _ => false
def fitL : List FK → List Value → Bool
  | [], [] => true
  | k :: ks, x :: xs => kFit k x && fitL ks xs
  | _, _ => false

theorem fitL_len : ∀ (ks : List FK) (xs : List Value), fitL ks xs = true → xs.length = ks.length
  | [], [], _ => rfl
  | k :: ks, x :: xs, h => by simp [fitL] at h; simp [fitL_len ks xs h.2]
  | [], _ :: _, h => by simp [fitL] at h
  | _ :: _, [], h => by simp [fitL] at h
theorem fitL_app : ∀ (ks ls : List FK) (xs : List Value), fitL (ks ++ ls) xs = true → ∃ as bs, xs = as ++ bs ∧ fitL ks as = true ∧ fitL ls bs = true
  | [], ls, xs, h => ⟨[], xs, rfl, rfl, h⟩
  | k :: ks, ls, [], h => by simp [fitL] at h
  | k :: ks, ls, x :: xs, h => by
    simp only [List.cons_append, fitL, Bool.and_eq_true] at h
    obtain ⟨as, bs, rfl, h1, h2⟩ := fitL_app ks ls xs h.2
    exact ⟨x :: as, bs, rfl, by simp [fitL, h.1, h1], h2⟩
theorem lEq_app : ∀ (as bs cs ds : List Value), as.length = cs.length → lEq (as ++ bs) (cs ++ ds) = (lEq as cs && lEq bs ds)
  | [], bs, [], ds, _ => by simp [lEq]
  | a :: as, bs, c :: cs, ds, h => by simp [lEq, lEq_app as bs cs ds (by simpa using h), Bool.and_assoc]
  | [], _, _ :: _, _, h => by simp at h
  | _ :: _, _, [], _, h => by simp at h

def flatFs (P : Program) (g : TypeId → Option (List FK)) : List Field → Nat → Option (List FK)
  | [], _ => some []
  | f :: r, off => if f.name ≠ "_" ∧ f.offset = off then
      match g f.type with
      | some ks => if sizeB P f.type = some ks.length then (flatFs P g r (off + ks.length)).map (ks ++ ·) else none
      | none => none
    else none
def flatK (P : Program) : Nat → TypeId → Option (List FK)
  | 0, _ => none
  | d + 1, t => match P.underlying t with
    | some (.int k) => some [.int k]
    | some .bool => some [.bool]
    | some .string => some [.str]
    | some (.struct fs) => if P.stoodInHeld t then none else flatFs P (flatK P d) fs.toList 0
    | some (.array len e) => match flatK P d e with
      | some ks => if sizeB P e = some ks.length then some (List.replicate len ks).flatten else none
      | none => none
    | _ => none

def mkV (P : Program) (t : TypeId) (cs : List Value) : Value := if aggB P t = some true then .agg cs.toArray else cs.headD undef

theorem kFit_cell {k : FK} {v : Value} (h : kFit k v = true) : (∃ q n, v = .int q n) ∨ (∃ b, v = .bool b) ∨ ∃ s, v = .string s := by
  cases k <;> cases v <;> simp [kFit] at h <;> simp

section
variable {P : Program} (w : World)

theorem run_partV {t : TypeId} {g : Bool} {n : Nat} (hg : aggB P t = some g) (hn : sizeB P t = some n) (h1 : g = false → n = 1) (pre cs post : List Value) (hc : cs.length = n) :
    (part t (pre ++ cs ++ post).toArray pre.length).run P w = .ok (mkV P t cs) w := by
  unfold part mkV
  cases g
  · have := h1 rfl
    subst this
    obtain ⟨c, rfl⟩ := List.length_eq_one_iff.1 hc
    simp [run_aggB hg, hg]
  · simp only [Sem.run_bind, run_aggB hg, Result.andThen_ok, run_sizeB hn, Sem.run_pure, hg, if_true]
    congr 2
    have : (pre ++ cs ++ post).toArray.extract pre.length (pre.length + n) = cs.toArray := by
      apply Array.ext'
      simp [List.extract_eq_take_drop, ← hc]
    rw [this]

theorem flat_agg {d : Nat} {t : TypeId} {ks : List FK} (h : flatK P d t = some ks) : ∃ g, aggB P t = some g ∧ (g = false → ks.length = 1) := by
  cases d with
  | zero => simp [flatK] at h
  | succ d =>
    unfold flatK at h
    unfold aggB
    cases hu : P.underlying t with
    | none => simp [hu] at h
    | some k => cases k <;> simp [hu] at h ⊢ <;> subst h <;> rfl

theorem eqIn_flat : ∀ (d : Nat) (t : TypeId) (ks : List FK), flatK P d t = some ks → ∀ (e : Nat) (cs ds : List Value), fitL ks cs = true → fitL ks ds = true → (Op.equalIn (d + e) t (mkV P t cs) (mkV P t ds)).run P w = .ok (lEq cs ds) w := by
  intro d
  induction d with
  | zero => intro t ks h; simp [flatK] at h
  | succ d ih =>
    intro t ks h e cs ds hc hd
    rw [show d + 1 + e = (d + e) + 1 from by omega]
    unfold flatK at h
    cases hu : P.underlying t with
    | none => simp [hu] at h
    | some kd =>
      cases kd <;> simp only [hu] at h <;> try (cases h; done)
      case bool =>
        cases h
        have ha : aggB P t = some false := by simp [aggB, hu]
        match cs, ds, hc, hd with
        | [.bool a], [.bool b], _, _ => simp [mkV, ha, run_equalIn_bool' w _ _ _ _ hu, lEq, vEq]
        | [], _, hc, _ => simp [fitL] at hc
        | _ :: _ :: _, _, hc, _ => simp [fitL] at hc
        | [x], [], _, hd => simp [fitL] at hd
        | [x], _ :: _ :: _, _, hd => simp [fitL] at hd
        | [x], [y], hc, hd => cases x <;> simp [fitL, kFit] at hc; cases y <;> simp [fitL, kFit] at hd; simp [mkV, ha, run_equalIn_bool' w _ _ _ _ hu, lEq, vEq]
      case int k =>
        cases h
        have ha : aggB P t = some false := by simp [aggB, hu]
        match cs, ds, hc, hd with
        | [], _, hc, _ => simp [fitL] at hc
        | _ :: _ :: _, _, hc, _ => simp [fitL] at hc
        | [x], [], _, hd => simp [fitL] at hd
        | [x], _ :: _ :: _, _, hd => simp [fitL] at hd
        | [x], [y], hc, hd =>
          cases x <;> simp [fitL, kFit] at hc
          cases y <;> simp [fitL, kFit] at hd
          subst hc; subst hd
          simp [mkV, ha, run_equalIn_int w _ _ _ _ _ _ hu, lEq, vEq]
      case string =>
        cases h
        have ha : aggB P t = some false := by simp [aggB, hu]
        match cs, ds, hc, hd with
        | [], _, hc, _ => simp [fitL] at hc
        | _ :: _ :: _, _, hc, _ => simp [fitL] at hc
        | [x], [], _, hd => simp [fitL] at hd
        | [x], _ :: _ :: _, _, hd => simp [fitL] at hd
        | [x], [y], hc, hd =>
          cases x <;> simp [fitL, kFit] at hc
          cases y <;> simp [fitL, kFit] at hd
          simp [mkV, ha, run_equalIn_string w _ _ _ _ hu, lEq, vEq, bytes_eq]
      case struct fs =>
        split at h <;> try (cases h; done)
        rename_i hst
        have ha : aggB P t = some true := by simp [aggB, hu]
        have hfs : P.fieldsOf t = fs := by simp [Program.fieldsOf, hu]
        simp only [mkV, ha, if_true]
        rw [run_equalIn_struct w (d + e) t _ _ (by rw [hfs, hu]) (by simpa using hst), hfs]
        have key : ∀ (fl : List Field) (off : Nat) (ks : List FK), flatFs P (flatK P d) fl off = some ks → ∀ (pre pre' cs ds : List Value), pre.length = off → pre'.length = off → fitL ks cs = true → fitL ks ds = true →
            (Op.eqFields (d + e) (pre ++ cs).toArray (pre' ++ ds).toArray fl).run P w = .ok (lEq cs ds) w := by
          intro fl
          induction fl with
          | nil =>
            intro off ks h pre pre' cs ds _ _ hc hd
            simp [flatFs] at h; subst h
            cases cs <;> simp [fitL] at hc
            cases ds <;> simp [fitL] at hd
            simp [Op.eqFields, lEq]
          | cons f fl ihf =>
            intro off ks h pre pre' cs ds hp hp' hc hd
            simp only [flatFs] at h
            split at h <;> try (cases h; done)
            rename_i hf
            cases hk : flatK P d f.type with
            | none => simp [hk] at h
            | some k1 =>
              simp only [hk] at h
              split at h <;> try (cases h; done)
              rename_i hsz
              cases hr : flatFs P (flatK P d) fl (off + k1.length) with
              | none => simp [hr] at h
              | some k2 =>
                simp [hr] at h; subst h
                obtain ⟨c1, c2, rfl, hc1, hc2⟩ := fitL_app _ _ _ hc
                obtain ⟨d1, d2, rfl, hd1, hd2⟩ := fitL_app _ _ _ hd
                have l1 := fitL_len _ _ hc1
                have l2 := fitL_len _ _ hd1
                obtain ⟨g, hg, hg1⟩ := flat_agg hk
                have p1 := run_partV (P := P) w hg hsz hg1 pre c1 c2 l1
                have p2 := run_partV (P := P) w hg hsz hg1 pre' d1 d2 l2
                rw [List.append_assoc, hp, ← hf.2] at p1
                rw [List.append_assoc, hp', ← hf.2] at p2
                have q := ih f.type k1 hk e c1 d1 hc1 hd1
                simp only [Op.eqFields, hf.1, ne_eq, not_false_eq_true, if_true, Sem.run_bind, p1, p2, Result.andThen_ok, q]
                rw [lEq_app c1 c2 d1 d2 (by rw [l1, l2])]
                have ih2 := ihf (off + k1.length) k2 hr (pre ++ c1) (pre' ++ d1) c2 d2 (by simp [hp, l1]) (by simp [hp', l2]) hc2 hd2
                simp only [List.append_assoc] at ih2
                cases hb : lEq c1 d1
                · simp
                · simpa using ih2
        exact key fs.toList 0 ks h [] [] cs ds rfl rfl hc hd
      case array len el =>
        cases hk : flatK P d el with
        | none => simp [hk] at h
        | some k1 =>
          simp only [hk] at h
          split at h <;> try (cases h; done)
          rename_i hsz
          cases h
          have ha : aggB P t = some true := by simp [aggB, hu]
          simp only [mkV, ha, if_true]
          obtain ⟨i, hi, hin⟩ : ∃ i, P.info? el = some i ∧ i.size = k1.length := by
            unfold sizeB at hsz
            cases hi : P.info? el with
            | none => simp [hi] at hsz
            | some i => exact ⟨i, rfl, by simpa [hi] using hsz⟩
          have hcell : P.cellsOf el = k1.length := by simp [Program.cellsOf, hi, hin]
          rw [run_equalIn_array w (d + e) _ _ hu hi, hcell]
          obtain ⟨g, hg, hg1⟩ := flat_agg hk
          have key : ∀ (m k : Nat) (pre pre' cs ds : List Value), pre.length = k * k1.length → pre'.length = k * k1.length → fitL (List.replicate m k1).flatten cs = true → fitL (List.replicate m k1).flatten ds = true →
              (Op.eqItems (d + e) el k1.length (pre ++ cs).toArray (pre' ++ ds).toArray (List.range' k m)).run P w = .ok (lEq cs ds) w := by
            intro m
            induction m with
            | zero =>
              intro k pre pre' cs ds _ _ hc hd
              cases cs <;> simp [fitL] at hc
              cases ds <;> simp [fitL] at hd
              simp [Op.eqItems, lEq]
            | succ m ihm =>
              intro k pre pre' cs ds hp hp' hc hd
              simp only [List.replicate_succ, List.flatten_cons] at hc hd
              obtain ⟨c1, c2, rfl, hc1, hc2⟩ := fitL_app _ _ _ hc
              obtain ⟨d1, d2, rfl, hd1, hd2⟩ := fitL_app _ _ _ hd
              have l1 := fitL_len _ _ hc1
              have l2 := fitL_len _ _ hd1
              have p1 := run_partV (P := P) w hg hsz hg1 pre c1 c2 l1
              have p2 := run_partV (P := P) w hg hsz hg1 pre' d1 d2 l2
              rw [List.append_assoc, hp] at p1
              rw [List.append_assoc, hp'] at p2
              have q := ih el k1 hk e c1 d1 hc1 hd1
              simp only [List.range'_succ, Op.eqItems, Sem.run_bind, p1, p2, Result.andThen_ok, q]
              rw [lEq_app c1 c2 d1 d2 (by rw [l1, l2])]
              have ih2 := ihm (k + 1) (pre ++ c1) (pre' ++ d1) c2 d2 (by simp [hp, l1, Nat.succ_mul]) (by simp [hp', l2, Nat.succ_mul]) hc2 hd2
              simp only [List.append_assoc] at ih2
              cases hb : lEq c1 d1
              · simp
              · simpa using ih2
          rw [List.range_eq_range']
          exact key len 0 [] [] cs ds (by simp) (by simp) hc hd
end

/-- A type of plain cells, and what its cells are. -/
structure Flat (P : Program) (t : TypeId) (ks : List FK) : Prop where
  flat : flatK P 8 t = some ks
  agg : aggB P t = some true
  guard : P.eqGuardType P.depth t = false
theorem Flat.of {P : Program} {t : TypeId} {ks : List FK} (h : (flatK P 8 t, aggB P t, P.eqGuardType P.depth t) = (some ks, some true, false)) : Flat P t ks := by
  simp only [Prod.mk.injEq] at h
  exact ⟨h.1, h.2.1, h.2.2⟩

theorem ran_eql {P : Program} {t t' ty : TypeId} {ks : List FK} (hf : Flat P t ks) {ρ : Operand → Value} {d : Option Nat} {x y : Operand} {xs ys : Array Value} {w : World} {K : Value → World → Prop} (hx : ρ x = .agg xs) (hy : ρ y = .agg ys)
    (fx : fitL ks xs.toList = true) (fy : fitL ks ys.toList = true) (hK : K (.bool (lEq xs.toList ys.toList)) w) :
    ranTo K ((execOp ρ { dst := d, op := .binOp .eql t x y t', type := ty, pos := "", after := #[], guard := none }).run P w) := by
  have h := eqIn_flat w 8 t ks hf.flat 9992 xs.toList ys.toList fx fy
  simp only [mkV, hf.agg, if_true] at h
  simp only [execOp, hx, hy, Sem.run_bind, run_eqGuard_agg w _ _ _ _ _ _ hf.guard, Result.andThen_ok, run_eql_struct w]
  rw [show (10000 : Nat) = 8 + 9992 from rfl]
  simp only [Array.toArray_toList] at h
  simp [h, ranTo, hK]
theorem ran_neq {P : Program} {t t' ty : TypeId} {ks : List FK} (hf : Flat P t ks) {ρ : Operand → Value} {d : Option Nat} {x y : Operand} {xs ys : Array Value} {w : World} {K : Value → World → Prop} (hx : ρ x = .agg xs) (hy : ρ y = .agg ys)
    (fx : fitL ks xs.toList = true) (fy : fitL ks ys.toList = true) (hK : K (.bool (!lEq xs.toList ys.toList)) w) :
    ranTo K ((execOp ρ { dst := d, op := .binOp .neq t x y t', type := ty, pos := "", after := #[], guard := none }).run P w) := by
  have h := eqIn_flat w 8 t ks hf.flat 9992 xs.toList ys.toList fx fy
  simp only [mkV, hf.agg, if_true] at h
  simp only [execOp, hx, hy, Sem.run_bind, run_eqGuard_agg w _ _ _ _ _ _ hf.guard, Result.andThen_ok, run_neq_struct w]
  rw [show (10000 : Nat) = 8 + 9992 from rfl]
  simp only [Array.toArray_toList] at h
  simp [h, ranTo, hK]
end Go.Sx
