/-
  SxD: cq is sound.
-/
import Derived.Test.YtpocidlfjakmlaaSxC
set_option linter.unusedSimpArgs false
namespace Go.Sx
open Go

section
variable {P : Program} {ρ : Operand → Value} {w w0 : World}

theorem run_info {t : TypeId} {i : TypeInfo} (h : P.info? t = some i) : (typeInfo t).run P w = .ok i w := by simp [typeInfo, h]
theorem run_sizeB {t : TypeId} {n : Nat} (h : sizeB P t = some n) : (sizeOf t).run P w = .ok n w := by
  unfold sizeB at h
  cases hi : P.info? t with
  | none => simp [hi] at h
  | some i => simp [hi] at h; simp [sizeOf, run_info hi, h]
theorem run_aggB {t : TypeId} {g : Bool} (h : aggB P t = some g) : (isAgg t).run P w = .ok g w := by
  unfold aggB at h
  cases hu : P.underlying t with
  | none => simp [hu] at h
  | some d =>
    simp only [hu] at h
    cases d <;> (simp at h; subst h; simp [isAgg, run_underlying hu])
theorem run_zeroB {t : TypeId} {z : List Value} (h : zeroB P t = some z) : ∃ v, (zeroValue t).run P w = .ok v w ∧ v.cells.toList = z := by
  unfold zeroB at h
  cases hi : P.info? t with
  | none => simp [hi] at h
  | some i =>
    cases hz : i.zero with
    | none => simp [hi, hz] at h
    | some v => simp [hi, hz] at h; exact ⟨v, by simp [zeroValue, run_info hi, hz], h⟩
theorem intB_spec {t : TypeId} {k : IntKind} (h : intB P t = some k) : P.underlying t = some (.int k) := by
  unfold intB at h
  split at h
  · rename_i k' hk; cases h; exact hk
  · cases h

theorem run_asInt {k : IntKind} {n : Int} : (asIntOf (.int k n)).run P w = .ok (k, n) w := rfl

theorem run_eqGuard_int {op : BinOp} {t : TypeId} {x y : Operand} {k k' : IntKind} {a b : Int} : (eqGuard op t x y (.int k a) (.int k' b)).run P w = .ok () w := by
  cases op <;> simp [eqGuard]
theorem run_eqGuard_bool {op : BinOp} {t : TypeId} {x y : Operand} {a b : Bool} : (eqGuard op t x y (.bool a) (.bool b)).run P w = .ok () w := by
  cases op <;> simp [eqGuard]
theorem run_eqGuard_str {op : BinOp} {t : TypeId} {x y : Operand} {a b : ByteArray} : (eqGuard op t x y (.string a) (.string b)).run P w = .ok () w := by
  cases op <;> simp [eqGuard]
theorem run_eqGuard_ptr {op : BinOp} {t : TypeId} {x y : Operand} {a b : Option Addr} : (eqGuard op t x y (.pointer a) (.pointer b)).run P w = .ok () w := by
  cases op <;> simp [eqGuard]
theorem run_eqGuard_sl {op : BinOp} {t : TypeId} {x y : Operand} {a b : Option Addr} {n c n' c' : Nat} : (eqGuard op t x y (.slice a n c) (.slice b n' c')).run P w = .ok () w := by
  cases op <;> simp [eqGuard]

theorem run_ib {op : BinOp} {t : TypeId} {k : IntKind} {a b : Int} (h : ibOk op b) : (binOp op t (.int k a) (.int k b)).run P w = .ok (ibVal op k a b) w := by
  cases op <;> simp [ibOk] at h <;> simp [binOp, ibVal, Op.intArith, Op.intDiv, Op.intBits, Op.intCmp, h] <;> first | rfl | (rw [Bool.beq_eq_decide_eq]) | (simp [bne, Bool.beq_eq_decide_eq])

theorem run_sh {l : Bool} {t : TypeId} {k k' : IntKind} {a b : Int} (h : 0 ≤ b) : (binOp (if l then .shl else .shr) t (.int k a) (.int k' b)).run P w = .ok ((U2.sh l k k').val (.int k a) (.int k' b)) w := by
  cases l <;> simp [binOp, U2.val, Op.shift, Int.not_lt.2 h]

theorem bytes_eq (a b : ByteArray) : (a.toList == b.toList) = decide (a.data.toList = b.data.toList) := by
  rw [ByteArray.toList_eq, ByteArray.toList_eq, Bool.beq_eq_decide_eq]

theorem run_sb {op : BinOp} {t : TypeId} {a b : ByteArray} (h : sbOk op a b) : (binOp op t (.string a) (.string b)).run P w = .ok (sbVal op a b) w := by
  cases op <;> simp [sbOk] at h
  case add => simp [binOp, Op.stringOp, sbVal, IntKind.max, IntKind.signed, IntKind.bits]; omega
  case eql => simp only [binOp, Op.stringOp, sbVal, bytes_eq, Sem.run_pure]
  case neq => simp only [binOp, Op.stringOp, sbVal, bytes_eq, Sem.run_pure]
  case lss => simp only [binOp, Op.stringOp, sbVal, Sem.run_pure]

theorem run_bb {t : TypeId} {n : Bool} {a b : Bool} (h : P.underlying t = some .bool) : (binOp (if n then .neq else .eql) t (.bool a) (.bool b)).run P w = .ok ((U2.bb n).val (.bool a) (.bool b)) w := by
  cases n <;> simp [binOp, U2.val, Op.equal, Op.maxDepth, run_equalIn_bool' w 9999 t a b h, bne]

theorem run_nilq {t e : TypeId} {n : Bool} {p : Option Addr} (h : P.underlying t = some (.pointer e)) : (binOp (if n then .neq else .eql) t (.pointer p) (.pointer none)).run P w = .ok ((U1.nilq n).val w (.pointer p)) w := by
  have hp : P.pointee t = e := by unfold Program.pointee; rw [h]
  have h' : P.underlying t = some (.pointer (P.pointee t)) := by rw [hp]; exact h
  cases n
  · exact run_eql_pointer_nil w t p h'
  · exact run_neq_pointer_nil w t p h'

theorem run_nils {t e : TypeId} {n : Bool} {p : Option Addr} {l c : Nat} (h : P.underlying t = some (.slice e)) : (binOp (if n then .neq else .eql) t (.slice p l c) (.slice none 0 0)).run P w = .ok ((U1.nils n).val w (.slice p l c)) w := by
  cases n
  · exact Lib.run_eql_slice_nil w t e p l c 0 0 h
  · exact run_neq_slice_nil_any w t e p l c 0 0 h

theorem run_mm {m : Bool} {t t' ty : TypeId} {k : IntKind} {a b : Int} : (if m then Builtin.max_ #[t, t'] ty #[.int k a, .int k b] else Builtin.min_ #[t, t'] ty #[.int k a, .int k b]).run P w = .ok ((U2.mm m k).val (.int k a) (.int k b)) w := by
  cases m
  · simp [Builtin.min_, Builtin.min2, U2.val, Int.min_def]; split <;> split <;> omega
  · simp [Builtin.max_, Builtin.max2, U2.val, Int.max_def]; split <;> split <;> omega

theorem run_places (fl : List Field) : ∀ (places : List (Nat × Nat)), (fl.mapM fun f => (sizeB P f.type).map fun n => (f.offset, n)) = some places →
    (fl.mapM fun f => Prod.mk f.offset <$> sizeOf f.type : Sem (List (Nat × Nat))).run P w = .ok places w := by
  induction fl with
  | nil => intro places h; simp at h; subst h; simp
  | cons f fl ih =>
    intro places h
    simp only [List.mapM_cons] at h ⊢
    cases hs : sizeB P f.type with
    | none => simp [hs] at h
    | some n =>
      cases hr : (fl.mapM fun f => (sizeB P f.type).map fun n => (f.offset, n)) with
      | none => simp [hs, hr] at h
      | some l =>
        simp [hs, hr] at h; subst h
        have := ih l hr
        simp only [Sem.run_bind, Sem.run_map, run_sizeB hs, Result.andThen_ok, Sem.run_pure, this]

theorem mapM_more (places : List (Nat × Nat)) (place : Nat → Option (Nat × Nat)) (hp : ∀ i v, places[i]? = some v → place i = some v) : ∀ (pl : List (Nat × Operand)) (ps : List (Nat × Nat × Operand)),
    partsAt places pl = some ps → pl.mapM (fun (p : Nat × Operand) => (place p.1).map fun (on : Nat × Nat) => (on.1, on.2, p.2)) = some ps
  | [], ps, h => by simpa [partsAt] using h
  | (i, x) :: r, ps, h => by
    simp only [partsAt, List.mapM_cons] at h ⊢
    cases hi : places[i]? with
    | none => simp [hi] at h
    | some v =>
      cases hr : partsAt places r with
      | none => simp [hi, partsAt] at h hr; simp [hr] at h
      | some l =>
        have := mapM_more places place hp r l hr
        simp [hi, partsAt] at h hr
        simp [hr] at h; subst h
        simp [hp i v hi, this]

set_option maxHeartbeats 1000000 in
theorem q_run {o : Oper} {q : Q Operand} (h : cq P o = some q) (hok : q.ok w0 ρ) (hl : q.isLoad = true → Keep w0 w) (hc : ∀ v, ρ (.const v) = v) : (execOp ρ o).run P w = .ok (.value (q.val w0 ρ)) w := by
  obtain ⟨dst, op, type, pos, after, guard⟩ := o
  cases op with
  | move x => simp only [cq, Option.some.injEq] at h; subst h; simp [execOp, Q.val]
  | assign x => simp only [cq, Option.some.injEq] at h; subst h; simp [execOp, Q.val]
  | pick c a b =>
    simp only [cq, Option.some.injEq] at h; subst h
    obtain ⟨v, hv⟩ := isBool_elim hok
    cases v <;> simp [execOp, Q.val, hv, asBool, vBool]
  | nilCheck x =>
    simp only [cq, Option.some.injEq] at h; subst h
    obtain ⟨v, hv⟩ := isPtr_elim hok
    simp [execOp, Q.val, hv, U1.val]
  | fieldAddr s x f =>
    simp only [cq] at h
    split at h <;> try (cases h; done)
    rename_i fs hs
    split at h <;> try (cases h; done)
    rename_i fd hf
    split at h <;> try (cases h; done)
    rename_i n hne hn
    cases h
    obtain ⟨v, hv⟩ := isPtr_elim hok
    have hn0 : n ≠ 0 := by intro e; subst e; exact hne rfl
    simp [execOp, Q.val, hv, U1.val, Instr.fieldAt, run_underlying hs, hf, Instr.sureAddr, fieldPlace, run_sizeB hn, hn0]
  | field s x f =>
    simp only [cq] at h
    split at h <;> try (cases h; done)
    rename_i fs hs
    split at h <;> try (cases h; done)
    rename_i fd hf
    split at h <;> try (cases h; done)
    all_goals
      rename_i n hn hg
      cases h
      simp only [Q.ok] at hok
      cases hv : ρ x <;> simp only [hv, U1.ok] at hok <;> try (exact hok.elim)
      simp [execOp, Q.val, hv, U1.val, Instr.field, run_underlying hs, hf, asAgg, part, run_sizeB hn, run_aggB hg]
    rw [Array.getElem?_eq_getElem hok]; simp
  | load t x =>
    simp only [cq] at h
    split at h <;> try (cases h; done)
    · rename_i n hn hg
      cases h
      have hk := hl rfl
      simp only [Q.ok] at hok
      cases hv : ρ x with
      | pointer a =>
        cases a with
        | none => simp only [hv, U1.ok] at hok
        | some a =>
          simp only [hv, U1.ok] at hok
          obtain ⟨l, hr⟩ := Option.isSome_iff_exists.1 hok.2
          have := run_loadCells_rd (P := P) (w := w) a n 0 #[] l (by rw [Addr.add_zero']; exact hk.rd _ _ _ hr)
          simp [execOp, Q.val, hv, U1.val, Instr.loadAt, Instr.sureAddr, loadVar, run_aggB hg, run_sizeB hn, loadCells, this, hr]
      | _ => simp only [hv, U1.ok] at hok
    · rename_i n hn hg
      cases h
      have hk := hl rfl
      simp only [Q.ok] at hok
      cases hv : ρ x with
      | pointer a =>
        cases a with
        | none => simp only [hv, U1.ok] at hok
        | some a =>
          simp only [hv, U1.ok] at hok
          obtain ⟨l, hr⟩ := Option.isSome_iff_exists.1 hok
          simp [execOp, Q.val, hv, U1.val, Instr.loadAt, Instr.sureAddr, loadVar, run_aggB hg, hk.cell hr, hr]
      | _ => simp only [hv, U1.ok] at hok
  | extract x i =>
    simp only [cq, Option.some.injEq] at h; subst h
    simp only [Q.ok] at hok
    cases hv : ρ x <;> simp only [hv, U1.ok] at hok <;> try (exact hok.elim)
    simp [execOp, Q.val, hv, U1.val, Instr.extract]
    rw [Array.getElem?_eq_getElem hok]; simp
  | unOp u t x =>
    cases u <;> simp only [cq] at h <;> try (cases h; done)
    · cases hk : intB P t with
      | none => simp [hk] at h
      | some k =>
        simp [hk] at h; subst h
        obtain ⟨n, hv⟩ := isInt_elim hok
        simp [execOp, Q.val, hv, U1.val, Op.unary, Op.intArith]
    · cases h
      obtain ⟨n, hv⟩ := isBool_elim hok
      simp [execOp, Q.val, hv, U1.val, Op.unary]
  | convert s d x =>
    simp only [cq] at h
    split at h <;> try (cases h; done)
    rename_i k' k hs hd
    cases h
    obtain ⟨k2, n, hv⟩ := isAnyInt_elim hok
    simp [execOp, Q.val, hv, U1.val, convert, run_underlying hs, run_underlying hd, Conv.intToInt]
  | binOp op t x y t' =>
    simp only [cq] at h
    split at h <;> try (cases h; done)
    · rename_i k hk
      split at h
      · cases hk' : intB P t' with
        | none => simp [hk'] at h
        | some k' =>
          simp [hk'] at h; subst h
          obtain ⟨hx, hy, hb⟩ := hok
          obtain ⟨a, hx⟩ := isInt_elim hx
          obtain ⟨b, hy⟩ := isInt_elim hy
          rw [hy] at hb
          have := run_sh (P := P) (w := w) (l := true) (t := t) (k := k) (k' := k') (a := a) (b := b) hb
          simp only [if_true] at this
          simp [execOp, Q.val, hx, hy, run_eqGuard_int, this]
      · cases hk' : intB P t' with
        | none => simp [hk'] at h
        | some k' =>
          simp [hk'] at h; subst h
          obtain ⟨hx, hy, hb⟩ := hok
          obtain ⟨a, hx⟩ := isInt_elim hx
          obtain ⟨b, hy⟩ := isInt_elim hy
          rw [hy] at hb
          have := run_sh (P := P) (w := w) (l := false) (t := t) (k := k) (k' := k') (a := a) (b := b) hb
          simp only [Bool.false_eq_true, if_false] at this
          simp [execOp, Q.val, hx, hy, run_eqGuard_int, this]
      · cases h
        obtain ⟨hx, hy, hb⟩ := hok
        obtain ⟨a, hx⟩ := isInt_elim hx
        obtain ⟨b, hy⟩ := isInt_elim hy
        rw [hy] at hb
        have hb' : ibOk op b := hb
        have hr := run_ib (P := P) (w := w) (t := t) (k := k) (a := a) hb'
        simp [execOp, Q.val, hx, hy, run_eqGuard_int, hr, U2.val]
    · rename_i hk
      split at h <;> try (cases h; done)
      · cases h
        obtain ⟨hx, hy⟩ := hok
        obtain ⟨a, hx⟩ := isBool_elim hx
        obtain ⟨b, hy⟩ := isBool_elim hy
        have := run_bb (w := w) (n := false) (a := a) (b := b) hk
        simp only [Bool.false_eq_true, if_false] at this
        simp [execOp, Q.val, hx, hy, run_eqGuard_bool, this]
      · cases h
        obtain ⟨hx, hy⟩ := hok
        obtain ⟨a, hx⟩ := isBool_elim hx
        obtain ⟨b, hy⟩ := isBool_elim hy
        have := run_bb (w := w) (n := true) (a := a) (b := b) hk
        simp only [if_true] at this
        simp [execOp, Q.val, hx, hy, run_eqGuard_bool, this]
    · cases h
      simp only [Q.ok] at hok
      cases hx : ρ x <;> cases hy : ρ y <;> simp only [hx, hy, U2.ok] at hok
      simp [execOp, Q.val, hx, hy, run_eqGuard_str, run_sb (P := P) (w := w) (t := t) hok, U2.val]
    · rename_i e hk
      split at h <;> try (cases h; done)
      · cases h
        simp only [Q.ok] at hok
        cases hx : ρ x <;> simp only [hx, U1.ok] at hok
        rename_i p
        have h1 := run_nilq (w := w) (n := false) (p := p) hk
        simp only [Bool.false_eq_true, if_false] at h1
        simp [execOp, Q.val, hx, hc, run_eqGuard_ptr, h1, U1.val]
      · cases h
        simp only [Q.ok] at hok
        cases hx : ρ x <;> simp only [hx, U1.ok] at hok
        rename_i p
        have h1 := run_nilq (w := w) (n := true) (p := p) hk
        simp only [if_true] at h1
        simp [execOp, Q.val, hx, hc, run_eqGuard_ptr, h1, U1.val]
    · rename_i e hk
      split at h <;> try (cases h; done)
      · cases h
        simp only [Q.ok] at hok
        cases hx : ρ x <;> simp only [hx, U1.ok] at hok
        rename_i p l c
        have h1 := run_nils (w := w) (n := false) (p := p) (l := l) (c := c) hk
        simp only [Bool.false_eq_true, if_false] at h1
        simp [execOp, Q.val, hx, hc, run_eqGuard_sl, h1, U1.val]
      · cases h
        simp only [Q.ok] at hok
        cases hx : ρ x <;> simp only [hx, U1.ok] at hok
        rename_i p l c
        have h1 := run_nils (w := w) (n := true) (p := p) (l := l) (c := c) hk
        simp only [if_true] at h1
        simp [execOp, Q.val, hx, hc, run_eqGuard_sl, h1, U1.val]
  | indexAddr t x i =>
    simp only [cq] at h
    split at h <;> try (cases h; done)
    · rename_i e hk
      cases hs : sizeB P e with
      | none => simp [hs] at h
      | some n =>
        simp [hs] at h; subst h
        simp only [Q.ok] at hok
        cases hx : ρ x with
        | slice a l c =>
          cases a with
          | none => simp [hx, U2.ok] at hok
          | some a =>
            cases hi : ρ i <;> simp only [hx, hi, U2.ok] at hok
            simp [execOp, Q.val, hx, hi, Instr.indexAt, asIntOf, run_underlying hk, hok, run_sizeB hs, U2.val]
        | _ => simp [hx, U2.ok] at hok
    · rename_i len e hk
      cases hs : sizeB P e with
      | none => simp [hs] at h
      | some n =>
        simp [hs] at h; subst h
        simp only [Q.ok] at hok
        cases hx : ρ x with
        | pointer a =>
          cases a with
          | none => simp [hx, U2.ok] at hok
          | some a =>
            cases hi : ρ i <;> simp only [hx, hi, U2.ok] at hok
            simp [execOp, Q.val, hx, hi, Instr.indexAt, asIntOf, run_underlying hk, hok, run_sizeB hs, U2.val, Instr.sureAddr]
        | _ => simp [hx, U2.ok] at hok
  | index t x i =>
    simp only [cq] at h
    split at h <;> try (cases h; done)
    · rename_i hk
      cases h
      simp only [Q.ok] at hok
      cases hx : ρ x <;> cases hi : ρ i <;> simp only [hx, hi, U2.ok] at hok
      rename_i s kk n
      have hlt : n.toNat < s.size := by omega
      have hget : s[n.toNat]? = some s[n.toNat] := by simp [hlt]
      have hg : s.data[n.toNat]? = some s[n.toNat] := by
        rw [Array.getElem?_eq_getElem (show n.toNat < s.data.size from hlt)]; rfl
      simp [execOp, Q.val, hx, hi, Instr.index, asIntOf, run_underlying hk, hok.1, hget, U2.val, hg]
    · rename_i len e hk
      split at h <;> try (cases h; done)
      rename_i n g hs hg
      cases h
      simp only [Q.ok] at hok
      cases g
      · cases hx : ρ x <;> cases hi : ρ i <;> simp only [hx, hi, U2.ok] at hok
        rename_i cs kk m
        have hget : cs[m.toNat * n]? = some cs[m.toNat * n] := by simp [hok.2.2]
        simp [execOp, Q.val, hx, hi, Instr.index, asIntOf, run_underlying hk, hok.1, hok.2.1, run_sizeB hs, part, run_aggB hg, U2.val, hget]
      · cases hx : ρ x <;> cases hi : ρ i <;> simp only [hx, hi, U2.ok] at hok
        simp [execOp, Q.val, hx, hi, Instr.index, asIntOf, run_underlying hk, hok, run_sizeB hs, part, run_aggB hg, U2.val]
  | slice t x lo hi mx =>
    cases mx with
    | some m => simp [cq] at h
    | none =>
      simp only [cq] at h
      split at h <;> try (cases h; done)
      · rename_i hk
        cases h
        simp only [Q.ok] at hok
        cases hx : ρ x with
        | string s =>
          cases lo <;> cases hi <;> simp only [hx, U1.val] at hok
          · simp [execOp, Q.val, hx, Instr.sliceAt, Instr.slice, run_underlying hk, Instr.sliceBounds, Instr.sliceBound, U3.val, U1.val]
          · rename_i y
            cases hy : ρ y <;> simp only [hy, U3.ok] at hok
            simp [execOp, Q.val, hx, hy, Instr.sliceAt, Instr.slice, run_underlying hk, Instr.sliceBounds, Instr.sliceBound, asIntOf, hok, U3.val, U1.val]
          · rename_i y
            cases hy : ρ y <;> simp only [hy, U3.ok] at hok
            have := hok.2.1
            simp [execOp, Q.val, hx, hy, Instr.sliceAt, Instr.slice, run_underlying hk, Instr.sliceBounds, Instr.sliceBound, asIntOf, hok, U3.val, U1.val]
          · rename_i y z
            cases hy : ρ y <;> cases hz : ρ z <;> simp only [hy, hz, U3.ok] at hok
            rename_i k1 l k2 h
            have h0 : 0 ≤ h := by omega
            have h1 : ¬ max h 0 < l := by omega
            simp [execOp, Q.val, hx, hy, hz, Instr.sliceAt, Instr.slice, run_underlying hk, Instr.sliceBounds, Instr.sliceBound, asIntOf, hok, h0, h1, U3.val, U1.val]
        | _ => simp [hx, U3.ok] at hok
      · rename_i e hk
        cases hs : sizeB P e with
        | none => simp [hs] at h
        | some n =>
          simp [hs] at h; subst h
          simp only [Q.ok] at hok
          cases hx : ρ x with
          | slice a len cap =>
            cases lo <;> cases hi <;> simp only [hx, U1.val] at hok
            · have h1 : (len : Int) ≤ cap := hok.2.2
              simp [execOp, Q.val, hx, Instr.sliceAt, Instr.slice, run_underlying hk, Instr.sliceBounds, Instr.sliceBound, U3.val, U1.val, run_sizeB hs]
            · rename_i y
              cases hy : ρ y <;> simp only [hy, U3.ok] at hok
              simp [execOp, Q.val, hx, hy, Instr.sliceAt, Instr.slice, run_underlying hk, Instr.sliceBounds, Instr.sliceBound, asIntOf, hok, U3.val, U1.val, run_sizeB hs]
            · rename_i y
              cases hy : ρ y <;> simp only [hy, U3.ok] at hok
              have := hok.2.1
              simp [execOp, Q.val, hx, hy, Instr.sliceAt, Instr.slice, run_underlying hk, Instr.sliceBounds, Instr.sliceBound, asIntOf, hok, U3.val, U1.val, run_sizeB hs]
            · rename_i y z
              cases hy : ρ y <;> cases hz : ρ z <;> simp only [hy, hz, U3.ok] at hok
              rename_i k1 l k2 h
              have h0 : 0 ≤ h := by omega
              have h1 : ¬ max h 0 < l := by omega
              simp [execOp, Q.val, hx, hy, hz, Instr.sliceAt, Instr.slice, run_underlying hk, Instr.sliceBounds, Instr.sliceBound, asIntOf, hok, h0, h1, U3.val, U1.val, run_sizeB hs]
          | _ => simp [hx, U3.ok] at hok
  | call c =>
    obtain ⟨callee, ⟨args⟩, ⟨ats⟩⟩ := c
    simp only [cq, cqCall] at h
    split at h <;> try (cases h; done)
    · split at h <;> try (cases h; done)
      · rename_i x t hk
        cases h
        obtain ⟨s, hv⟩ := isStr_elim hok
        simp [execOp, resolve, invoke, builtin, Q.val, hv, U1.val, Builtin.len_, run_underlying hk, goInt]
      · rename_i x t _ e hk
        cases h
        simp only [Q.ok] at hok
        cases hv : ρ x <;> simp only [hv, U1.ok] at hok
        simp [execOp, resolve, invoke, builtin, Q.val, hv, U1.val, Builtin.len_, run_underlying hk, goInt]
    · rename_i x y t t'
      cases hk : intB P t with
      | none => simp [hk] at h
      | some k =>
        simp [hk] at h; subst h
        obtain ⟨hx, hy⟩ := hok
        obtain ⟨a, hx⟩ := isInt_elim hx
        obtain ⟨b, hy⟩ := isInt_elim hy
        have := run_mm (P := P) (w := w) (m := true) (t := t) (t' := t') (ty := type) (k := k) (a := a) (b := b)
        simp only [if_true] at this
        simp [execOp, resolve, invoke, builtin, Q.val, hx, hy, this]
    · rename_i x y t t'
      cases hk : intB P t with
      | none => simp [hk] at h
      | some k =>
        simp [hk] at h; subst h
        obtain ⟨hx, hy⟩ := hok
        obtain ⟨a, hx⟩ := isInt_elim hx
        obtain ⟨b, hy⟩ := isInt_elim hy
        have := run_mm (P := P) (w := w) (m := false) (t := t) (t' := t') (ty := type) (k := k) (a := a) (b := b)
        simp only [Bool.false_eq_true, if_false] at this
        simp [execOp, resolve, invoke, builtin, Q.val, hx, hy, this]
  | build t parts =>
    simp only [cq] at h
    split at h <;> try (cases h; done)
    rename_i z places hz hpl
    cases hp : partsAt places parts.toList with
    | none => simp [hp] at h
    | some ps =>
      cases hs : segs z 0 ps with
      | none => simp [hp, hs] at h
      | some sg =>
        simp [hp, hs] at h; subst h
        obtain ⟨v, hv, hvz⟩ := run_zeroB (w := w) hz
        have hparts : ∀ (l : List (Nat × Operand)), (l.toArray.map fun (p : Nat × Operand) => (p.1, ρ p.2)).toList = l.map fun (p : Nat × Operand) => (p.1, ρ p.2) := by intro l; simp
        have hzl : v.cells = z.toArray := by rw [← hvz]
        obtain ⟨pl⟩ := parts
        simp only at hp
        unfold placesB at hpl
        split at hpl <;> try (cases hpl; done)
        · rename_i fs hu
          obtain ⟨fl⟩ := fs
          have hf := run_fill ρ z (places[·]?) pl 0 ps sg [] rfl (Nat.zero_le _) hp hs hok
          simp only [List.nil_append, List.drop_zero] at hf
          have hm := run_places (P := P) (w := w) fl places hpl
          simp [execOp, Instr.build, hv, hzl, run_underlying hu, hm, Q.val, hf]
        · rename_i len e hu
          cases hsz : sizeB P e with
          | none => simp [hsz] at hpl
          | some n =>
            simp [hsz] at hpl; subst hpl
            have hp' := mapM_more ((List.range len).map fun i => (i * n, n)) (fun i => some (i * n, n)) (by
              intro i v hi
              simp at hi
              obtain ⟨k, h1, h2⟩ := hi
              obtain ⟨h3, h4⟩ := List.getElem?_eq_some_iff.1 h1
              simp at h4
              subst h4
              rw [h2]) pl ps hp
            have hf := run_fill ρ z (fun i => some (i * n, n)) pl 0 ps sg [] rfl (Nat.zero_le _) hp' hs hok
            simp only [List.nil_append, List.drop_zero] at hf
            simp [execOp, Instr.build, hv, hzl, run_underlying hu, run_sizeB hsz, Q.val, hf]
  | _ => simp only [cq] at h; cases h
end
end Go.Sx
