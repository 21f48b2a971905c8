/-
  SxH: what is done by the operations that are not quiet.
-/
import Derived.Test.YtpocidlfjakmlaaSxG
set_option linter.unusedSimpArgs false
set_option linter.unusedVariables false
namespace Go.Sx
open Go

section
variable {P : Program} {e : Env} {w0 w : World} {a : Act}

theorem run_storeCells_st (ad : Addr) : ∀ (vs : List Value) (i : Nat) (w w' : World), stAt w (ad.add i) vs = some w' → (storeCells ad vs i).run P w = .ok () w'
  | [], i, w, w', h => by simp [stAt] at h; subst h; simp [storeCells]
  | v :: r, i, w, w', h => by
    simp only [stAt] at h
    split at h
    · rename_i hc
      obtain ⟨h1, h2, h3⟩ := hc
      obtain ⟨u, hu⟩ := Option.isSome_iff_exists.1 h2
      rw [Addr.add_add'] at h
      have ih := run_storeCells_st ad r (i + 1) _ w' h
      have hs : (store (ad.add i) v).run P w = .ok () (w.setCell (ad.add i) v) := by
        rw [run_store P w (ad.add i) v .plain h1, hu]; simp [h3]
      simp only [storeCells, Sem.run_bind, hs, Result.andThen_ok, ih]
    · cases h

theorem flat_get (z : List Value) (n : Nat) (hz : z.length = n) (hn : 0 < n) : ∀ (len i : Nat), i < len * n → ((List.replicate len z).flatten)[i]? = z[i % n]?
  | 0, i, h => by simp at h
  | len + 1, i, h => by
    simp only [List.replicate_succ, List.flatten_cons]
    by_cases hi : i < n
    · rw [List.getElem?_append_left (by omega), Nat.mod_eq_of_lt hi]
    · rw [List.getElem?_append_right (by omega), hz, flat_get z n hz hn len (i - n) (by rw [Nat.succ_mul] at h; omega)]
      congr 1
      conv => rhs; rw [show i = (i - n) + n from by omega, Nat.add_mod_right]

theorem zeros_eq (z : Array Value) (n len : Nat) (hz : z.size = n) (hn : 0 < n) : (Array.range (len * n)).map (fun i => z[i % z.size]!) = ((List.replicate len z.toList).flatten).toArray := by
  apply Array.ext'
  apply List.ext_getElem?
  intro i
  rw [List.toList_toArray]
  by_cases hi : i < len * n
  · rw [flat_get z.toList n (by simpa using hz) hn len i hi]
    have hlt : i % n < z.size := by rw [hz]; exact Nat.mod_lt _ hn
    simp only [Array.toList_map, List.getElem?_map, Array.toList_range, List.getElem?_range hi, Option.map_some, hz]
    rw [getElem!_pos z (i % n) hlt]
    simp [hlt]
  · have h1 : ((List.replicate len z.toList).flatten).length = len * n := by simp [hz]
    rw [List.getElem?_eq_none (by simp; omega), List.getElem?_eq_none (by rw [h1]; omega)]

theorem run_buildSlice (ρ : Operand → Value) {t et : TypeId} {len n : Nat} {z : List Value} {pl : List (Nat × Operand)} {ps : List (Nat × Nat × Operand)} {sg : List (List Value × Option (Nat × Operand))}
    (hu : P.underlying t = some (.slice et)) (hs : sizeB P et = some n) (hz : zeroB P et = some z) (hzn : z.length = n) (hlen : len * n ≤ 16777216) (hn : 0 < n)
    (hp : partsAt ((List.range len).map fun i => (i * n, n)) pl = some ps) (hsg : segs ((List.replicate len z).flatten) 0 ps = some sg) (hok : segOk ρ sg) :
    (Instr.buildSlice t len (pl.toArray.map fun (p : Nat × Operand) => (p.1, ρ p.2))).run P w = .ok (.slice (some ⟨w.heap.size, 0, none⟩) len len) (w.alloc (.cells (segCells ρ sg).toArray et)) := by
  obtain ⟨v, hv, hvz⟩ := run_zeroB (w := w) hz
  have hp' := mapM_more ((List.range len).map fun i => (i * n, n)) (fun i => some (i * n, n)) (by
    intro i v hi
    simp at hi
    obtain ⟨k, h1, h2⟩ := hi
    obtain ⟨h3, h4⟩ := List.getElem?_eq_some_iff.1 h1
    simp at h4
    subst h4
    rw [h2]) pl ps hp
  have hf := run_fill ρ ((List.replicate len z).flatten) (fun i => some (i * n, n)) pl 0 ps sg [] rfl (Nat.zero_le _) hp' hsg hok
  simp only [List.nil_append, List.drop_zero] at hf
  have hvs : v.cells.size = n := by rw [← Array.length_toList, hvz, hzn]
  have hzz := zeros_eq v.cells n len hvs hn
  rw [hvz] at hzz
  unfold Instr.buildSlice
  simp only [Sem.run_bind, run_underlying hu, Result.andThen_ok, run_sizeB hs, Sem.run_ite]
  rw [if_neg (by omega)]
  by_cases h0 : len * n = 0
  · have hl0 : len = 0 := by
      rcases Nat.mul_eq_zero.1 h0 with h | h
      · exact h
      · omega
    subst hl0
    simp only [List.replicate_zero, List.flatten_nil] at hf
    have he : (Array.map (fun _ => (default : Value)) (Array.range 0)) = #[] := by simp
    simp [he, hf, newRow]
  · rw [if_neg h0]
    simp only [Sem.run_bind, hv, Result.andThen_ok, Sem.run_pure]
    have : (Array.range (len * n)).map (fun x => v.cells[x % v.cells.size]!) = (List.replicate len z).flatten.toArray := hzz
    rw [this]
    simp [hf, newRow]

theorem listMap_rel {f : Operand → Option Og} (hf : ∀ x y, f x = some y → relO e w0 a x y) : ∀ (l : List Operand) (m : List Og), listMap f l = some m → allG e w0 m → l.map a.eval = m.map (ogv e w0)
  | [], m, h, _ => by simp [listMap] at h; subst h; rfl
  | x :: r, m, h, hg => by
    simp only [listMap] at h
    cases hx : f x with
    | none => simp [hx] at h
    | some y =>
      cases hr : listMap f r with
      | none => simp [hx, hr] at h
      | some m' =>
        simp [hx, hr] at h; subst h
        simp only [List.map_cons, listMap_rel hf r m' hr hg.2]
        rw [show a.eval x = ogv e w0 y from hf x y hx hg.1]

theorem segG_of_all : ∀ (s : List (List Value × Option (Nat × Og))), allG e w0 (s.filterMap fun x => x.2.map (·.2)) → segG e w0 s
  | [], _ => trivial
  | (z, none) :: r, h => segG_of_all r h
  | (z, some (n, x)) :: r, h => ⟨h.1, segG_of_all r h.2⟩

theorem rawMap_rel {f : Operand → Option Og} (hf : ∀ x y, f x = some y → relO e w0 a x y) : ∀ (l : List (Nat × Operand)) (m : List (Nat × Og)), (∀ p ∈ l, p.2 = .tmp p.1) → listMap (fun x => (f x.2).map fun y => (x.1, y)) l = some m →
    allG e w0 (m.map (·.2)) → ∀ t, (∃ x, (t, x) ∈ l) → ((m.map fun x => (x.1, ogv e w0 x.2)).lookup t) = some (a.eval (.tmp t))
  | [], m, _, h, _, t, ⟨x, hx⟩ => by cases hx
  | (s, x) :: r, m, hl, h, hg, t, ht => by
    simp only [listMap] at h
    cases hx : f x with
    | none => simp [hx] at h
    | some y =>
      cases hr : listMap (fun x => (f x.2).map fun y => (x.1, y)) r with
      | none => simp [hx, hr] at h
      | some m' =>
        simp [hx, hr] at h; subst h
        have hxs : x = .tmp s := hl (s, x) List.mem_cons_self
        simp only [List.map_cons]
        by_cases hts : t = s
        · subst hts
          rw [lookup_cons_same, ← show a.eval x = ogv e w0 y from hf x y hx hg.1, hxs]
        · rw [lookup_cons_ne hts]
          refine rawMap_rel hf r m' (fun p hp => hl p (List.mem_cons_of_mem _ hp)) hr hg.2 t ?_
          obtain ⟨z, hz⟩ := ht
          rcases List.mem_cons.1 hz with h | h
          · cases h; exact absurd rfl hts
          · exact ⟨z, h⟩

theorem wp_of_ranTo {o : Oper} {K : Value → World → Prop} {K' : Act → World → Prop} {Q : Exit → Act → World → Prop} (h : ranTo K ((execOp a.eval o).run P w)) (hK : ∀ v w', K v w' → K' (a.put o.dst v) w') : o.wp P a w K' Q := by
  unfold Oper.wp
  generalize (execOp a.eval o).run P w = r at h ⊢
  cases r with
  | ok n w' =>
    cases n <;> simp only [ranTo] at h <;> try (exact h.elim)
    · exact hK _ _ h
    · exact hK _ _ h
  | halt _ _ => exact h.elim

theorem raw_sound {f : Operand → Option Og} (hf : ∀ x y, f x = some y → relO e w0 a x y) {o : Oper} (hsel : selectB o.op = false) {m : List (Nat × Og)}
    (hm : listMap (fun x => (f x.2).map fun y => (x.1, y)) (o.op.operands.toList.filterMap fun | .tmp t => some (t, Operand.tmp t) | _ => none) = some m) (hg : allG e w0 (m.map (·.2))) :
    execOp (rawEv (m.map fun x => (x.1, ogv e w0 x.2))) o = execOp a.eval o := by
  refine execOp_congr o ?_ ?_
  · intro cs b h
    rw [h] at hsel; simp [selectB] at hsel
  · intro x hx
    cases x with
    | tmp t =>
      have := rawMap_rel hf _ m (by
        intro p hp
        simp only [List.mem_filterMap] at hp
        obtain ⟨y, _, hy⟩ := hp
        cases y <;> simp at hy
        rw [← hy]) hm hg t ⟨.tmp t, by
          simp only [List.mem_filterMap]
          exact ⟨.tmp t, by simpa using hx, rfl⟩⟩
      simp [rawEv, this]
    | const v => rfl
    | global g => rfl
    | func g => rfl

theorem X_sound {f : Operand → Option Og} (hf : ∀ x y, f x = some y → relO e w0 a x y) {o : Oper} {x : X Operand} {xe : X Og} (hx : cx P o = some x) (hm : X.mapO f x = some xe) (hg : allG e w0 xe.gs)
    {K : Value → World → Prop} {K' : Act → World → Prop} {Q : Exit → Act → World → Prop} (h : xe.vc P (ogv e w0) w K) (hK : ∀ v w', K v w' → K' (a.put o.dst v) w') : o.wp P a w K' Q := by
  have hraw : ∀ x', (if selectB o.op then none else some (X.raw { o with pos := "", after := #[], guard := none } (o.op.operands.toList.filterMap fun | .tmp t => some (t, Operand.tmp t) | _ => none))) = some x' → x = x' → o.wp P a w K' Q := by
    intro x' hx' he
    subst he
    split at hx'
    · cases hx'
    · rename_i hsel
      cases hx'
      simp only [X.mapO] at hm
      cases hl : listMap (fun x => (f x.2).map fun y => (x.1, y)) (o.op.operands.toList.filterMap fun | .tmp t => some (t, Operand.tmp t) | _ => none) with
      | none => simp [hl] at hm
      | some m =>
        simp [hl] at hm; subst hm
        simp only [X.gs] at hg
        simp only [X.vc] at h
        have he : execOp (rawEv (m.map fun x => (x.1, ogv e w0 x.2))) { o with pos := "", after := #[], guard := none } = execOp a.eval o := raw_sound hf (by simpa using hsel) hl hg
        rw [he] at h
        exact wp_of_ranTo h hK
  obtain ⟨dst, op, type, pos, after, guard⟩ := o
  cases op with
  | store t p v =>
    simp only [cx] at hx
    cases hs : sizeB P t with
    | none => simp [hs] at hx
    | some n =>
      simp [hs] at hx; subst hx
      simp only [X.mapO] at hm
      cases hp : f p with
      | none => simp [hp] at hm
      | some p' =>
        cases hv : f v with
        | none => simp [hp, hv] at hm
        | some v' =>
          simp [hp, hv] at hm; subst hm
          simp only [X.gs, allG] at hg
          have h3 : a.eval p = ogv e w0 p' := hf p p' hp hg.1
          have h4 : a.eval v = ogv e w0 v' := hf v v' hv hg.2.1
          obtain ⟨hsz, ad, w', hpa, hst, hk⟩ := h
          have hr := run_storeCells_st (P := P) ad (ogv e w0 v').cells.toList 0 w w' (by rw [Addr.add_zero']; exact hst)
          unfold Oper.wp execOp
          simp [h3, h4, hpa, Instr.storeAt, Instr.sureAddr, storeVar, run_sizeB hs, hsz, hr]
          exact hK _ _ hk
  | box t v =>
    simp only [cx, Option.some.injEq] at hx; subst hx
    simp only [X.mapO] at hm
    cases hv : f v with
    | none => simp [hv] at hm
    | some v' =>
      simp [hv] at hm; subst hm
      simp only [X.gs, allG] at hg
      have h4 : a.eval v = ogv e w0 v' := hf v v' hv hg.1
      unfold Oper.wp execOp
      simp [h4, Instr.box, newVar, newRow]
      exact hK _ _ h
  | alloc t =>
    simp only [cx] at hx
    cases hz : zeroB P t with
    | none => simp [hz] at hx
    | some z =>
      simp [hz] at hx; subst hx
      simp [X.mapO] at hm; subst hm
      obtain ⟨v, hv, hvz⟩ := run_zeroB (w := w) hz
      unfold Oper.wp execOp
      have hc : v.cells = z.toArray := by rw [← hvz]
      simp [Instr.alloc, hv, newVar, newRow, hc]
      exact hK _ _ h
  | buildSlice t len parts =>
    simp only [cx] at hx
    split at hx <;> try (cases hx; done)
    rename_i et hu
    split at hx <;> try (cases hx; done)
    rename_i n z hs hz
    split at hx <;> try (cases hx; done)
    rename_i hc
    obtain ⟨pl⟩ := parts
    cases hp : partsAt ((List.range len).map fun i => (i * n, n)) pl with
    | none => simp [hp] at hx
    | some ps =>
      cases hsg : segs ((List.replicate len z).flatten) 0 ps with
      | none => simp [hp, hsg] at hx
      | some sg =>
        simp [hp, hsg] at hx; subst hx
        simp only [X.mapO] at hm
        cases hsm : segMap f sg with
        | none => simp [hsm] at hm
        | some sg' =>
          simp [hsm] at hm; subst hm
          obtain ⟨h1, h2⟩ := segMap_rel hf sg sg' hsm (segG_of_all sg' hg)
          have hr := run_buildSlice (P := P) (w := w) a.eval hu hs hz hc.1 hc.2.1 hc.2.2 hp hsg (h2 h.1)
          unfold Oper.wp execOp
          have hr' : (Instr.buildSlice t len (pl.toArray.map fun x => match x with | (i, x) => (i, a.eval x))).run P w = _ := hr
          simp only [Sem.run_bind, hr', Result.andThen_ok, Sem.run_pure]
          rw [h1]
          exact hK _ _ h.2
  | call c =>
    simp only [cx] at hx
    obtain ⟨callee, ⟨args⟩, ats⟩ := c
    cases callee with
    | value g =>
      cases g with
      | func g =>
        simp only at hx
        cases hfn : P.funcs[g]? with
        | none => simp [hfn] at hx
        | some fn =>
          simp only [hfn] at hx
          split at hx
          · rename_i hb
            simp only [Option.some.injEq] at hx; subst hx
            simp only [X.mapO] at hm
            cases hl : listMap f args with
            | none => simp [hl] at hm
            | some m =>
              simp [hl] at hm; subst hm
              have hargs := listMap_rel hf args m hl hg
              simp only [Bool.and_eq_true, bne_iff_ne, ne_eq] at hb
              have hbody : fn.body.isNone = false := by
                cases hbb : fn.body with
                | none => simp [hbb] at hb
                | some _ => rfl
              have hname : fn.name ≠ "runtime.NumGoroutine" := by simpa using hb.2
              have hbody' : fn.body ≠ none := by intro h; rw [h] at hbody; cases hbody
              unfold Oper.wp execOp
              simp [resolve, Act.eval, Deferred.ofValue, invoke, callFunc, hfn, hbody', hname]
              rw [show (args.map a.eval) = m.map (ogv e w0) from hargs]
              refine Calls.mono h ?_
              rintro en w' ⟨v, rfl, hk⟩
              exact hK _ _ hk
          · exact hraw _ hx rfl
      | _ => exact hraw _ hx rfl
    | _ => exact hraw _ hx rfl
  | _ => exact hraw _ hx rfl
end
end Go.Sx
