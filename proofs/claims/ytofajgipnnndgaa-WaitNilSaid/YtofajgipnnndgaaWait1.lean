/-
  The walks over package wait: New, tick, Add, Tick, List.
-/
import Derived.Test.YtofajgipnnndgaaWaitCode1
set_option linter.unusedSimpArgs false
set_option linter.unusedVariables false
namespace Go.Proofs.Ytofajgipnnndgaa
open Go Go.Sx

theorem tick_any (a : Int) (w : World) : Calls Try.prog 29 #[.int .i64 a] w fun en w' => en = .returned (.int .i64 (max 0 (min a 1099511627776))) ∧ w' = w := by
  refine k29 ?_
  simp only [c29, vc_reg_f, vc_reg_t, vc_seq, vc_cond, vc_block, vc_exit, vc_ret, vc_skip, vsteps_nil, chk_plain, chk_guard, eff_plain, eff_need, eff_guard, vIs_t, vIs_f, thenP, blockP, loopP, retP, holds, okG, segG, allG, X.gs, X.vc, Q.ok, segOk, segCells, ogv, E.val, isBool, push, prune, List.map, List.filterMap, List.lookup_cons, List.lookup_nil, env0, Nat.reduceBEq, Nat.reduceEqDiff, resL, tup, Bool.false_eq_true, if_false, if_true, Option.getD_some, Option.map_some, Option.isSome_some, true_and, and_true, decide_true, decide_false, forall_const, false_implies, implies_true, imp_self, List.append_toArray, List.size_toArray, List.length_cons, List.length_nil, Nat.reduceAdd, Nat.zero_add, List.toList_toArray, Value.ite_bool, Value.bool.injEq, exists_eq_left', exists_eq_left, Bool.if_true_left, Bool.if_false_right, Bool.or_eq_true, Bool.and_eq_true, Bool.or_eq_false_iff, Bool.and_eq_false_imp, decide_eq_true_eq, decide_eq_false_iff_not, Bool.not_eq_true', Bool.not_eq_false', Bool.not_true, Bool.not_false, Bool.true_eq_false, Option.some.injEq, not_true_eq_false, not_false_eq_true, List.nil_append, List.cons_append, Array.toList_append, List.append_nil, val_nilc, val_same, val_sz, val_off, val_conv, val_bnot, val_neg, val_lenS, val_lenL, val_fld, val_fld1, val_ext, val_load, val_load1, val_nilq_f, val_nilq_t, val_nils_f, val_nils_t, ok_nilc, ok_same, ok_sz, ok_off, ok_conv, ok_bnot, ok_neg, ok_lenS, ok_lenL, ok_fld, ok_fld1, ok_ext, ok_load, ok_load1, ok_nilq, ok_nils, val_ib_add, ok_ib_add, val_ib_sub, ok_ib_sub, val_ib_mul, ok_ib_mul, val_ib_quo, ok_ib_quo, val_ib_rem, ok_ib_rem, val_ib_and, ok_ib_and, val_ib_or, ok_ib_or, val_ib_xor, ok_ib_xor, val_ib_andNot, ok_ib_andNot, val_ib_eql, ok_ib_eql, val_ib_neq, ok_ib_neq, val_ib_lss, ok_ib_lss, val_ib_leq, ok_ib_leq, val_ib_gtr, ok_ib_gtr, val_ib_geq, ok_ib_geq, val_shl, val_shr, ok_sh, val_bb_f, val_bb_t, ok_bb, val_sb_add, ok_sb_add, val_sb_eql, ok_sb_eql, val_sb_neq, ok_sb_neq, val_sb_lss, ok_sb_lss, val_idxA, ok_idxA, val_idxP, ok_idxP, val_idxS, ok_idxS, val_idxV_t, val_idxV_f, ok_idxV_t, ok_idxV_f, val_max, val_min, ok_mm, val_app, ok_app, val_slS, ok_slS, val_slL, ok_slL, vBool_b, cells_int, cells_bool, cells_str, cells_ptr, cells_sl, cells_map, cells_agg, Option.isNone_some, Option.isNone_none, Option.isSome_none, Addr.add_lit, cell_at, cellOf_some, rd_at, heap_setRow_same, setObj_some, heap_alloc_same, heap_drew, World.size_alloc, World.size_drew, setRow_size, st_at, st_vc, splice, List.getElem?_cons_zero, List.getElem?_cons_succ, List.getElem?_toArray, List.take_succ_cons, List.take_zero, List.drop_succ_cons, List.drop_zero, List.take_nil, List.drop_nil, eq_self, Option.map_none, Nat.reduceLeDiff, Nat.reduceLT, stOf_some, rdOf_some, List.all_cons, List.all_nil, one_int, one_bool, one_str, one_ptr, one_sl, one_map, Bool.and_self, Bool.and_true, Bool.true_and, List.length_map, Nat.le_refl, Nat.lt_add_one]

def newOk (a b c : Int) : Prop := 1 ≤ a ∧ a ≤ 64 ∧ 0 ≤ b ∧ b ≤ 8 ∧ 1 ≤ c ∧ c ≤ 1000

theorem new_ok (a b c : Int) (w : World) (h : newOk a b c) : Calls Try.prog 12 #[.int .i64 a, .int .i64 b, .int .i64 c] w fun en w' =>
    en = .returned (.tuple #[.pointer (some ⟨w.heap.size, 0, none⟩), .int .i64 0]) ∧ w' = w.alloc (.cells #[.slice none 0 0, .int .i64 0, .int .i64 a, .int .i64 b, .int .i64 c] 61) := by
  unfold newOk at h
  refine k12 ?_
  simp only [c12, vc_reg_f, vc_reg_t, vc_seq, vc_cond, vc_block, vc_exit, vc_ret, vc_skip, vsteps_nil, chk_plain, chk_guard, eff_plain, eff_need, eff_guard, vIs_t, vIs_f, thenP, blockP, loopP, retP, holds, okG, segG, allG, X.gs, X.vc, Q.ok, segOk, segCells, ogv, E.val, isBool, push, prune, List.map, List.filterMap, List.lookup_cons, List.lookup_nil, env0, Nat.reduceBEq, Nat.reduceEqDiff, resL, tup, Bool.false_eq_true, if_false, if_true, Option.getD_some, Option.map_some, Option.isSome_some, true_and, and_true, decide_true, decide_false, forall_const, false_implies, implies_true, imp_self, List.append_toArray, List.size_toArray, List.length_cons, List.length_nil, Nat.reduceAdd, Nat.zero_add, List.toList_toArray, Value.ite_bool, Value.bool.injEq, exists_eq_left', exists_eq_left, Bool.if_true_left, Bool.if_false_right, Bool.or_eq_true, Bool.and_eq_true, Bool.or_eq_false_iff, Bool.and_eq_false_imp, decide_eq_true_eq, decide_eq_false_iff_not, Bool.not_eq_true', Bool.not_eq_false', Bool.not_true, Bool.not_false, Bool.true_eq_false, Option.some.injEq, not_true_eq_false, not_false_eq_true, List.nil_append, List.cons_append, Array.toList_append, List.append_nil, val_nilc, val_same, val_sz, val_off, val_conv, val_bnot, val_neg, val_lenS, val_lenL, val_fld, val_fld1, val_ext, val_load, val_load1, val_nilq_f, val_nilq_t, val_nils_f, val_nils_t, ok_nilc, ok_same, ok_sz, ok_off, ok_conv, ok_bnot, ok_neg, ok_lenS, ok_lenL, ok_fld, ok_fld1, ok_ext, ok_load, ok_load1, ok_nilq, ok_nils, val_ib_add, ok_ib_add, val_ib_sub, ok_ib_sub, val_ib_mul, ok_ib_mul, val_ib_quo, ok_ib_quo, val_ib_rem, ok_ib_rem, val_ib_and, ok_ib_and, val_ib_or, ok_ib_or, val_ib_xor, ok_ib_xor, val_ib_andNot, ok_ib_andNot, val_ib_eql, ok_ib_eql, val_ib_neq, ok_ib_neq, val_ib_lss, ok_ib_lss, val_ib_leq, ok_ib_leq, val_ib_gtr, ok_ib_gtr, val_ib_geq, ok_ib_geq, val_shl, val_shr, ok_sh, val_bb_f, val_bb_t, ok_bb, val_sb_add, ok_sb_add, val_sb_eql, ok_sb_eql, val_sb_neq, ok_sb_neq, val_sb_lss, ok_sb_lss, val_idxA, ok_idxA, val_idxP, ok_idxP, val_idxS, ok_idxS, val_idxV_t, val_idxV_f, ok_idxV_t, ok_idxV_f, val_max, val_min, ok_mm, val_app, ok_app, val_slS, ok_slS, val_slL, ok_slL, vBool_b, cells_int, cells_bool, cells_str, cells_ptr, cells_sl, cells_map, cells_agg, Option.isNone_some, Option.isNone_none, Option.isSome_none, Addr.add_lit, cell_at, cellOf_some, rd_at, heap_setRow_same, setObj_some, heap_alloc_same, heap_drew, World.size_alloc, World.size_drew, setRow_size, st_at, st_vc, splice, List.getElem?_cons_zero, List.getElem?_cons_succ, List.getElem?_toArray, List.take_succ_cons, List.take_zero, List.drop_succ_cons, List.drop_zero, List.take_nil, List.drop_nil, eq_self, Option.map_none, Nat.reduceLeDiff, Nat.reduceLT, stOf_some, rdOf_some, List.all_cons, List.all_nil, one_int, one_bool, one_str, one_ptr, one_sl, one_map, Bool.and_self, Bool.and_true, Bool.true_and, List.length_map, Nat.le_refl, Nat.lt_add_one]
  exact fun _ => by omega

theorem new_bad (a b c : Int) (w : World) (h : ¬ newOk a b c) : Calls Try.prog 12 #[.int .i64 a, .int .i64 b, .int .i64 c] w fun en w' =>
    en = .returned (.tuple #[.pointer none, .int .i64 1]) ∧ w' = w := by
  unfold newOk at h
  refine k12 ?_
  simp only [c12, vc_reg_f, vc_reg_t, vc_seq, vc_cond, vc_block, vc_exit, vc_ret, vc_skip, vsteps_nil, chk_plain, chk_guard, eff_plain, eff_need, eff_guard, vIs_t, vIs_f, thenP, blockP, loopP, retP, holds, okG, segG, allG, X.gs, X.vc, Q.ok, segOk, segCells, ogv, E.val, isBool, push, prune, List.map, List.filterMap, List.lookup_cons, List.lookup_nil, env0, Nat.reduceBEq, Nat.reduceEqDiff, resL, tup, Bool.false_eq_true, if_false, if_true, Option.getD_some, Option.map_some, Option.isSome_some, true_and, and_true, decide_true, decide_false, forall_const, false_implies, implies_true, imp_self, List.append_toArray, List.size_toArray, List.length_cons, List.length_nil, Nat.reduceAdd, Nat.zero_add, List.toList_toArray, Value.ite_bool, Value.bool.injEq, exists_eq_left', exists_eq_left, Bool.if_true_left, Bool.if_false_right, Bool.or_eq_true, Bool.and_eq_true, Bool.or_eq_false_iff, Bool.and_eq_false_imp, decide_eq_true_eq, decide_eq_false_iff_not, Bool.not_eq_true', Bool.not_eq_false', Bool.not_true, Bool.not_false, Bool.true_eq_false, Option.some.injEq, not_true_eq_false, not_false_eq_true, List.nil_append, List.cons_append, Array.toList_append, List.append_nil, val_nilc, val_same, val_sz, val_off, val_conv, val_bnot, val_neg, val_lenS, val_lenL, val_fld, val_fld1, val_ext, val_load, val_load1, val_nilq_f, val_nilq_t, val_nils_f, val_nils_t, ok_nilc, ok_same, ok_sz, ok_off, ok_conv, ok_bnot, ok_neg, ok_lenS, ok_lenL, ok_fld, ok_fld1, ok_ext, ok_load, ok_load1, ok_nilq, ok_nils, val_ib_add, ok_ib_add, val_ib_sub, ok_ib_sub, val_ib_mul, ok_ib_mul, val_ib_quo, ok_ib_quo, val_ib_rem, ok_ib_rem, val_ib_and, ok_ib_and, val_ib_or, ok_ib_or, val_ib_xor, ok_ib_xor, val_ib_andNot, ok_ib_andNot, val_ib_eql, ok_ib_eql, val_ib_neq, ok_ib_neq, val_ib_lss, ok_ib_lss, val_ib_leq, ok_ib_leq, val_ib_gtr, ok_ib_gtr, val_ib_geq, ok_ib_geq, val_shl, val_shr, ok_sh, val_bb_f, val_bb_t, ok_bb, val_sb_add, ok_sb_add, val_sb_eql, ok_sb_eql, val_sb_neq, ok_sb_neq, val_sb_lss, ok_sb_lss, val_idxA, ok_idxA, val_idxP, ok_idxP, val_idxS, ok_idxS, val_idxV_t, val_idxV_f, ok_idxV_t, ok_idxV_f, val_max, val_min, ok_mm, val_app, ok_app, val_slS, ok_slS, val_slL, ok_slL, vBool_b, cells_int, cells_bool, cells_str, cells_ptr, cells_sl, cells_map, cells_agg, Option.isNone_some, Option.isNone_none, Option.isSome_none, Addr.add_lit, cell_at, cellOf_some, rd_at, heap_setRow_same, setObj_some, heap_alloc_same, heap_drew, World.size_alloc, World.size_drew, setRow_size, st_at, st_vc, splice, List.getElem?_cons_zero, List.getElem?_cons_succ, List.getElem?_toArray, List.take_succ_cons, List.take_zero, List.drop_succ_cons, List.drop_zero, List.take_nil, List.drop_nil, eq_self, Option.map_none, Nat.reduceLeDiff, Nat.reduceLT, stOf_some, rdOf_some, List.all_cons, List.all_nil, one_int, one_bool, one_str, one_ptr, one_sl, one_map, Bool.and_self, Bool.and_true, Bool.true_and, List.length_map, Nat.le_refl, Nat.lt_add_one]
  exact fun _ => by omega

/-- An injection that waits. -/
structure Asked where
  seq : Int
  idx : Int
  head : List Int
  sent : Int
  due : Int
  deriving DecidableEq
def Asked.cells (a : Asked) : List Value := [.int .i64 a.seq, .int .i64 a.idx] ++ a.head.map (Value.int .u8) ++ [.int .i64 a.sent, .int .i64 a.due]
structure WaitS where
  list : List Asked
  last : Int
  room : Int
  tries : Int
  time : Int
def rowsOf (l : List Asked) : List Value := (l.map Asked.cells).flatten
/-- The struct at block b, its list in F. -/
structure WaitAt (w : World) (b : Nat) (F : List Nat) (x : WaitS) : Prop where
  ex : ∃ v G, Blk w b 61 [v, .int .i64 x.last, .int .i64 x.room, .int .i64 x.tries, .int .i64 x.time] ∧ Sl w 52 17 v (rowsOf x.list) G ∧ b ∉ G ∧ F = b :: G
  heads : ∀ a ∈ x.list, a.head.length = 13

def clock (a : Int) : Int := max 0 (min a 1099511627776)

theorem Try.info52 : ∃ i z, Try.prog.info? 52 = some i ∧ i.zero = some z ∧ i.size = 17 ∧ i.bytes = 48 ∧ z.cells.size = 17 := by
  have h : (Try.prog.info? 52).map (fun i => (i.zero.map fun z => z.cells.size, i.size, i.bytes)) = some (some 17, 17, 48) := by kernel_rfl
  cases hi : Try.prog.info? 52 with
  | none => simp [hi] at h
  | some i =>
    cases hz : i.zero with
    | none => simp [hi, hz] at h
    | some z => simp [hi, hz] at h; exact ⟨i, z, rfl, hz, h.2.1, h.2.2, h.1⟩

theorem rows_len : ∀ (l : List Asked), (∀ a ∈ l, a.head.length = 13) → (rowsOf l).length = l.length * 17
  | [], _ => rfl
  | a :: r, h => by
    have h1 := rows_len r (fun b hb => h b (List.mem_cons_of_mem _ hb))
    have h2 := h a List.mem_cons_self
    simp only [rowsOf, List.map_cons, List.flatten_cons, List.length_append, List.length_cons] at h1 ⊢
    simp only [Asked.cells, List.length_append, List.length_cons, List.length_nil, List.length_map, h2, h1]
    omega

theorem cells_len {a : Asked} (h : a.head.length = 13) : a.cells.length = 17 := by simp [Asked.cells, h]
theorem cells_15 {a : Asked} (h : a.head.length = 13) : a.cells[15]? = some (.int .i64 a.sent) := by
  simp [Asked.cells, List.getElem?_append_right, h]
theorem cells_16 {a : Asked} (h : a.head.length = 13) : a.cells[16]? = some (.int .i64 a.due) := by
  simp [Asked.cells, List.getElem?_append_right, h]
theorem cells_one {a : Asked} : ∀ u ∈ a.cells, u.oneCell' = true := by
  intro u hu
  simp only [Asked.cells, List.mem_cons, List.mem_append, List.mem_map, List.not_mem_nil, or_false] at hu
  rcases hu with ((rfl | rfl) | ⟨k, _, rfl⟩) | rfl | rfl <;> rfl
theorem cells_all {a : Asked} : a.cells.all Value.oneCell' = true := List.all_eq_true.2 cells_one
theorem cells_set15 {a : Asked} {s : Int} (h : a.head.length = 13) : splice a.cells.toArray 15 [.int .i64 s] = ({ a with sent := s } : Asked).cells.toArray := by
  simp [splice, Asked.cells, h, List.take_append, List.drop_append, List.take_of_length_le]
theorem cells_set16 {a : Asked} {s : Int} (h : a.head.length = 13) : splice a.cells.toArray 16 [.int .i64 s] = ({ a with due := s } : Asked).cells.toArray := by
  simp [splice, Asked.cells, h, List.take_append, List.drop_append, List.take_of_length_le]
theorem rows_at : ∀ (l : List Asked) (k : Nat) (sp : List Value), (∀ a ∈ l, a.head.length = 13) → (h : k < l.length) → ((rowsOf l ++ sp).drop (k * 17)).take 17 = l[k].cells
  | a :: r, 0, sp, hh, _ => by
    have := cells_len (hh a List.mem_cons_self)
    simp [rowsOf, List.take_append, this, List.take_of_length_le]
  | a :: r, k + 1, sp, hh, h => by
    have h1 := cells_len (hh a List.mem_cons_self)
    have h2 := rows_at r k sp (fun b hb => hh b (List.mem_cons_of_mem _ hb)) (by simpa using h)
    have h3 : rowsOf (a :: r) ++ sp = a.cells ++ (rowsOf r ++ sp) := by simp [rowsOf]
    rw [h3, show (k + 1) * 17 = a.cells.length + k * 17 from by rw [h1]; omega, ← List.drop_drop, List.drop_left, h2]
    rfl
/-- An element of the list. -/
theorem sl_row {w : World} {v : Value} {l : List Asked} {F : List Nat} (h : Sl w 52 17 v (rowsOf l) F) (hh : ∀ a ∈ l, a.head.length = 13) {k : Nat} (hk : k < l.length) :
    ∃ g n cap c, v = .slice (some ⟨g, 0, none⟩) n cap ∧ n = l.length ∧ w.heap[g]? = some (.cells c 52 (0, 0)) ∧ k * 17 + 17 ≤ c.size ∧ (c.toList.drop (k * 17)).take 17 = l[k].cells := by
  rcases h with ⟨_, h, _⟩ | ⟨g, n, cap, sp, h1, h2, h3, h4, h5, h6, h7⟩
  · have := rows_len l hh; rw [h] at this; simp at this; omega
  · have h8 := rows_len l hh
    refine ⟨g, n, cap, _, h1, by omega, h6, ?_, rows_at l k sp hh hk⟩
    simp [h8]; omega

theorem add_any (w : World) (b : Nat) (F : List Nat) (x : WaitS) (idx now : Int) (hd : List Int) (hw : WaitAt w b F x) (hh : hd.length = 13) (hr : x.list.length < x.room) (hr2 : x.room ≤ 64) (hl : 0 ≤ x.last ∧ x.last < 1000000) (ht : 0 ≤ x.time ∧ x.time ≤ 1000) :
    Calls Try.prog 13 #[.pointer (some ⟨b, 0, none⟩), .int .i64 idx, .agg (hd.map (Value.int .u8)).toArray, .int .i64 now] w fun en w' =>
      ∃ F', en = .returned (.tuple #[.int .i64 (x.last + 1), .int .i64 0]) ∧ WaitAt w' b F' { x with list := x.list ++ [⟨x.last + 1, idx, hd, 1, clock now + x.time⟩], last := x.last + 1 } ∧ Upd F w w' ∧ ∀ b ∈ F', b ∈ F ∨ w.heap.size ≤ b := by
  obtain ⟨⟨v, G, hb, hs, hbG, rfl⟩, hheads⟩ := hw
  obtain ⟨va, vn, vc, rfl, hcs, hnc⟩ := hs.len
  have hlt := hb.lt
  have hne : b ≠ w.heap.size := by omega
  have hb0 : w.heap[b]? = some (.cells #[.slice va vn vc, .int .i64 x.last, .int .i64 x.room, .int .i64 x.tries, .int .i64 x.time] 61 (0, 0)) := hb
  refine k13 ?_
  have hvn : vn = x.list.length := by rw [rows_len x.list hheads] at hcs; omega
  have hw1 : IntKind.i64.wrap (x.last + 1) = x.last + 1 := wrap_i64 (by omega)
  have hne' := hne.symm
  simp only [c13, vc_reg_f, vc_reg_t, vc_seq, vc_cond, vc_block, vc_exit, vc_ret, vc_skip, vsteps_nil, chk_plain, chk_guard, eff_plain, eff_need, eff_guard, vIs_t, vIs_f, thenP, blockP, loopP, retP, holds, okG, segG, allG, X.gs, X.vc, Q.ok, segOk, segCells, ogv, E.val, isBool, push, prune, List.map, List.filterMap, List.lookup_cons, List.lookup_nil, env0, Nat.reduceBEq, Nat.reduceEqDiff, resL, tup, Bool.false_eq_true, if_false, if_true, Option.getD_some, Option.map_some, Option.isSome_some, true_and, and_true, decide_true, decide_false, forall_const, false_implies, implies_true, imp_self, List.append_toArray, List.size_toArray, List.length_cons, List.length_nil, Nat.reduceAdd, Nat.zero_add, List.toList_toArray, Value.ite_bool, Value.bool.injEq, exists_eq_left', exists_eq_left, Bool.if_true_left, Bool.if_false_right, Bool.or_eq_true, Bool.and_eq_true, Bool.or_eq_false_iff, Bool.and_eq_false_imp, decide_eq_true_eq, decide_eq_false_iff_not, Bool.not_eq_true', Bool.not_eq_false', Bool.not_true, Bool.not_false, Bool.true_eq_false, Option.some.injEq, not_true_eq_false, not_false_eq_true, List.nil_append, List.cons_append, Array.toList_append, List.append_nil, val_nilc, val_same, val_sz, val_off, val_conv, val_bnot, val_neg, val_lenS, val_lenL, val_fld, val_fld1, val_ext, val_load, val_load1, val_nilq_f, val_nilq_t, val_nils_f, val_nils_t, ok_nilc, ok_same, ok_sz, ok_off, ok_conv, ok_bnot, ok_neg, ok_lenS, ok_lenL, ok_fld, ok_fld1, ok_ext, ok_load, ok_load1, ok_nilq, ok_nils, val_ib_add, ok_ib_add, val_ib_sub, ok_ib_sub, val_ib_mul, ok_ib_mul, val_ib_quo, ok_ib_quo, val_ib_rem, ok_ib_rem, val_ib_and, ok_ib_and, val_ib_or, ok_ib_or, val_ib_xor, ok_ib_xor, val_ib_andNot, ok_ib_andNot, val_ib_eql, ok_ib_eql, val_ib_neq, ok_ib_neq, val_ib_lss, ok_ib_lss, val_ib_leq, ok_ib_leq, val_ib_gtr, ok_ib_gtr, val_ib_geq, ok_ib_geq, val_shl, val_shr, ok_sh, val_bb_f, val_bb_t, ok_bb, val_sb_add, ok_sb_add, val_sb_eql, ok_sb_eql, val_sb_neq, ok_sb_neq, val_sb_lss, ok_sb_lss, val_idxA, ok_idxA, val_idxP, ok_idxP, val_idxS, ok_idxS, val_idxV_t, val_idxV_f, ok_idxV_t, ok_idxV_f, val_max, val_min, ok_mm, val_app, ok_app, val_slS, ok_slS, val_slL, ok_slL, vBool_b, cells_int, cells_bool, cells_str, cells_ptr, cells_sl, cells_map, cells_agg, Option.isNone_some, Option.isNone_none, Option.isSome_none, Addr.add_lit, cell_at, cellOf_some, rd_at, heap_setRow_same, setObj_some, heap_alloc_same, heap_drew, World.size_alloc, World.size_drew, setRow_size, st_at, st_vc, splice, List.getElem?_cons_zero, List.getElem?_cons_succ, List.getElem?_toArray, List.take_succ_cons, List.take_zero, List.drop_succ_cons, List.drop_zero, List.take_nil, List.drop_nil, eq_self, Option.map_none, Nat.reduceLeDiff, Nat.reduceLT, stOf_some, rdOf_some, List.all_cons, List.all_nil, one_int, one_bool, one_str, one_ptr, one_sl, one_map, Bool.and_self, Bool.and_true, Bool.true_and, List.length_map, Nat.le_refl, Nat.lt_add_one, heap_alloc_lt hlt, hb0, hh, hw1, heap_setRow_ne hne']
  refine ⟨fun h => absurd h (by omega), fun _ => ?_⟩
  refine Calls.mono (tick_any now _) ?_
  rintro en w' ⟨rfl, rfl⟩
  refine ⟨_, rfl, Keep.refl _, ?_⟩
  have hw2 : IntKind.i64.wrap (max 0 (min now 1099511627776) + x.time) = clock now + x.time := wrap_i64 (by omega)
  have h13 : List.take 13 (List.map (Value.int .u8) hd) = List.map (Value.int .u8) hd := List.take_of_length_le (by simp [hh])
  simp only [vc_reg_f, vc_reg_t, vc_seq, vc_cond, vc_block, vc_exit, vc_ret, vc_skip, vsteps_nil, chk_plain, chk_guard, eff_plain, eff_need, eff_guard, vIs_t, vIs_f, thenP, blockP, loopP, retP, holds, okG, segG, allG, X.gs, X.vc, Q.ok, segOk, segCells, ogv, E.val, isBool, push, prune, List.map, List.filterMap, List.lookup_cons, List.lookup_nil, env0, Nat.reduceBEq, Nat.reduceEqDiff, resL, tup, Bool.false_eq_true, if_false, if_true, Option.getD_some, Option.map_some, Option.isSome_some, true_and, and_true, decide_true, decide_false, forall_const, false_implies, implies_true, imp_self, List.append_toArray, List.size_toArray, List.length_cons, List.length_nil, Nat.reduceAdd, Nat.zero_add, List.toList_toArray, Value.ite_bool, Value.bool.injEq, exists_eq_left', exists_eq_left, Bool.if_true_left, Bool.if_false_right, Bool.or_eq_true, Bool.and_eq_true, Bool.or_eq_false_iff, Bool.and_eq_false_imp, decide_eq_true_eq, decide_eq_false_iff_not, Bool.not_eq_true', Bool.not_eq_false', Bool.not_true, Bool.not_false, Bool.true_eq_false, Option.some.injEq, not_true_eq_false, not_false_eq_true, List.nil_append, List.cons_append, Array.toList_append, List.append_nil, val_nilc, val_same, val_sz, val_off, val_conv, val_bnot, val_neg, val_lenS, val_lenL, val_fld, val_fld1, val_ext, val_load, val_load1, val_nilq_f, val_nilq_t, val_nils_f, val_nils_t, ok_nilc, ok_same, ok_sz, ok_off, ok_conv, ok_bnot, ok_neg, ok_lenS, ok_lenL, ok_fld, ok_fld1, ok_ext, ok_load, ok_load1, ok_nilq, ok_nils, val_ib_add, ok_ib_add, val_ib_sub, ok_ib_sub, val_ib_mul, ok_ib_mul, val_ib_quo, ok_ib_quo, val_ib_rem, ok_ib_rem, val_ib_and, ok_ib_and, val_ib_or, ok_ib_or, val_ib_xor, ok_ib_xor, val_ib_andNot, ok_ib_andNot, val_ib_eql, ok_ib_eql, val_ib_neq, ok_ib_neq, val_ib_lss, ok_ib_lss, val_ib_leq, ok_ib_leq, val_ib_gtr, ok_ib_gtr, val_ib_geq, ok_ib_geq, val_shl, val_shr, ok_sh, val_bb_f, val_bb_t, ok_bb, val_sb_add, ok_sb_add, val_sb_eql, ok_sb_eql, val_sb_neq, ok_sb_neq, val_sb_lss, ok_sb_lss, val_idxA, ok_idxA, val_idxP, ok_idxP, val_idxS, ok_idxS, val_idxV_t, val_idxV_f, ok_idxV_t, ok_idxV_f, val_max, val_min, ok_mm, val_app, ok_app, val_slS, ok_slS, val_slL, ok_slL, vBool_b, cells_int, cells_bool, cells_str, cells_ptr, cells_sl, cells_map, cells_agg, Option.isNone_some, Option.isNone_none, Option.isSome_none, Addr.add_lit, cell_at, cellOf_some, rd_at, heap_setRow_same, setObj_some, heap_alloc_same, heap_drew, World.size_alloc, World.size_drew, setRow_size, st_at, st_vc, splice, List.getElem?_cons_zero, List.getElem?_cons_succ, List.getElem?_toArray, List.take_succ_cons, List.take_zero, List.drop_succ_cons, List.drop_zero, List.take_nil, List.drop_nil, eq_self, Option.map_none, Nat.reduceLeDiff, Nat.reduceLT, stOf_some, rdOf_some, List.all_cons, List.all_nil, one_int, one_bool, one_str, one_ptr, one_sl, one_map, Bool.and_self, Bool.and_true, Bool.true_and, List.length_map, Nat.le_refl, Nat.lt_add_one, h13, hh, hw2, List.length_append, List.append_assoc]
  refine ⟨Keep.alloc _ _, ranTo_append rfl rfl ?_⟩
  have hu0 : Upd (b :: G) w (((w.alloc (Obj.cells (List.map (Value.int .u8) hd).toArray 30)).drew.setRow b #[.slice va vn vc, .int .i64 (x.last + 1), .int .i64 x.room, .int .i64 x.tries, .int .i64 x.time]).drew) :=
    (((Upd.alloc _ w _).trans (Upd.drew _ _)).trans (Upd.setRow (by simp))).trans (Upd.drew _ _)
  have hu1 : Upd [b] w (((w.alloc (Obj.cells (List.map (Value.int .u8) hd).toArray 30)).drew.setRow b #[.slice va vn vc, .int .i64 (x.last + 1), .int .i64 x.room, .int .i64 x.tries, .int .i64 x.time]).drew) :=
    (((Upd.alloc _ w _).trans (Upd.drew _ _)).trans (Upd.setRow (by simp))).trans (Upd.drew _ _)
  have hbW : Blk (((w.alloc (Obj.cells (List.map (Value.int .u8) hd).toArray 30)).drew.setRow b #[.slice va vn vc, .int .i64 (x.last + 1), .int .i64 x.room, .int .i64 x.tries, .int .i64 x.time]).drew) b 61 [.slice va vn vc, .int .i64 (x.last + 1), .int .i64 x.room, .int .i64 x.tries, .int .i64 x.time] :=
    ((hb.alloc _).drew.set _).drew
  have hsW := hs.upd hu1 (fun k hk => by simp; intro e; exact hbG (e ▸ hk))
  have hsz : (((w.alloc (Obj.cells (List.map (Value.int .u8) hd).toArray 30)).drew.setRow b #[.slice va vn vc, .int .i64 (x.last + 1), .int .i64 x.room, .int .i64 x.tries, .int .i64 x.time]).drew).heap.size = w.heap.size + 1 := by simp
  generalize (((w.alloc (Obj.cells (List.map (Value.int .u8) hd).toArray 30)).drew.setRow b #[.slice va vn vc, .int .i64 (x.last + 1), .int .i64 x.room, .int .i64 x.tries, .int .i64 x.time]).drew) = W at hu0 hu1 hbW hsW hsz ⊢
  obtain ⟨i, z, hi, hz, hsi, hby, hzs⟩ := Try.info52
  refine append1 Try.underlying31 hi hz hsi hby hzs (by omega) hsW (by simp [hh]) (by
    intro u hu
    simp only [List.mem_cons, List.mem_append, List.mem_map] at hu
    rcases hu with rfl | rfl | ⟨k, _, rfl⟩ | rfl | rfl | h <;> first | rfl | (cases h)) (by rw [rows_len x.list hheads]; omega) (by rw [rows_len x.list hheads]; unfold maxLen; omega) hsz.symm ?_
  intro a m c w' F' hs' hu' hf'
  have hb' := hbW.upd hu' hbG
  have hb1 : w'.heap[b]? = some (.cells #[.slice va vn vc, .int .i64 (x.last + 1), .int .i64 x.room, .int .i64 x.tries, .int .i64 x.time] 61 (0, 0)) := hb'
  simp only [vc_reg_f, vc_reg_t, vc_seq, vc_cond, vc_block, vc_exit, vc_ret, vc_skip, vsteps_nil, chk_plain, chk_guard, eff_plain, eff_need, eff_guard, vIs_t, vIs_f, thenP, blockP, loopP, retP, holds, okG, segG, allG, X.gs, X.vc, Q.ok, segOk, segCells, ogv, E.val, isBool, push, prune, List.map, List.filterMap, List.lookup_cons, List.lookup_nil, env0, Nat.reduceBEq, Nat.reduceEqDiff, resL, tup, Bool.false_eq_true, if_false, if_true, Option.getD_some, Option.map_some, Option.isSome_some, true_and, and_true, decide_true, decide_false, forall_const, false_implies, implies_true, imp_self, List.append_toArray, List.size_toArray, List.length_cons, List.length_nil, Nat.reduceAdd, Nat.zero_add, List.toList_toArray, Value.ite_bool, Value.bool.injEq, exists_eq_left', exists_eq_left, Bool.if_true_left, Bool.if_false_right, Bool.or_eq_true, Bool.and_eq_true, Bool.or_eq_false_iff, Bool.and_eq_false_imp, decide_eq_true_eq, decide_eq_false_iff_not, Bool.not_eq_true', Bool.not_eq_false', Bool.not_true, Bool.not_false, Bool.true_eq_false, Option.some.injEq, not_true_eq_false, not_false_eq_true, List.nil_append, List.cons_append, Array.toList_append, List.append_nil, val_nilc, val_same, val_sz, val_off, val_conv, val_bnot, val_neg, val_lenS, val_lenL, val_fld, val_fld1, val_ext, val_load, val_load1, val_nilq_f, val_nilq_t, val_nils_f, val_nils_t, ok_nilc, ok_same, ok_sz, ok_off, ok_conv, ok_bnot, ok_neg, ok_lenS, ok_lenL, ok_fld, ok_fld1, ok_ext, ok_load, ok_load1, ok_nilq, ok_nils, val_ib_add, ok_ib_add, val_ib_sub, ok_ib_sub, val_ib_mul, ok_ib_mul, val_ib_quo, ok_ib_quo, val_ib_rem, ok_ib_rem, val_ib_and, ok_ib_and, val_ib_or, ok_ib_or, val_ib_xor, ok_ib_xor, val_ib_andNot, ok_ib_andNot, val_ib_eql, ok_ib_eql, val_ib_neq, ok_ib_neq, val_ib_lss, ok_ib_lss, val_ib_leq, ok_ib_leq, val_ib_gtr, ok_ib_gtr, val_ib_geq, ok_ib_geq, val_shl, val_shr, ok_sh, val_bb_f, val_bb_t, ok_bb, val_sb_add, ok_sb_add, val_sb_eql, ok_sb_eql, val_sb_neq, ok_sb_neq, val_sb_lss, ok_sb_lss, val_idxA, ok_idxA, val_idxP, ok_idxP, val_idxS, ok_idxS, val_idxV_t, val_idxV_f, ok_idxV_t, ok_idxV_f, val_max, val_min, ok_mm, val_app, ok_app, val_slS, ok_slS, val_slL, ok_slL, vBool_b, cells_int, cells_bool, cells_str, cells_ptr, cells_sl, cells_map, cells_agg, Option.isNone_some, Option.isNone_none, Option.isSome_none, Addr.add_lit, cell_at, cellOf_some, rd_at, heap_setRow_same, setObj_some, heap_alloc_same, heap_drew, World.size_alloc, World.size_drew, setRow_size, st_at, st_vc, splice, List.getElem?_cons_zero, List.getElem?_cons_succ, List.getElem?_toArray, List.take_succ_cons, List.take_zero, List.drop_succ_cons, List.drop_zero, List.take_nil, List.drop_nil, eq_self, Option.map_none, Nat.reduceLeDiff, Nat.reduceLT, stOf_some, rdOf_some, List.all_cons, List.all_nil, one_int, one_bool, one_str, one_ptr, one_sl, one_map, Bool.and_self, Bool.and_true, Bool.true_and, List.length_map, Nat.le_refl, Nat.lt_add_one, hb1]
  have hbF : b ∉ F' := fun h => (hf' b h).elim hbG fun h => by have := hbW.lt; omega
  have hs2 : Sl w' 52 17 (.slice a m c) (rowsOf (x.list ++ [⟨x.last + 1, idx, hd, 1, clock now + x.time⟩])) F' := hs'.inj (by simp [rowsOf, Asked.cells])
  refine ⟨b :: F', ⟨⟨_, F', hb'.set _, hs2.upd (Upd.setRow (F := [b]) List.mem_cons_self) (fun k hk => by simp; intro e; exact hbF (e ▸ hk)), hbF, rfl⟩, ?_⟩, ?_, ?_⟩
  · intro a ha
    rcases List.mem_append.1 ha with h | h
    · exact hheads a h
    · simp at h; subst h; exact hh
  · exact (hu0.trans (hu'.mono fun k _ hk => List.mem_cons_of_mem _ hk)).trans (Upd.setRow (by simp))
  · intro k hk
    rcases List.mem_cons.1 hk with rfl | hk
    · exact .inl (by simp)
    · rcases hf' k hk with h | h
      · exact .inl (List.mem_cons_of_mem _ h)
      · exact .inr (by omega)

def stepL (tries time c : Int) (x : Asked) : List Asked := if x.due > c then [x] else if x.sent > tries then [] else [{ x with sent := x.sent + 1, due := c + time }]
def stepA (tries time c : Int) (x : Asked) : List Asked := if x.due > c then [] else if x.sent > tries then [] else [{ x with sent := x.sent + 1, due := c + time }]
def stepG (tries c : Int) (x : Asked) : List Asked := if x.due > c then [] else if x.sent > tries then [x] else []
def leftF (tries time c : Int) (l : List Asked) : List Asked := l.flatMap (stepL tries time c)
def againF (tries time c : Int) (l : List Asked) : List Asked := l.flatMap (stepA tries time c)
def goneF (tries c : Int) (l : List Asked) : List Asked := l.flatMap (stepG tries c)

structure Fine (x : WaitS) : Prop where
  room : 1 ≤ x.room ∧ x.room ≤ 64
  tries : 0 ≤ x.tries ∧ x.tries ≤ 8
  time : 1 ≤ x.time ∧ x.time ≤ 1000
  len : x.list.length ≤ x.room
  sent : ∀ a ∈ x.list, 0 ≤ a.sent ∧ a.sent ≤ x.tries + 1

theorem rowsOf_append (a b : List Asked) : rowsOf (a ++ b) = rowsOf a ++ rowsOf b := by simp [rowsOf]
theorem rowsOf_one (a : Asked) : rowsOf [a] = a.cells := by simp [rowsOf]

/-- Three lists of the call's own, apart from one another. -/
structure TickInv (w : World) (lA lG lL : List Asked) (vA vG vL : Value) (FA FG FL : List Nat) (W : World) : Prop where
  a : Sl W 52 17 vA (rowsOf lA) FA
  g : Sl W 52 17 vG (rowsOf lG) FG
  l : Sl W 52 17 vL (rowsOf lL) FL
  fa : ∀ k ∈ FA, w.heap.size ≤ k
  fg : ∀ k ∈ FG, w.heap.size ≤ k
  fl : ∀ k ∈ FL, w.heap.size ≤ k
  ag : ∀ k ∈ FA, k ∉ FG
  al : ∀ k ∈ FA, k ∉ FL
  gl : ∀ k ∈ FG, k ∉ FL
  keep : Keep w W

section
variable {w W W' : World} {lA lG lL : List Asked} {vA vG vL v' : Value} {FA FG FL F' : List Nat} {y : Asked}
theorem TickInv.world (h : TickInv w lA lG lL vA vG vL FA FG FL W) (hu : Upd [] W W') : TickInv w lA lG lL vA vG vL FA FG FL W' :=
  ⟨h.a.upd hu (by simp), h.g.upd hu (by simp), h.l.upd hu (by simp), h.fa, h.fg, h.fl, h.ag, h.al, h.gl, h.keep.trans hu.keep⟩
theorem keep_fresh {F : List Nat} (hk : Keep w W) (hf : ∀ k ∈ F, w.heap.size ≤ k) (hu : Upd F W W') : Keep w W' :=
  ⟨Nat.le_trans hk.size hu.size, fun b hb => (hu.block b (Nat.lt_of_lt_of_le hb hk.size) (fun h => by have := hf b h; omega)).trans (hk.block b hb), hu.os.trans hk.os, hu.tape.trans hk.tape, hu.output.trans hk.output⟩
theorem TickInv.appL (h : TickInv w lA lG lL vA vG vL FA FG FL W) (hs : Sl W' 52 17 v' (rowsOf lL ++ y.cells) F') (hu : Upd FL W W') (hf : ∀ b ∈ F', b ∈ FL ∨ W.heap.size ≤ b) : TickInv w lA lG (lL ++ [y]) vA vG v' FA FG F' W' where
  a := h.a.upd hu h.al
  g := h.g.upd hu h.gl
  l := hs.inj (by rw [rowsOf_append, rowsOf_one])
  fa := h.fa
  fg := h.fg
  fl := fun k hk => (hf k hk).elim (h.fl k) fun e => Nat.le_trans h.keep.size e
  ag := h.ag
  al := fun k hk h2 => (hf k h2).elim (h.al k hk) fun e => by have := h.a.lt k hk; omega
  gl := fun k hk h2 => (hf k h2).elim (h.gl k hk) fun e => by have := h.g.lt k hk; omega
  keep := keep_fresh h.keep h.fl hu
theorem TickInv.appG (h : TickInv w lA lG lL vA vG vL FA FG FL W) (hs : Sl W' 52 17 v' (rowsOf lG ++ y.cells) F') (hu : Upd FG W W') (hf : ∀ b ∈ F', b ∈ FG ∨ W.heap.size ≤ b) : TickInv w lA (lG ++ [y]) lL vA v' vL FA F' FL W' where
  a := h.a.upd hu h.ag
  g := hs.inj (by rw [rowsOf_append, rowsOf_one])
  l := h.l.upd hu fun k hk h2 => h.gl k h2 hk
  fa := h.fa
  fg := fun k hk => (hf k hk).elim (h.fg k) fun e => Nat.le_trans h.keep.size e
  fl := h.fl
  ag := fun k hk h2 => (hf k h2).elim (h.ag k hk) fun e => by have := h.a.lt k hk; omega
  al := h.al
  gl := fun k hk h2 => (hf k hk).elim (fun e => h.gl k e h2) fun e => by have := h.l.lt k h2; omega
  keep := keep_fresh h.keep h.fg hu
theorem TickInv.appA (h : TickInv w lA lG lL vA vG vL FA FG FL W) (hs : Sl W' 52 17 v' (rowsOf lA ++ y.cells) F') (hu : Upd FA W W') (hf : ∀ b ∈ F', b ∈ FA ∨ W.heap.size ≤ b) : TickInv w (lA ++ [y]) lG lL v' vG vL F' FG FL W' where
  a := hs.inj (by rw [rowsOf_append, rowsOf_one])
  g := h.g.upd hu fun k hk h2 => h.ag k h2 hk
  l := h.l.upd hu fun k hk h2 => h.al k h2 hk
  fa := fun k hk => (hf k hk).elim (h.fa k) fun e => Nat.le_trans h.keep.size e
  fg := h.fg
  fl := h.fl
  ag := fun k hk h2 => (hf k hk).elim (fun e => h.ag k e h2) fun e => by have := h.g.lt k h2; omega
  al := fun k hk h2 => (hf k hk).elim (fun e => h.al k e h2) fun e => by have := h.l.lt k h2; omega
  gl := h.gl
  keep := keep_fresh h.keep h.fa hu
end

theorem againF_snoc (t m c : Int) (l : List Asked) (a : Asked) : againF t m c (l ++ [a]) = againF t m c l ++ stepA t m c a := by simp [againF]
theorem goneF_snoc (t c : Int) (l : List Asked) (a : Asked) : goneF t c (l ++ [a]) = goneF t c l ++ stepG t c a := by simp [goneF]
theorem leftF_snoc (t m c : Int) (l : List Asked) (a : Asked) : leftF t m c (l ++ [a]) = leftF t m c l ++ stepL t m c a := by simp [leftF]

theorem room_ok {n sz bytes : Nat} (h : n ≤ 100) (hs : sz = 17) (hb : bytes = 48) : (n * 17 + sz) * bytes ≤ 140737488355328 * sz ∧ n * 17 + sz ≤ maxLen := by
  subst hs; subst hb; unfold maxLen; omega

theorem againF_le (t m c : Int) (l : List Asked) : (againF t m c l).length ≤ l.length := by
  induction l with
  | nil => simp [againF]
  | cons a r ih =>
    simp only [againF, List.flatMap_cons, List.length_append, List.length_cons] at ih ⊢
    have : (stepA t m c a).length ≤ 1 := by unfold stepA; (repeat' split) <;> simp
    omega
theorem goneF_le (t c : Int) (l : List Asked) : (goneF t c l).length ≤ l.length := by
  induction l with
  | nil => simp [goneF]
  | cons a r ih =>
    simp only [goneF, List.flatMap_cons, List.length_append, List.length_cons] at ih ⊢
    have : (stepG t c a).length ≤ 1 := by unfold stepG; (repeat' split) <;> simp
    omega
theorem leftF_le (t m c : Int) (l : List Asked) : (leftF t m c l).length ≤ l.length := by
  induction l with
  | nil => simp [leftF]
  | cons a r ih =>
    simp only [leftF, List.flatMap_cons, List.length_append, List.length_cons] at ih ⊢
    have : (stepL t m c a).length ≤ 1 := by unfold stepL; (repeat' split) <;> simp
    omega
theorem step_heads {t m c : Int} {l : List Asked} (h : ∀ a ∈ l, a.head.length = 13) : (∀ a ∈ leftF t m c l, a.head.length = 13) ∧ (∀ a ∈ againF t m c l, a.head.length = 13) ∧ (∀ a ∈ goneF t c l, a.head.length = 13) := by
  refine ⟨?_, ?_, ?_⟩
  · intro a ha
    obtain ⟨y, hy, hya⟩ := List.mem_flatMap.1 ha
    have := h y hy
    unfold stepL at hya
    split at hya
    · simp at hya; rw [hya]; exact this
    · split at hya
      · simp at hya
      · simp at hya; rw [hya]; exact this
  · intro a ha
    obtain ⟨y, hy, hya⟩ := List.mem_flatMap.1 ha
    have := h y hy
    unfold stepA at hya
    split at hya
    · simp at hya
    · split at hya
      · simp at hya
      · simp at hya; rw [hya]; exact this
  · intro a ha
    obtain ⟨y, hy, hya⟩ := List.mem_flatMap.1 ha
    have := h y hy
    unfold stepG at hya
    split at hya
    · simp at hya
    · split at hya
      · simp at hya; rw [hya]; exact this
      · simp at hya

theorem tick14 (w : World) (b : Nat) (F : List Nat) (x : WaitS) (now : Int) (hw : WaitAt w b F x) (hf : Fine x) :
    Calls Try.prog 14 #[.pointer (some ⟨b, 0, none⟩), .int .i64 now] w fun en w' =>
      ∃ vA vG F' FA FG, en = .returned (.tuple #[vA, vG]) ∧ WaitAt w' b F' { x with list := leftF x.tries x.time (clock now) x.list } ∧ Upd F w w' ∧ (∀ b ∈ F', b ∈ F ∨ w.heap.size ≤ b) ∧
        Sl w' 52 17 vA (rowsOf (againF x.tries x.time (clock now) x.list)) FA ∧ Sl w' 52 17 vG (rowsOf (goneF x.tries (clock now) x.list)) FG ∧ (∀ b ∈ FA, w.heap.size ≤ b ∧ b ∉ F') ∧ (∀ b ∈ FG, w.heap.size ≤ b ∧ b ∉ F') := by
  obtain ⟨⟨v, G, hb, hs, hbG, rfl⟩, hheads⟩ := hw
  obtain ⟨va, vn, vc, rfl, hcs, hnc⟩ := hs.len
  have hlt := hb.lt
  have hb0 : w.heap[b]? = some (.cells #[.slice va vn vc, .int .i64 x.last, .int .i64 x.room, .int .i64 x.tries, .int .i64 x.time] 61 (0, 0)) := hb
  have hvn : vn = x.list.length := by rw [rows_len x.list hheads] at hcs; omega
  refine k14 ?_
  simp only [c14, vc_reg_f, vc_reg_t, vc_seq, vc_cond, vc_block, vc_exit, vc_ret, vc_skip, vsteps_nil, chk_plain, chk_guard, eff_plain, eff_need, eff_guard, vIs_t, vIs_f, thenP, blockP, loopP, retP, holds, okG, segG, allG, X.gs, X.vc, Q.ok, segOk, segCells, ogv, E.val, isBool, push, prune, List.map, List.filterMap, List.lookup_cons, List.lookup_nil, env0, Nat.reduceBEq, Nat.reduceEqDiff, resL, tup, Bool.false_eq_true, if_false, if_true, Option.getD_some, Option.map_some, Option.isSome_some, true_and, and_true, decide_true, decide_false, forall_const, false_implies, implies_true, imp_self, List.append_toArray, List.size_toArray, List.length_cons, List.length_nil, Nat.reduceAdd, Nat.zero_add, List.toList_toArray, Value.ite_bool, Value.bool.injEq, exists_eq_left', exists_eq_left, Bool.if_true_left, Bool.if_false_right, Bool.or_eq_true, Bool.and_eq_true, Bool.or_eq_false_iff, Bool.and_eq_false_imp, decide_eq_true_eq, decide_eq_false_iff_not, Bool.not_eq_true', Bool.not_eq_false', Bool.not_true, Bool.not_false, Bool.true_eq_false, Option.some.injEq, not_true_eq_false, not_false_eq_true, List.nil_append, List.cons_append, Array.toList_append, List.append_nil, val_nilc, val_same, val_sz, val_off, val_conv, val_bnot, val_neg, val_lenS, val_lenL, val_fld, val_fld1, val_ext, val_load, val_load1, val_nilq_f, val_nilq_t, val_nils_f, val_nils_t, ok_nilc, ok_same, ok_sz, ok_off, ok_conv, ok_bnot, ok_neg, ok_lenS, ok_lenL, ok_fld, ok_fld1, ok_ext, ok_load, ok_load1, ok_nilq, ok_nils, val_ib_add, ok_ib_add, val_ib_sub, ok_ib_sub, val_ib_mul, ok_ib_mul, val_ib_quo, ok_ib_quo, val_ib_rem, ok_ib_rem, val_ib_and, ok_ib_and, val_ib_or, ok_ib_or, val_ib_xor, ok_ib_xor, val_ib_andNot, ok_ib_andNot, val_ib_eql, ok_ib_eql, val_ib_neq, ok_ib_neq, val_ib_lss, ok_ib_lss, val_ib_leq, ok_ib_leq, val_ib_gtr, ok_ib_gtr, val_ib_geq, ok_ib_geq, val_shl, val_shr, ok_sh, val_bb_f, val_bb_t, ok_bb, val_sb_add, ok_sb_add, val_sb_eql, ok_sb_eql, val_sb_neq, ok_sb_neq, val_sb_lss, ok_sb_lss, val_idxA, ok_idxA, val_idxP, ok_idxP, val_idxS, ok_idxS, val_idxV_t, val_idxV_f, ok_idxV_t, ok_idxV_f, val_max, val_min, ok_mm, val_app, ok_app, val_slS, ok_slS, val_slL, ok_slL, vBool_b, cells_int, cells_bool, cells_str, cells_ptr, cells_sl, cells_map, cells_agg, Option.isNone_some, Option.isNone_none, Option.isSome_none, Addr.add_lit, cell_at, cellOf_some, rd_at, heap_setRow_same, setObj_some, heap_alloc_same, heap_drew, World.size_alloc, World.size_drew, setRow_size, st_at, st_vc, splice, List.getElem?_cons_zero, List.getElem?_cons_succ, List.getElem?_toArray, List.take_succ_cons, List.take_zero, List.drop_succ_cons, List.drop_zero, List.take_nil, List.drop_nil, eq_self, Option.map_none, Nat.reduceLeDiff, Nat.reduceLT, stOf_some, rdOf_some, List.all_cons, List.all_nil, one_int, one_bool, one_str, one_ptr, one_sl, one_map, Bool.and_self, Bool.and_true, Bool.true_and, List.length_map, Nat.le_refl, Nat.lt_add_one, hb0]
  have hle : x.list.length ≤ 64 := by have := hf.len; have := hf.room; omega
  refine vc_loop (ι := Nat × Value × Value × Value) (fun i => [(0, .pointer (some ⟨b, 0, none⟩)), (1, .int .i64 now), (4, .slice none 0 0), (5, .slice none 0 0), (6, i.2.1), (7, i.2.2.1), (8, i.2.2.2), (16, .slice va vn vc), (17, .int .i64 vn), (18, .int .i64 i.1)])
    (fun i W => i.1 ≤ vn ∧ ∃ FA FG FL, TickInv w (againF x.tries x.time (clock now) (x.list.take i.1)) (goneF x.tries (clock now) (x.list.take i.1)) (leftF x.tries x.time (clock now) (x.list.take i.1)) i.2.1 i.2.2.1 i.2.2.2 FA FG FL W)
    (fun i => vn - i.1) (0, .slice none 0 0, .slice none 0 0, .slice none 0 0) (by simp only [vc_reg_f, vc_reg_t, vc_seq, vc_cond, vc_block, vc_exit, vc_ret, vc_skip, vsteps_nil, chk_plain, chk_guard, eff_plain, eff_need, eff_guard, vIs_t, vIs_f, thenP, blockP, loopP, retP, holds, okG, segG, allG, X.gs, X.vc, Q.ok, segOk, segCells, ogv, E.val, isBool, push, prune, List.map, List.filterMap, List.lookup_cons, List.lookup_nil, env0, Nat.reduceBEq, Nat.reduceEqDiff, resL, tup, Bool.false_eq_true, if_false, if_true, Option.getD_some, Option.map_some, Option.isSome_some, true_and, and_true, decide_true, decide_false, forall_const, false_implies, implies_true, imp_self, List.append_toArray, List.size_toArray, List.length_cons, List.length_nil, Nat.reduceAdd, Nat.zero_add, List.toList_toArray, Value.ite_bool, Value.bool.injEq, exists_eq_left', exists_eq_left, Bool.if_true_left, Bool.if_false_right, Bool.or_eq_true, Bool.and_eq_true, Bool.or_eq_false_iff, Bool.and_eq_false_imp, decide_eq_true_eq, decide_eq_false_iff_not, Bool.not_eq_true', Bool.not_eq_false', Bool.not_true, Bool.not_false, Bool.true_eq_false, Option.some.injEq, not_true_eq_false, not_false_eq_true, List.nil_append, List.cons_append, Array.toList_append, List.append_nil, val_nilc, val_same, val_sz, val_off, val_conv, val_bnot, val_neg, val_lenS, val_lenL, val_fld, val_fld1, val_ext, val_load, val_load1, val_nilq_f, val_nilq_t, val_nils_f, val_nils_t, ok_nilc, ok_same, ok_sz, ok_off, ok_conv, ok_bnot, ok_neg, ok_lenS, ok_lenL, ok_fld, ok_fld1, ok_ext, ok_load, ok_load1, ok_nilq, ok_nils, val_ib_add, ok_ib_add, val_ib_sub, ok_ib_sub, val_ib_mul, ok_ib_mul, val_ib_quo, ok_ib_quo, val_ib_rem, ok_ib_rem, val_ib_and, ok_ib_and, val_ib_or, ok_ib_or, val_ib_xor, ok_ib_xor, val_ib_andNot, ok_ib_andNot, val_ib_eql, ok_ib_eql, val_ib_neq, ok_ib_neq, val_ib_lss, ok_ib_lss, val_ib_leq, ok_ib_leq, val_ib_gtr, ok_ib_gtr, val_ib_geq, ok_ib_geq, val_shl, val_shr, ok_sh, val_bb_f, val_bb_t, ok_bb, val_sb_add, ok_sb_add, val_sb_eql, ok_sb_eql, val_sb_neq, ok_sb_neq, val_sb_lss, ok_sb_lss, val_idxA, ok_idxA, val_idxP, ok_idxP, val_idxS, ok_idxS, val_idxV_t, val_idxV_f, ok_idxV_t, ok_idxV_f, val_max, val_min, ok_mm, val_app, ok_app, val_slS, ok_slS, val_slL, ok_slL, vBool_b, cells_int, cells_bool, cells_str, cells_ptr, cells_sl, cells_map, cells_agg, Option.isNone_some, Option.isNone_none, Option.isSome_none, Addr.add_lit, cell_at, cellOf_some, rd_at, heap_setRow_same, setObj_some, heap_alloc_same, heap_drew, World.size_alloc, World.size_drew, setRow_size, st_at, st_vc, splice, List.getElem?_cons_zero, List.getElem?_cons_succ, List.getElem?_toArray, List.take_succ_cons, List.take_zero, List.drop_succ_cons, List.drop_zero, List.take_nil, List.drop_nil, eq_self, Option.map_none, Nat.reduceLeDiff, Nat.reduceLT, stOf_some, rdOf_some, List.all_cons, List.all_nil, one_int, one_bool, one_str, one_ptr, one_sl, one_map, Bool.and_self, Bool.and_true, Bool.true_and, List.length_map, Nat.le_refl, Nat.lt_add_one]; rfl) ?_ ?_ ?_
  · exact ⟨Nat.zero_le _, [], [], [], Sl.nil _ _ _, Sl.nil _ _ _, Sl.nil _ _ _, by simp, by simp, by simp, by simp, by simp, by simp, Keep.refl _⟩
  · intro i j h
    simp at h
    obtain ⟨_, _, _, h⟩ := h
    omega
  rintro ⟨k, vA, vG, vL⟩ W ⟨hk, FA, FG, FL, hinv⟩
  dsimp only at hk hinv ⊢
  have hkeep := hinv.keep
  have hbW := hb.keep hkeep
  have hbW0 : W.heap[b]? = some (.cells #[.slice va vn vc, .int .i64 x.last, .int .i64 x.room, .int .i64 x.tries, .int .i64 x.time] 61 (0, 0)) := hbW
  have hsW := hs.upd (Upd.of_keep (F := []) hkeep) (by simp)
  by_cases hkn : k < vn
  · obtain ⟨g, n', cap', c, hv, hn', hg, hgs, hrow⟩ := sl_row hsW hheads (k := k) (by omega)
    cases hv
    have hkl : k < x.list.length := by omega
    have hx := hheads x.list[k] (List.getElem_mem _)
    have hgW : g < W.heap.size := (Array.getElem?_eq_some_iff.1 hg).1
    have e1 : ((k : Int) < (vn : Int)) = True := eq_true (by omega)
    have e2 : (0 ≤ (k : Int)) = True := eq_true (by omega)
    have e3 : ((k : Int).toNat) = k := by omega
    have e4 : IntKind.i64.wrap ((k : Int) + 1) = ((k + 1 : Nat) : Int) := by rw [wrap_i64 (by omega)]; omega
    simp only [vc_reg_f, vc_reg_t, vc_seq, vc_cond, vc_block, vc_exit, vc_ret, vc_skip, vsteps_nil, chk_plain, chk_guard, eff_plain, eff_need, eff_guard, vIs_t, vIs_f, thenP, blockP, loopP, retP, holds, okG, segG, allG, X.gs, X.vc, Q.ok, segOk, segCells, ogv, E.val, isBool, push, prune, List.map, List.filterMap, List.lookup_cons, List.lookup_nil, env0, Nat.reduceBEq, Nat.reduceEqDiff, resL, tup, Bool.false_eq_true, if_false, if_true, Option.getD_some, Option.map_some, Option.isSome_some, true_and, and_true, decide_true, decide_false, forall_const, false_implies, implies_true, imp_self, List.append_toArray, List.size_toArray, List.length_cons, List.length_nil, Nat.reduceAdd, Nat.zero_add, List.toList_toArray, Value.ite_bool, Value.bool.injEq, exists_eq_left', exists_eq_left, Bool.if_true_left, Bool.if_false_right, Bool.or_eq_true, Bool.and_eq_true, Bool.or_eq_false_iff, Bool.and_eq_false_imp, decide_eq_true_eq, decide_eq_false_iff_not, Bool.not_eq_true', Bool.not_eq_false', Bool.not_true, Bool.not_false, Bool.true_eq_false, Option.some.injEq, not_true_eq_false, not_false_eq_true, List.nil_append, List.cons_append, Array.toList_append, List.append_nil, val_nilc, val_same, val_sz, val_off, val_conv, val_bnot, val_neg, val_lenS, val_lenL, val_fld, val_fld1, val_ext, val_load, val_load1, val_nilq_f, val_nilq_t, val_nils_f, val_nils_t, ok_nilc, ok_same, ok_sz, ok_off, ok_conv, ok_bnot, ok_neg, ok_lenS, ok_lenL, ok_fld, ok_fld1, ok_ext, ok_load, ok_load1, ok_nilq, ok_nils, val_ib_add, ok_ib_add, val_ib_sub, ok_ib_sub, val_ib_mul, ok_ib_mul, val_ib_quo, ok_ib_quo, val_ib_rem, ok_ib_rem, val_ib_and, ok_ib_and, val_ib_or, ok_ib_or, val_ib_xor, ok_ib_xor, val_ib_andNot, ok_ib_andNot, val_ib_eql, ok_ib_eql, val_ib_neq, ok_ib_neq, val_ib_lss, ok_ib_lss, val_ib_leq, ok_ib_leq, val_ib_gtr, ok_ib_gtr, val_ib_geq, ok_ib_geq, val_shl, val_shr, ok_sh, val_bb_f, val_bb_t, ok_bb, val_sb_add, ok_sb_add, val_sb_eql, ok_sb_eql, val_sb_neq, ok_sb_neq, val_sb_lss, ok_sb_lss, val_idxA, ok_idxA, val_idxP, ok_idxP, val_idxS, ok_idxS, val_idxV_t, val_idxV_f, ok_idxV_t, ok_idxV_f, val_max, val_min, ok_mm, val_app, ok_app, val_slS, ok_slS, val_slL, ok_slL, vBool_b, cells_int, cells_bool, cells_str, cells_ptr, cells_sl, cells_map, cells_agg, Option.isNone_some, Option.isNone_none, Option.isSome_none, Addr.add_lit, cell_at, cellOf_some, rd_at, heap_setRow_same, setObj_some, heap_alloc_same, heap_drew, World.size_alloc, World.size_drew, setRow_size, st_at, st_vc, splice, List.getElem?_cons_zero, List.getElem?_cons_succ, List.getElem?_toArray, List.take_succ_cons, List.take_zero, List.drop_succ_cons, List.drop_zero, List.take_nil, List.drop_nil, eq_self, Option.map_none, Nat.reduceLeDiff, Nat.reduceLT, stOf_some, rdOf_some, List.all_cons, List.all_nil, one_int, one_bool, one_str, one_ptr, one_sl, one_map, Bool.and_self, Bool.and_true, Bool.true_and, List.length_map, Nat.le_refl, Nat.lt_add_one, e1, e2, e3, e4, hg, hgs, hrow, cells_len hx, cells_all, cells_15 hx, cells_16 hx, splice_all, heap_alloc_lt hgW]
    refine ⟨hgW, ?_⟩
    have htake : x.list.take (k + 1) = x.list.take k ++ [x.list[k]] := List.take_succ_eq_append_getElem hkl
    have hx1 := ((Blk.new W 52 #[.int .i64 0, .int .i64 0, .int .u8 0, .int .u8 0, .int .u8 0, .int .u8 0, .int .u8 0, .int .u8 0, .int .u8 0, .int .u8 0, .int .u8 0, .int .u8 0, .int .u8 0, .int .u8 0, .int .u8 0, .int .i64 0, .int .i64 0]).set x.list[k].cells.toArray).drew
    have hu1 : Upd [] W (((W.alloc (.cells #[.int .i64 0, .int .i64 0, .int .u8 0, .int .u8 0, .int .u8 0, .int .u8 0, .int .u8 0, .int .u8 0, .int .u8 0, .int .u8 0, .int .u8 0, .int .u8 0, .int .u8 0, .int .u8 0, .int .u8 0, .int .i64 0, .int .i64 0] 52)).setRow W.heap.size x.list[k].cells.toArray).drew) :=
      ((Upd.alloc [] W _).setNew (Nat.le_refl _)).trans (Upd.drew _ _)
    have hz1 : (((W.alloc (.cells #[.int .i64 0, .int .i64 0, .int .u8 0, .int .u8 0, .int .u8 0, .int .u8 0, .int .u8 0, .int .u8 0, .int .u8 0, .int .u8 0, .int .u8 0, .int .u8 0, .int .u8 0, .int .u8 0, .int .u8 0, .int .i64 0, .int .i64 0] 52)).setRow W.heap.size x.list[k].cells.toArray).drew).heap.size = W.heap.size + 1 := by simp
    generalize (((W.alloc (.cells #[.int .i64 0, .int .i64 0, .int .u8 0, .int .u8 0, .int .u8 0, .int .u8 0, .int .u8 0, .int .u8 0, .int .u8 0, .int .u8 0, .int .u8 0, .int .u8 0, .int .u8 0, .int .u8 0, .int .u8 0, .int .i64 0, .int .i64 0] 52)).setRow W.heap.size x.list[k].cells.toArray).drew) = W1 at hx1 hu1 hz1 ⊢
    have hinv1 := hinv.world hu1
    have hb1 := hbW.upd hu1 (by simp)
    have hx10 : W1.heap[W.heap.size]? = some (.cells x.list[k].cells.toArray 52 (0, 0)) := hx1
    have hb10 : W1.heap[b]? = some (.cells #[.slice (some ⟨g, 0, none⟩) vn vc, .int .i64 x.last, .int .i64 x.room, .int .i64 x.tries, .int .i64 x.time] 61 (0, 0)) := hb1
    have hlt1 : (W.heap.size < W1.heap.size) = True := eq_true (by omega)
    have htk : List.take 17 x.list[k].cells = x.list[k].cells := List.take_of_length_le (by rw [cells_len hx]; omega)
    have hbg : b ≠ W.heap.size := by have := hbW.lt; omega
    refine Calls.mono (tick_any now _) ?_
    rintro en w' ⟨rfl, rfl⟩
    refine ⟨_, rfl, Keep.refl _, ?_⟩
    have hsr := hf.sent x.list[k] (List.getElem_mem _)
    have htr := hf.tries
    have e5 : IntKind.i64.wrap (x.list[k].sent + 1) = x.list[k].sent + 1 := wrap_i64 (by omega)
    simp only [vc_reg_f, vc_reg_t, vc_seq, vc_cond, vc_block, vc_exit, vc_ret, vc_skip, vsteps_nil, chk_plain, chk_guard, eff_plain, eff_need, eff_guard, vIs_t, vIs_f, thenP, blockP, loopP, retP, holds, okG, segG, allG, X.gs, X.vc, Q.ok, segOk, segCells, ogv, E.val, isBool, push, prune, List.map, List.filterMap, List.lookup_cons, List.lookup_nil, env0, Nat.reduceBEq, Nat.reduceEqDiff, resL, tup, Bool.false_eq_true, if_false, if_true, Option.getD_some, Option.map_some, Option.isSome_some, true_and, and_true, decide_true, decide_false, forall_const, false_implies, implies_true, imp_self, List.append_toArray, List.size_toArray, List.length_cons, List.length_nil, Nat.reduceAdd, Nat.zero_add, List.toList_toArray, Value.ite_bool, Value.bool.injEq, exists_eq_left', exists_eq_left, Bool.if_true_left, Bool.if_false_right, Bool.or_eq_true, Bool.and_eq_true, Bool.or_eq_false_iff, Bool.and_eq_false_imp, decide_eq_true_eq, decide_eq_false_iff_not, Bool.not_eq_true', Bool.not_eq_false', Bool.not_true, Bool.not_false, Bool.true_eq_false, Option.some.injEq, not_true_eq_false, not_false_eq_true, List.nil_append, List.cons_append, Array.toList_append, List.append_nil, val_nilc, val_same, val_sz, val_off, val_conv, val_bnot, val_neg, val_lenS, val_lenL, val_fld, val_fld1, val_ext, val_load, val_load1, val_nilq_f, val_nilq_t, val_nils_f, val_nils_t, ok_nilc, ok_same, ok_sz, ok_off, ok_conv, ok_bnot, ok_neg, ok_lenS, ok_lenL, ok_fld, ok_fld1, ok_ext, ok_load, ok_load1, ok_nilq, ok_nils, val_ib_add, ok_ib_add, val_ib_sub, ok_ib_sub, val_ib_mul, ok_ib_mul, val_ib_quo, ok_ib_quo, val_ib_rem, ok_ib_rem, val_ib_and, ok_ib_and, val_ib_or, ok_ib_or, val_ib_xor, ok_ib_xor, val_ib_andNot, ok_ib_andNot, val_ib_eql, ok_ib_eql, val_ib_neq, ok_ib_neq, val_ib_lss, ok_ib_lss, val_ib_leq, ok_ib_leq, val_ib_gtr, ok_ib_gtr, val_ib_geq, ok_ib_geq, val_shl, val_shr, ok_sh, val_bb_f, val_bb_t, ok_bb, val_sb_add, ok_sb_add, val_sb_eql, ok_sb_eql, val_sb_neq, ok_sb_neq, val_sb_lss, ok_sb_lss, val_idxA, ok_idxA, val_idxP, ok_idxP, val_idxS, ok_idxS, val_idxV_t, val_idxV_f, ok_idxV_t, ok_idxV_f, val_max, val_min, ok_mm, val_app, ok_app, val_slS, ok_slS, val_slL, ok_slL, vBool_b, cells_int, cells_bool, cells_str, cells_ptr, cells_sl, cells_map, cells_agg, Option.isNone_some, Option.isNone_none, Option.isSome_none, Addr.add_lit, cell_at, cellOf_some, rd_at, heap_setRow_same, setObj_some, heap_alloc_same, heap_drew, World.size_alloc, World.size_drew, setRow_size, st_at, st_vc, List.getElem?_cons_zero, List.getElem?_cons_succ, List.getElem?_toArray, List.take_succ_cons, List.take_zero, List.drop_succ_cons, List.drop_zero, List.take_nil, List.drop_nil, eq_self, Option.map_none, Nat.reduceLeDiff, Nat.reduceLT, stOf_some, rdOf_some, List.all_cons, List.all_nil, one_int, one_bool, one_str, one_ptr, one_sl, one_map, Bool.and_self, Bool.and_true, Bool.true_and, List.length_map, Nat.le_refl, Nat.lt_add_one, hx10, hb10, hlt1, htk, cells_len hx, cells_all, cells_15 hx, cells_16 hx, cells_set15 hx, heap_setRow_ne hbg, e5]
    obtain ⟨i, z, hi, hz, hsi, hby, hzs⟩ := Try.info52
    have hlenk : (x.list.take k).length ≤ 64 := by simp; omega
    have hhk : ∀ a ∈ x.list.take k, a.head.length = 13 := fun a ha => hheads a (List.mem_of_mem_take ha)
    obtain ⟨hh1, hh2, hh3⟩ := step_heads (t := x.tries) (m := x.time) (c := clock now) hhk
    have r1 := room_ok (n := (leftF x.tries x.time (clock now) (x.list.take k)).length) (sz := 17) (bytes := 48) (by have := leftF_le x.tries x.time (clock now) (x.list.take k); omega) rfl rfl
    have r2 := room_ok (n := (goneF x.tries (clock now) (x.list.take k)).length) (sz := 17) (bytes := 48) (by have := goneF_le x.tries (clock now) (x.list.take k); omega) rfl rfl
    have r3 := room_ok (n := (againF x.tries x.time (clock now) (x.list.take k)).length) (sz := 17) (bytes := 48) (by have := againF_le x.tries x.time (clock now) (x.list.take k); omega) rfl rfl
    rw [← rows_len _ hh1] at r1
    rw [← rows_len _ hh3] at r2
    rw [← rows_len _ hh2] at r3
    refine ⟨fun hdue => ?_, fun hdue => ⟨fun hsn => ?_, fun hsn => ?_⟩⟩
    · refine ranTo_append rfl rfl (append1 Try.underlying31 hi hz hsi hby hzs (by omega) hinv1.l (cells_len hx) cells_one r1.1 r1.2 rfl ?_)
      intro a m c' w2 FL' hs' hu' hf'
      refine ⟨(k + 1, vA, vG, .slice a m c'), rfl, ⟨by omega, FA, FG, FL', ?_⟩, by omega⟩
      have := hinv1.appL hs' hu' hf'
      dsimp only
      rw [htake, againF_snoc, goneF_snoc, leftF_snoc]
      simp only [stepA, stepG, stepL, if_pos (show x.list[k].due > clock now from hdue), List.append_nil]
      exact this
    · refine ranTo_append rfl rfl (append1 Try.underlying31 hi hz hsi hby hzs (by omega) (hinv1.world (Upd.drew [] _)).g (cells_len hx) cells_one r2.1 r2.2 rfl ?_)
      intro a m c' w2 FG' hs' hu' hf'
      refine ⟨(k + 1, vA, .slice a m c', vL), rfl, ⟨by omega, FA, FG', FL, ?_⟩, by omega⟩
      have := (hinv1.world (Upd.drew [] _)).appG hs' hu' hf'
      dsimp only
      rw [htake, againF_snoc, goneF_snoc, leftF_snoc]
      simp only [stepA, stepG, stepL, if_neg (show ¬ x.list[k].due > clock now from hdue), if_pos hsn, List.append_nil]
      exact this
    · refine Calls.mono (tick_any now _) ?_
      rintro en w2 ⟨rfl, rfl⟩
      refine ⟨_, rfl, Keep.refl _, ?_⟩
      have hy1 : (⟨x.list[k].seq, x.list[k].idx, x.list[k].head, x.list[k].sent + 1, x.list[k].due⟩ : Asked).head.length = 13 := hx
      have hy2 : (⟨x.list[k].seq, x.list[k].idx, x.list[k].head, x.list[k].sent + 1, clock now + x.time⟩ : Asked).head.length = 13 := hx
      have hx2 := (hx1.drew.set (⟨x.list[k].seq, x.list[k].idx, x.list[k].head, x.list[k].sent + 1, x.list[k].due⟩ : Asked).cells.toArray).drew
      have hx20 : ((w'.drew.setRow W.heap.size (⟨x.list[k].seq, x.list[k].idx, x.list[k].head, x.list[k].sent + 1, x.list[k].due⟩ : Asked).cells.toArray).drew).heap[W.heap.size]? = some (.cells (⟨x.list[k].seq, x.list[k].idx, x.list[k].head, x.list[k].sent + 1, x.list[k].due⟩ : Asked).cells.toArray 52 (0, 0)) := hx2
      have htm := hf.time
      have e6 : IntKind.i64.wrap (max 0 (min now 1099511627776) + x.time) = clock now + x.time := wrap_i64 (by omega)
      have hu3 : Upd [] W (((w'.drew.setRow W.heap.size (⟨x.list[k].seq, x.list[k].idx, x.list[k].head, x.list[k].sent + 1, x.list[k].due⟩ : Asked).cells.toArray).drew).setRow W.heap.size (⟨x.list[k].seq, x.list[k].idx, x.list[k].head, x.list[k].sent + 1, clock now + x.time⟩ : Asked).cells.toArray) :=
        (((hu1.trans (Upd.drew _ _)).setNew (Nat.le_refl _)).trans (Upd.drew _ _)).setNew (Nat.le_refl _)
      have hx3 := hx2.set (⟨x.list[k].seq, x.list[k].idx, x.list[k].head, x.list[k].sent + 1, clock now + x.time⟩ : Asked).cells.toArray
      have hz3 : (((w'.drew.setRow W.heap.size (⟨x.list[k].seq, x.list[k].idx, x.list[k].head, x.list[k].sent + 1, x.list[k].due⟩ : Asked).cells.toArray).drew).setRow W.heap.size (⟨x.list[k].seq, x.list[k].idx, x.list[k].head, x.list[k].sent + 1, clock now + x.time⟩ : Asked).cells.toArray).heap.size = W.heap.size + 1 := by simp [hz1]
      have htk2 : List.take 17 (⟨x.list[k].seq, x.list[k].idx, x.list[k].head, x.list[k].sent + 1, clock now + x.time⟩ : Asked).cells = (⟨x.list[k].seq, x.list[k].idx, x.list[k].head, x.list[k].sent + 1, clock now + x.time⟩ : Asked).cells := List.take_of_length_le (by rw [cells_len hy2]; omega)
      simp only [vc_reg_f, vc_reg_t, vc_seq, vc_cond, vc_block, vc_exit, vc_ret, vc_skip, vsteps_nil, chk_plain, chk_guard, eff_plain, eff_need, eff_guard, vIs_t, vIs_f, thenP, blockP, loopP, retP, holds, okG, segG, allG, X.gs, X.vc, Q.ok, segOk, segCells, ogv, E.val, isBool, push, prune, List.map, List.filterMap, List.lookup_cons, List.lookup_nil, env0, Nat.reduceBEq, Nat.reduceEqDiff, resL, tup, Bool.false_eq_true, if_false, if_true, Option.getD_some, Option.map_some, Option.isSome_some, true_and, and_true, decide_true, decide_false, forall_const, false_implies, implies_true, imp_self, List.append_toArray, List.size_toArray, List.length_cons, List.length_nil, Nat.reduceAdd, Nat.zero_add, List.toList_toArray, Value.ite_bool, Value.bool.injEq, exists_eq_left', exists_eq_left, Bool.if_true_left, Bool.if_false_right, Bool.or_eq_true, Bool.and_eq_true, Bool.or_eq_false_iff, Bool.and_eq_false_imp, decide_eq_true_eq, decide_eq_false_iff_not, Bool.not_eq_true', Bool.not_eq_false', Bool.not_true, Bool.not_false, Bool.true_eq_false, Option.some.injEq, not_true_eq_false, not_false_eq_true, List.nil_append, List.cons_append, Array.toList_append, List.append_nil, val_nilc, val_same, val_sz, val_off, val_conv, val_bnot, val_neg, val_lenS, val_lenL, val_fld, val_fld1, val_ext, val_load, val_load1, val_nilq_f, val_nilq_t, val_nils_f, val_nils_t, ok_nilc, ok_same, ok_sz, ok_off, ok_conv, ok_bnot, ok_neg, ok_lenS, ok_lenL, ok_fld, ok_fld1, ok_ext, ok_load, ok_load1, ok_nilq, ok_nils, val_ib_add, ok_ib_add, val_ib_sub, ok_ib_sub, val_ib_mul, ok_ib_mul, val_ib_quo, ok_ib_quo, val_ib_rem, ok_ib_rem, val_ib_and, ok_ib_and, val_ib_or, ok_ib_or, val_ib_xor, ok_ib_xor, val_ib_andNot, ok_ib_andNot, val_ib_eql, ok_ib_eql, val_ib_neq, ok_ib_neq, val_ib_lss, ok_ib_lss, val_ib_leq, ok_ib_leq, val_ib_gtr, ok_ib_gtr, val_ib_geq, ok_ib_geq, val_shl, val_shr, ok_sh, val_bb_f, val_bb_t, ok_bb, val_sb_add, ok_sb_add, val_sb_eql, ok_sb_eql, val_sb_neq, ok_sb_neq, val_sb_lss, ok_sb_lss, val_idxA, ok_idxA, val_idxP, ok_idxP, val_idxS, ok_idxS, val_idxV_t, val_idxV_f, ok_idxV_t, ok_idxV_f, val_max, val_min, ok_mm, val_app, ok_app, val_slS, ok_slS, val_slL, ok_slL, vBool_b, cells_int, cells_bool, cells_str, cells_ptr, cells_sl, cells_map, cells_agg, Option.isNone_some, Option.isNone_none, Option.isSome_none, Addr.add_lit, cell_at, cellOf_some, rd_at, heap_setRow_same, setObj_some, heap_alloc_same, heap_drew, World.size_alloc, World.size_drew, setRow_size, st_at, st_vc, List.getElem?_cons_zero, List.getElem?_cons_succ, List.getElem?_toArray, List.take_succ_cons, List.take_zero, List.drop_succ_cons, List.drop_zero, List.take_nil, List.drop_nil, eq_self, Option.map_none, Nat.reduceLeDiff, Nat.reduceLT, stOf_some, rdOf_some, List.all_cons, List.all_nil, one_int, one_bool, one_str, one_ptr, one_sl, one_map, Bool.and_self, Bool.and_true, Bool.true_and, List.length_map, Nat.le_refl, Nat.lt_add_one, hx10, hlt1, htk2, cells_len hy1, cells_len hy2, cells_all, cells_set16 hy1, e6]
      generalize (((w'.drew.setRow W.heap.size (⟨x.list[k].seq, x.list[k].idx, x.list[k].head, x.list[k].sent + 1, x.list[k].due⟩ : Asked).cells.toArray).drew).setRow W.heap.size (⟨x.list[k].seq, x.list[k].idx, x.list[k].head, x.list[k].sent + 1, clock now + x.time⟩ : Asked).cells.toArray) = W3 at hu3 hx3 hz3 ⊢
      have hinv3 := hinv.world hu3
      have hx30 : W3.heap[W.heap.size]? = some (.cells (⟨x.list[k].seq, x.list[k].idx, x.list[k].head, x.list[k].sent + 1, clock now + x.time⟩ : Asked).cells.toArray 52 (0, 0)) := hx3
      have hlt3 : (W.heap.size < W3.heap.size) = True := eq_true (by omega)
      refine ranTo_append rfl rfl (append1 Try.underlying31 hi hz hsi hby hzs (by omega) hinv3.a (cells_len hy2) cells_one r3.1 r3.2 (by omega) ?_)
      intro a m c' w4 FA' hs' hu' hf'
      have hinv4 := hinv3.appA hs' hu' hf'
      have hx4 := hx3.upd hu' (fun h => by have := hinv.a.lt _ h; omega)
      have hx40 : w4.heap[W.heap.size]? = some (.cells (⟨x.list[k].seq, x.list[k].idx, x.list[k].head, x.list[k].sent + 1, clock now + x.time⟩ : Asked).cells.toArray 52 (0, 0)) := hx4
      have hlt4 : (W.heap.size < w4.heap.size) = True := eq_true (hx4.lt)
      simp only [vc_reg_f, vc_reg_t, vc_seq, vc_cond, vc_block, vc_exit, vc_ret, vc_skip, vsteps_nil, chk_plain, chk_guard, eff_plain, eff_need, eff_guard, vIs_t, vIs_f, thenP, blockP, loopP, retP, holds, okG, segG, allG, X.gs, X.vc, Q.ok, segOk, segCells, ogv, E.val, isBool, push, prune, List.map, List.filterMap, List.lookup_cons, List.lookup_nil, env0, Nat.reduceBEq, Nat.reduceEqDiff, resL, tup, Bool.false_eq_true, if_false, if_true, Option.getD_some, Option.map_some, Option.isSome_some, true_and, and_true, decide_true, decide_false, forall_const, false_implies, implies_true, imp_self, List.append_toArray, List.size_toArray, List.length_cons, List.length_nil, Nat.reduceAdd, Nat.zero_add, List.toList_toArray, Value.ite_bool, Value.bool.injEq, exists_eq_left', exists_eq_left, Bool.if_true_left, Bool.if_false_right, Bool.or_eq_true, Bool.and_eq_true, Bool.or_eq_false_iff, Bool.and_eq_false_imp, decide_eq_true_eq, decide_eq_false_iff_not, Bool.not_eq_true', Bool.not_eq_false', Bool.not_true, Bool.not_false, Bool.true_eq_false, Option.some.injEq, not_true_eq_false, not_false_eq_true, List.nil_append, List.cons_append, Array.toList_append, List.append_nil, val_nilc, val_same, val_sz, val_off, val_conv, val_bnot, val_neg, val_lenS, val_lenL, val_fld, val_fld1, val_ext, val_load, val_load1, val_nilq_f, val_nilq_t, val_nils_f, val_nils_t, ok_nilc, ok_same, ok_sz, ok_off, ok_conv, ok_bnot, ok_neg, ok_lenS, ok_lenL, ok_fld, ok_fld1, ok_ext, ok_load, ok_load1, ok_nilq, ok_nils, val_ib_add, ok_ib_add, val_ib_sub, ok_ib_sub, val_ib_mul, ok_ib_mul, val_ib_quo, ok_ib_quo, val_ib_rem, ok_ib_rem, val_ib_and, ok_ib_and, val_ib_or, ok_ib_or, val_ib_xor, ok_ib_xor, val_ib_andNot, ok_ib_andNot, val_ib_eql, ok_ib_eql, val_ib_neq, ok_ib_neq, val_ib_lss, ok_ib_lss, val_ib_leq, ok_ib_leq, val_ib_gtr, ok_ib_gtr, val_ib_geq, ok_ib_geq, val_shl, val_shr, ok_sh, val_bb_f, val_bb_t, ok_bb, val_sb_add, ok_sb_add, val_sb_eql, ok_sb_eql, val_sb_neq, ok_sb_neq, val_sb_lss, ok_sb_lss, val_idxA, ok_idxA, val_idxP, ok_idxP, val_idxS, ok_idxS, val_idxV_t, val_idxV_f, ok_idxV_t, ok_idxV_f, val_max, val_min, ok_mm, val_app, ok_app, val_slS, ok_slS, val_slL, ok_slL, vBool_b, cells_int, cells_bool, cells_str, cells_ptr, cells_sl, cells_map, cells_agg, Option.isNone_some, Option.isNone_none, Option.isSome_none, Addr.add_lit, cell_at, cellOf_some, rd_at, heap_setRow_same, setObj_some, heap_alloc_same, heap_drew, World.size_alloc, World.size_drew, setRow_size, st_at, st_vc, List.getElem?_cons_zero, List.getElem?_cons_succ, List.getElem?_toArray, List.take_succ_cons, List.take_zero, List.drop_succ_cons, List.drop_zero, List.take_nil, List.drop_nil, eq_self, Option.map_none, Nat.reduceLeDiff, Nat.reduceLT, stOf_some, rdOf_some, List.all_cons, List.all_nil, one_int, one_bool, one_str, one_ptr, one_sl, one_map, Bool.and_self, Bool.and_true, Bool.true_and, List.length_map, Nat.le_refl, Nat.lt_add_one, hx40, hlt4, htk2, cells_len hy2]
      refine ranTo_append rfl rfl (append1 Try.underlying31 hi hz hsi hby hzs (by omega) hinv4.l (cells_len hy2) cells_one r1.1 r1.2 rfl ?_)
      intro a2 m2 c2 w5 FL' hs5 hu5 hf5
      have hinv5 := hinv4.appL hs5 hu5 hf5
      refine ⟨(k + 1, .slice a m c', vG, .slice a2 m2 c2), rfl, ⟨by omega, FA', FG, FL', ?_⟩, by omega⟩
      dsimp only
      rw [htake, againF_snoc, goneF_snoc, leftF_snoc]
      simp only [stepA, stepG, stepL, if_neg (show ¬ x.list[k].due > clock now from hdue), if_neg hsn, List.append_nil]
      exact hinv5
  · have hkv : k = vn := by omega
    subst hkv
    have e1 : ((k : Int) < (k : Int)) = False := eq_false (by omega)
    obtain ⟨aL, nL, cL, rfl, _⟩ := hinv.l.len
    simp only [vc_reg_f, vc_reg_t, vc_seq, vc_cond, vc_block, vc_exit, vc_ret, vc_skip, vsteps_nil, chk_plain, chk_guard, eff_plain, eff_need, eff_guard, vIs_t, vIs_f, thenP, blockP, loopP, retP, holds, okG, segG, allG, X.gs, X.vc, Q.ok, segOk, segCells, ogv, E.val, isBool, push, prune, List.map, List.filterMap, List.lookup_cons, List.lookup_nil, env0, Nat.reduceBEq, Nat.reduceEqDiff, resL, tup, Bool.false_eq_true, if_false, if_true, Option.getD_some, Option.map_some, Option.isSome_some, true_and, and_true, decide_true, decide_false, forall_const, false_implies, implies_true, imp_self, List.append_toArray, List.size_toArray, List.length_cons, List.length_nil, Nat.reduceAdd, Nat.zero_add, List.toList_toArray, Value.ite_bool, Value.bool.injEq, exists_eq_left', exists_eq_left, Bool.if_true_left, Bool.if_false_right, Bool.or_eq_true, Bool.and_eq_true, Bool.or_eq_false_iff, Bool.and_eq_false_imp, decide_eq_true_eq, decide_eq_false_iff_not, Bool.not_eq_true', Bool.not_eq_false', Bool.not_true, Bool.not_false, Bool.true_eq_false, Option.some.injEq, not_true_eq_false, not_false_eq_true, List.nil_append, List.cons_append, Array.toList_append, List.append_nil, val_nilc, val_same, val_sz, val_off, val_conv, val_bnot, val_neg, val_lenS, val_lenL, val_fld, val_fld1, val_ext, val_load, val_load1, val_nilq_f, val_nilq_t, val_nils_f, val_nils_t, ok_nilc, ok_same, ok_sz, ok_off, ok_conv, ok_bnot, ok_neg, ok_lenS, ok_lenL, ok_fld, ok_fld1, ok_ext, ok_load, ok_load1, ok_nilq, ok_nils, val_ib_add, ok_ib_add, val_ib_sub, ok_ib_sub, val_ib_mul, ok_ib_mul, val_ib_quo, ok_ib_quo, val_ib_rem, ok_ib_rem, val_ib_and, ok_ib_and, val_ib_or, ok_ib_or, val_ib_xor, ok_ib_xor, val_ib_andNot, ok_ib_andNot, val_ib_eql, ok_ib_eql, val_ib_neq, ok_ib_neq, val_ib_lss, ok_ib_lss, val_ib_leq, ok_ib_leq, val_ib_gtr, ok_ib_gtr, val_ib_geq, ok_ib_geq, val_shl, val_shr, ok_sh, val_bb_f, val_bb_t, ok_bb, val_sb_add, ok_sb_add, val_sb_eql, ok_sb_eql, val_sb_neq, ok_sb_neq, val_sb_lss, ok_sb_lss, val_idxA, ok_idxA, val_idxP, ok_idxP, val_idxS, ok_idxS, val_idxV_t, val_idxV_f, ok_idxV_t, ok_idxV_f, val_max, val_min, ok_mm, val_app, ok_app, val_slS, ok_slS, val_slL, ok_slL, vBool_b, cells_int, cells_bool, cells_str, cells_ptr, cells_sl, cells_map, cells_agg, Option.isNone_some, Option.isNone_none, Option.isSome_none, Addr.add_lit, cell_at, cellOf_some, rd_at, heap_setRow_same, setObj_some, heap_alloc_same, heap_drew, World.size_alloc, World.size_drew, setRow_size, st_at, st_vc, splice, List.getElem?_cons_zero, List.getElem?_cons_succ, List.getElem?_toArray, List.take_succ_cons, List.take_zero, List.drop_succ_cons, List.drop_zero, List.take_nil, List.drop_nil, eq_self, Option.map_none, Nat.reduceLeDiff, Nat.reduceLT, stOf_some, rdOf_some, List.all_cons, List.all_nil, one_int, one_bool, one_str, one_ptr, one_sl, one_map, Bool.and_self, Bool.and_true, Bool.true_and, List.length_map, Nat.le_refl, Nat.lt_add_one, e1, hbW0]
    have htl : List.take k x.list = x.list := List.take_of_length_le (by omega)
    rw [htl] at hinv
    have hbs : ∀ {F : List Nat}, (∀ k ∈ F, w.heap.size ≤ k) → b ∉ F := fun h hm => by have := h b hm; omega
    have hu : Upd [b] W (W.setRow b #[.slice aL nL cL, .int .i64 x.last, .int .i64 x.room, .int .i64 x.tries, .int .i64 x.time]) := Upd.setRow List.mem_cons_self
    have hnb : ∀ {F : List Nat}, (∀ k ∈ F, w.heap.size ≤ k) → ∀ k ∈ F, k ∉ [b] := fun h k hk => by have := h k hk; simp; omega
    refine ⟨_, _, b :: FL, FA, FG, rfl, ⟨⟨_, FL, hbW.set _, hinv.l.upd hu (hnb hinv.fl), hbs hinv.fl, rfl⟩, (step_heads hheads).1⟩, ?_, ?_, hinv.a.upd hu (hnb hinv.fa), hinv.g.upd hu (hnb hinv.fg), ?_, ?_⟩
    · exact (Upd.of_keep hkeep).trans (hu.mono fun k _ hk => by simp at hk; subst hk; simp)
    · intro k hk
      rcases List.mem_cons.1 hk with rfl | hk
      · exact .inl (by simp)
      · exact .inr (hinv.fl k hk)
    · intro k hk
      refine ⟨hinv.fa k hk, fun h => ?_⟩
      rcases List.mem_cons.1 h with rfl | h
      · exact hbs hinv.fa hk
      · exact hinv.al k hk h
    · intro k hk
      refine ⟨hinv.fg k hk, fun h => ?_⟩
      rcases List.mem_cons.1 h with rfl | h
      · exact hbs hinv.fg hk
      · exact hinv.gl k hk h
end Go.Proofs.Ytofajgipnnndgaa
