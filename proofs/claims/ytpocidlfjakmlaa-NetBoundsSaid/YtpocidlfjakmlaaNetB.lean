/-
  slices.Delete of one element.
-/
import Derived.Test.YtpocidlfjakmlaaNetA
set_option linter.unusedSimpArgs false
set_option linter.unusedVariables false
namespace Go.Proofs.Ytpocidlfjakmlaa
open Go Go.Sx

theorem info75 : ∃ i, Try.prog.info? 75 = some i ∧ i.zero = some (.agg #[.string ⟨#[]⟩, .int .i64 0]) ∧ i.size = 2 ∧ i.bytes = 24 := by
  have h : (Try.prog.info? 75).map (fun i => (i.zero, i.size, i.bytes)) = some (some (.agg #[.string ⟨#[]⟩, .int .i64 0]), 2, 24) := by kernel_rfl
  cases hi : Try.prog.info? 75 with
  | none => simp [hi] at h
  | some i => simp [hi] at h; exact ⟨i, rfl, h.1, h.2.1, h.2.2⟩

theorem encL_one {l : List (ByteArray × Int)} : ∀ u ∈ rowsL encL l, u.oneCell' = true := by
  intro u hu
  simp only [rowsL, List.mem_flatten, List.mem_map] at hu
  obtain ⟨cs, ⟨a, _, rfl⟩, hu⟩ := hu
  simp only [encL, List.mem_cons, List.not_mem_nil, or_false] at hu
  rcases hu with rfl | rfl <;> rfl

theorem delete_any (w : World) (v : Value) (l : List (ByteArray × Int)) (i : Nat) (hi : i < l.length) (hl : l.length ≤ 100000) :
    Con Try.prog 48 [v, .int .i64 i, .int .i64 (i + 1 : Nat)] w [linkHP v l] fun v' L' => L' = [linkHP v' (l.eraseIdx i)] := by
  intro S hS
  have h := Own.start hS
  obtain ⟨G, hs⟩ := h.vc (i := 0) rfl
  obtain ⟨a0, cap0, rfl⟩ := hs.count (encL_len _) (by omega)
  have hlen := rowsL_len (enc := encL) (sz := 2) l (encL_len _)
  rcases hs with ⟨e, e2, _⟩ | ⟨g, n, cap, sp, e, hc, hnc, hcm, hsp, hb, hG⟩
  · rw [e2] at hlen; simp at hlen; omega
  simp only [Value.slice.injEq] at e
  obtain ⟨rfl, rfl, rfl⟩ := e
  refine k48 ?_
  have g1 : (((i : Nat) : Int) = ((i + 1 : Nat) : Int)) = False := eq_false (by omega)
  have z0 : ((0 : Int) ≤ (i : Int)) = True := eq_true (by omega)
  have z1 : ((i : Int) ≤ (cap0 : Int)) = True := eq_true (by omega)
  have z2 : ((0 : Int) ≤ ((i + 1 : Nat) : Int)) = True := eq_true (by omega)
  have z3 : (((i + 1 : Nat) : Int) ≤ (l.length : Int)) = True := eq_true (by omega)
  have z4 : ((l.length : Int) ≤ (cap0 : Int)) = True := eq_true (by omega)
  simp only [c48, Nat.add_zero, Int.reduceToNat, Nat.reduceMul, Int.reduceLT, Int.reduceLE, Int.reduceGT, Int.reduceGE, Int.reduceEq, Int.cast_ofNat_Int, Int.reduceAdd, vIs_u, vBool_u, and_false, false_and, dfn_plain, dfn_guard, E.ofQ, segE, List.isEmpty_nil, List.isEmpty_cons, vc_reg_f, vc_reg_t, vc_seq, vc_cond, vc_block, vc_exit, vc_ret, vc_skip, vsteps_nil, chk_plain, chk_guard, eff_plain, eff_need, eff_guard, vIs_t, vIs_f, aft_app, aftN_app, aftG_app, nrm_app, seqP_n, seqP_x, seqP_r, blockP_n, blockP_x, blockP_r, retP_n, retP_r, exitP_n, exitP_x, exitP_r, roundP_n, roundP_x, roundP_r, eq_self_iff_true, if_true, reduceIte, holds, okG, segG, allG, X.gs, vc_store, vc_box, vc_alloc, vc_bslice, vc_call, vc_raw, callP_app, storeP_app, stK_some, condV_t, condV_f, effV_t, effV_f, Q.ok, segOk, segCells, ogv, E.val, isBool, push, prune, List.map, List.filterMap, List.lookup_cons, List.lookup_nil, env0, Nat.reduceBEq, Nat.reduceEqDiff, resL, tup, Bool.false_eq_true, if_false, if_true, Option.getD_some, Option.map_some, Option.isSome_some, true_and, and_true, decide_true, decide_false, forall_const, false_implies, implies_true, imp_self, List.append_toArray, List.size_toArray, List.length_cons, List.length_nil, Nat.reduceAdd, Nat.zero_add, List.toList_toArray, Value.ite_bool, Value.bool.injEq, exists_eq_left', exists_eq_left, Bool.if_true_left, Bool.if_false_right, Bool.or_eq_true, Bool.and_eq_true, Bool.or_eq_false_iff, Bool.and_eq_false_imp, decide_eq_true_eq, decide_eq_false_iff_not, Bool.not_eq_true', Bool.not_eq_false', Bool.not_true, Bool.not_false, Bool.true_eq_false, Option.some.injEq, not_true_eq_false, not_false_eq_true, List.nil_append, List.cons_append, Array.toList_append, List.append_nil, val_nilc, val_same, val_sz, val_off, val_conv, val_bnot, val_neg, val_lenS, val_lenL, val_fld, val_fld1, val_ext, val_load, val_load1, val_nilq_f, val_nilq_t, val_nils_f, val_nils_t, ok_nilc, ok_same, ok_sz, ok_off, ok_conv, ok_bnot, ok_neg, ok_lenS, ok_lenL, ok_fld, ok_fld1, ok_ext, ok_load, ok_load1, ok_nilq, ok_nils, val_ib_add, ok_ib_add, val_ib_sub, ok_ib_sub, val_ib_mul, ok_ib_mul, val_ib_quo, ok_ib_quo, val_ib_rem, ok_ib_rem, val_ib_and, ok_ib_and, val_ib_or, ok_ib_or, val_ib_xor, ok_ib_xor, val_ib_andNot, ok_ib_andNot, val_ib_eql, ok_ib_eql, val_ib_neq, ok_ib_neq, val_ib_lss, ok_ib_lss, val_ib_leq, ok_ib_leq, val_ib_gtr, ok_ib_gtr, val_ib_geq, ok_ib_geq, val_shl, val_shr, ok_sh, val_bb_f, val_bb_t, ok_bb, val_sb_add, ok_sb_add, val_sb_eql, ok_sb_eql, val_sb_neq, ok_sb_neq, val_sb_lss, ok_sb_lss, val_idxA, ok_idxA, val_idxP, ok_idxP, val_idxS, ok_idxS, val_idxV_t, val_idxV_f, ok_idxV_t, ok_idxV_f, val_max, val_min, ok_mm, val_app, ok_app, val_slS, ok_slS, val_slL, ok_slL, vBool_b, cells_int, cells_bool, cells_str, cells_ptr, cells_sl, cells_map, cells_agg, Option.isNone_some, Option.isNone_none, Option.isSome_none, Addr.add_lit, cell_at, cellOf_some, rd_at, heap_setRow_same, setObj_some, heap_alloc_same, heap_drew, World.size_alloc, World.size_drew, setRow_size, st_at, splice, List.getElem?_cons_zero, List.getElem?_cons_succ, List.getElem?_toArray, List.take_succ_cons, List.take_zero, List.drop_succ_cons, List.drop_zero, List.take_nil, List.drop_nil, eq_self, Option.map_none, Nat.reduceLeDiff, Nat.reduceLT, stOf_some, rdOf_some, List.all_cons, List.all_nil, one_int, one_bool, one_str, one_ptr, one_sl, one_map, Bool.and_self, Bool.and_true, Bool.true_and, List.length_map, Nat.le_refl, Nat.lt_add_one]
  refine ran_slice3 (l := i) (h := i + 1) (m := l.length) Try.underlying73 (size := 2) (by kernel_rfl) rfl rfl rfl rfl (by omega) (by omega) (by omega) ?_
  intro v3
  obtain ⟨ti, hti, htz, htsz, htby⟩ := info75
  simp only [Nat.add_zero, Int.reduceToNat, Nat.reduceMul, Int.reduceLT, Int.reduceLE, Int.reduceGT, Int.reduceGE, Int.reduceEq, Int.cast_ofNat_Int, Int.reduceAdd, vIs_u, vBool_u, and_false, false_and, dfn_plain, dfn_guard, E.ofQ, segE, List.isEmpty_nil, List.isEmpty_cons, vc_reg_f, vc_reg_t, vc_seq, vc_cond, vc_block, vc_exit, vc_ret, vc_skip, vsteps_nil, chk_plain, chk_guard, eff_plain, eff_need, eff_guard, vIs_t, vIs_f, aft_app, aftN_app, aftG_app, nrm_app, seqP_n, seqP_x, seqP_r, blockP_n, blockP_x, blockP_r, retP_n, retP_r, exitP_n, exitP_x, exitP_r, roundP_n, roundP_x, roundP_r, eq_self_iff_true, if_true, reduceIte, holds, okG, segG, allG, X.gs, vc_store, vc_box, vc_alloc, vc_bslice, vc_call, vc_raw, callP_app, storeP_app, stK_some, condV_t, condV_f, effV_t, effV_f, Q.ok, segOk, segCells, ogv, E.val, isBool, push, prune, List.map, List.filterMap, List.lookup_cons, List.lookup_nil, env0, Nat.reduceBEq, Nat.reduceEqDiff, resL, tup, Bool.false_eq_true, if_false, if_true, Option.getD_some, Option.map_some, Option.isSome_some, true_and, and_true, decide_true, decide_false, forall_const, false_implies, implies_true, imp_self, List.append_toArray, List.size_toArray, List.length_cons, List.length_nil, Nat.reduceAdd, Nat.zero_add, List.toList_toArray, Value.ite_bool, Value.bool.injEq, exists_eq_left', exists_eq_left, Bool.if_true_left, Bool.if_false_right, Bool.or_eq_true, Bool.and_eq_true, Bool.or_eq_false_iff, Bool.and_eq_false_imp, decide_eq_true_eq, decide_eq_false_iff_not, Bool.not_eq_true', Bool.not_eq_false', Bool.not_true, Bool.not_false, Bool.true_eq_false, Option.some.injEq, not_true_eq_false, not_false_eq_true, List.nil_append, List.cons_append, Array.toList_append, List.append_nil, val_nilc, val_same, val_sz, val_off, val_conv, val_bnot, val_neg, val_lenS, val_lenL, val_fld, val_fld1, val_ext, val_load, val_load1, val_nilq_f, val_nilq_t, val_nils_f, val_nils_t, ok_nilc, ok_same, ok_sz, ok_off, ok_conv, ok_bnot, ok_neg, ok_lenS, ok_lenL, ok_fld, ok_fld1, ok_ext, ok_load, ok_load1, ok_nilq, ok_nils, val_ib_add, ok_ib_add, val_ib_sub, ok_ib_sub, val_ib_mul, ok_ib_mul, val_ib_quo, ok_ib_quo, val_ib_rem, ok_ib_rem, val_ib_and, ok_ib_and, val_ib_or, ok_ib_or, val_ib_xor, ok_ib_xor, val_ib_andNot, ok_ib_andNot, val_ib_eql, ok_ib_eql, val_ib_neq, ok_ib_neq, val_ib_lss, ok_ib_lss, val_ib_leq, ok_ib_leq, val_ib_gtr, ok_ib_gtr, val_ib_geq, ok_ib_geq, val_shl, val_shr, ok_sh, val_bb_f, val_bb_t, ok_bb, val_sb_add, ok_sb_add, val_sb_eql, ok_sb_eql, val_sb_neq, ok_sb_neq, val_sb_lss, ok_sb_lss, val_idxA, ok_idxA, val_idxP, ok_idxP, val_idxS, ok_idxS, val_idxV_t, val_idxV_f, ok_idxV_t, ok_idxV_f, val_max, val_min, ok_mm, val_app, ok_app, val_slS, ok_slS, val_slL, ok_slL, vBool_b, cells_int, cells_bool, cells_str, cells_ptr, cells_sl, cells_map, cells_agg, Option.isNone_some, Option.isNone_none, Option.isSome_none, Addr.add_lit, cell_at, cellOf_some, rd_at, heap_setRow_same, setObj_some, heap_alloc_same, heap_drew, World.size_alloc, World.size_drew, setRow_size, st_at, splice, List.getElem?_cons_zero, List.getElem?_cons_succ, List.getElem?_toArray, List.take_succ_cons, List.take_zero, List.drop_succ_cons, List.drop_zero, List.take_nil, List.drop_nil, eq_self, Option.map_none, Nat.reduceLeDiff, Nat.reduceLT, stOf_some, rdOf_some, List.all_cons, List.all_nil, one_int, one_bool, one_str, one_ptr, one_sl, one_map, Bool.and_self, Bool.and_true, Bool.true_and, List.length_map, Nat.le_refl, Nat.lt_add_one, g1, z0, z1, z2, z3, z4, Int.toNat_natCast, ite_self, Nat.sub_zero]
  have hcur : (rowsL encL l ++ sp).length = cap0 * 2 := by rw [List.length_append, hlen, hsp, ← Nat.add_mul]; congr 1; omega
  have hnews : (rowsL encL l).drop ((i + 1) * 2) = rowsL encL (l.drop (i + 1)) := (rowsL_drop l (i + 1) (encL_len _)).symm
  have hnl : ((rowsL encL l).drop ((i + 1) * 2)).length = (l.length - (i + 1)) * 2 := by rw [List.length_drop, hlen, Nat.sub_mul]
  have e1 : i + (l.length - (i + 1)) = l.length - 1 := by omega
  have e2 : l.length - (l.length - 1) = 1 := by omega
  have hrd : ∀ a : Addr, (a = ⟨g, (i + 1) * 2, none⟩ ∨ l.length - (i + 1) = 0) → rd w.drew a ((l.length - (i + 1)) * ti.size) = some ((rowsL encL l).drop ((i + 1) * 2)) := by
    intro a ha
    rw [htsz]
    rcases ha with rfl | h0
    · rw [hb.drew.rd _ _ (by omega), List.drop_append_of_le_length (by rw [hlen]; omega), List.take_left' hnl]
    · have : (rowsL encL l).drop ((i + 1) * 2) = [] := List.eq_nil_of_length_eq_zero (by rw [hnl, h0])
      simp only [h0, this, Nat.zero_mul, Sx.rd]
  have hone : ∀ u ∈ (rowsL encL l).drop ((i + 1) * 2), u.oneCell' = true := by rw [hnews]; exact encL_one
  obtain ⟨X0, hX⟩ : ∃ X0, X0 = (rowsL encL l ++ sp).take (i * 2) ++ (rowsL encL l).drop ((i + 1) * 2) ++ (rowsL encL l ++ sp).drop (i * 2 + ((rowsL encL l).drop ((i + 1) * 2)).length) := ⟨_, rfl⟩
  have hXl : X0.length = cap0 * 2 := by
    rw [hX, List.length_append, List.length_append, hnl, List.length_take, List.length_drop, hcur]
    omega
  have hXt : X0.take ((l.length - 1) * 2) = rowsL encL (l.eraseIdx i) := by
    rw [hX, rowsL_erase l i (encL_len _), List.take_append_of_le_length (l₁ := rowsL encL l) (by rw [hlen]; omega)]
    apply List.take_left'
    rw [List.length_append, hnl, List.length_take, hlen]
    omega
  have hbX := hb.drew.set X0.toArray
  have hneg : (cap0 = l.length - 1) = False := eq_false (by omega)
  have y1 : ((0 : Int) ≤ ((l.length - 1 : Nat) : Int)) = True := eq_true (by omega)
  have y2 : (((l.length - 1 : Nat) : Int) ≤ (l.length : Int)) = True := eq_true (by omega)
  by_cases hcap : cap0 = i + 1
  case' pos =>
    rw [if_pos hcap]
    refine ran_append_in (news := (rowsL encL l).drop ((i + 1) * 2)) rfl rfl Try.underlying73 hti hb.drew (by rw [hnl, htsz]) (hrd _ (.inr (by omega))) hone (by omega) (by rw [htsz, hnl, hcur]; omega) ?_
  case' neg =>
    rw [if_neg hcap]
    refine ran_append_in (news := (rowsL encL l).drop ((i + 1) * 2)) rfl rfl Try.underlying73 hti hb.drew (by rw [hnl, htsz]) (hrd _ (.inl rfl)) hone (by omega) (by rw [htsz, hnl, hcur]; omega) ?_
  all_goals
    rw [htsz, ← hX, e1]
    simp only [Nat.add_zero, Int.reduceToNat, Nat.reduceMul, Int.reduceLT, Int.reduceLE, Int.reduceGT, Int.reduceGE, Int.reduceEq, Int.cast_ofNat_Int, Int.reduceAdd, vIs_u, vBool_u, and_false, false_and, dfn_plain, dfn_guard, E.ofQ, segE, List.isEmpty_nil, List.isEmpty_cons, vc_reg_f, vc_reg_t, vc_seq, vc_cond, vc_block, vc_exit, vc_ret, vc_skip, vsteps_nil, chk_plain, chk_guard, eff_plain, eff_need, eff_guard, vIs_t, vIs_f, aft_app, aftN_app, aftG_app, nrm_app, seqP_n, seqP_x, seqP_r, blockP_n, blockP_x, blockP_r, retP_n, retP_r, exitP_n, exitP_x, exitP_r, roundP_n, roundP_x, roundP_r, eq_self_iff_true, if_true, reduceIte, holds, okG, segG, allG, X.gs, vc_store, vc_box, vc_alloc, vc_bslice, vc_call, vc_raw, callP_app, storeP_app, stK_some, condV_t, condV_f, effV_t, effV_f, Q.ok, segOk, segCells, ogv, E.val, isBool, push, prune, List.map, List.filterMap, List.lookup_cons, List.lookup_nil, env0, Nat.reduceBEq, Nat.reduceEqDiff, resL, tup, Bool.false_eq_true, if_false, if_true, Option.getD_some, Option.map_some, Option.isSome_some, true_and, and_true, decide_true, decide_false, forall_const, false_implies, implies_true, imp_self, List.append_toArray, List.size_toArray, List.length_cons, List.length_nil, Nat.reduceAdd, Nat.zero_add, List.toList_toArray, Value.ite_bool, Value.bool.injEq, exists_eq_left', exists_eq_left, Bool.if_true_left, Bool.if_false_right, Bool.or_eq_true, Bool.and_eq_true, Bool.or_eq_false_iff, Bool.and_eq_false_imp, decide_eq_true_eq, decide_eq_false_iff_not, Bool.not_eq_true', Bool.not_eq_false', Bool.not_true, Bool.not_false, Bool.true_eq_false, Option.some.injEq, not_true_eq_false, not_false_eq_true, List.nil_append, List.cons_append, Array.toList_append, List.append_nil, val_nilc, val_same, val_sz, val_off, val_conv, val_bnot, val_neg, val_lenS, val_lenL, val_fld, val_fld1, val_ext, val_load, val_load1, val_nilq_f, val_nilq_t, val_nils_f, val_nils_t, ok_nilc, ok_same, ok_sz, ok_off, ok_conv, ok_bnot, ok_neg, ok_lenS, ok_lenL, ok_fld, ok_fld1, ok_ext, ok_load, ok_load1, ok_nilq, ok_nils, val_ib_add, ok_ib_add, val_ib_sub, ok_ib_sub, val_ib_mul, ok_ib_mul, val_ib_quo, ok_ib_quo, val_ib_rem, ok_ib_rem, val_ib_and, ok_ib_and, val_ib_or, ok_ib_or, val_ib_xor, ok_ib_xor, val_ib_andNot, ok_ib_andNot, val_ib_eql, ok_ib_eql, val_ib_neq, ok_ib_neq, val_ib_lss, ok_ib_lss, val_ib_leq, ok_ib_leq, val_ib_gtr, ok_ib_gtr, val_ib_geq, ok_ib_geq, val_shl, val_shr, ok_sh, val_bb_f, val_bb_t, ok_bb, val_sb_add, ok_sb_add, val_sb_eql, ok_sb_eql, val_sb_neq, ok_sb_neq, val_sb_lss, ok_sb_lss, val_idxA, ok_idxA, val_idxP, ok_idxP, val_idxS, ok_idxS, val_idxV_t, val_idxV_f, ok_idxV_t, ok_idxV_f, val_max, val_min, ok_mm, val_app, ok_app, val_slS, ok_slS, val_slL, ok_slL, vBool_b, cells_int, cells_bool, cells_str, cells_ptr, cells_sl, cells_map, cells_agg, Option.isNone_some, Option.isNone_none, Option.isSome_none, Addr.add_lit, cell_at, cellOf_some, rd_at, heap_setRow_same, setObj_some, heap_alloc_same, heap_drew, World.size_alloc, World.size_drew, setRow_size, st_at, splice, List.getElem?_cons_zero, List.getElem?_cons_succ, List.getElem?_toArray, List.take_succ_cons, List.take_zero, List.drop_succ_cons, List.drop_zero, List.take_nil, List.drop_nil, eq_self, Option.map_none, Nat.reduceLeDiff, Nat.reduceLT, stOf_some, rdOf_some, List.all_cons, List.all_nil, one_int, one_bool, one_str, one_ptr, one_sl, one_map, Bool.and_self, Bool.and_true, Bool.true_and, List.length_map, Nat.le_refl, Nat.lt_add_one, y1, y2, z4, Int.toNat_natCast, hneg, e2]
    refine ran_clear rfl (by omega) Try.underlying73 hti htz (by intro u hu; simp [Value.cells] at hu; rcases hu with rfl | rfl <;> rfl) (by simp [Value.cells]) hbX (by simp [Value.cells, hXl]; omega) ?_
    intro v4
    simp only [Nat.add_zero, Int.reduceToNat, Nat.reduceMul, Int.reduceLT, Int.reduceLE, Int.reduceGT, Int.reduceGE, Int.reduceEq, Int.cast_ofNat_Int, Int.reduceAdd, vIs_u, vBool_u, and_false, false_and, dfn_plain, dfn_guard, E.ofQ, segE, List.isEmpty_nil, List.isEmpty_cons, vc_reg_f, vc_reg_t, vc_seq, vc_cond, vc_block, vc_exit, vc_ret, vc_skip, vsteps_nil, chk_plain, chk_guard, eff_plain, eff_need, eff_guard, vIs_t, vIs_f, aft_app, aftN_app, aftG_app, nrm_app, seqP_n, seqP_x, seqP_r, blockP_n, blockP_x, blockP_r, retP_n, retP_r, exitP_n, exitP_x, exitP_r, roundP_n, roundP_x, roundP_r, eq_self_iff_true, if_true, reduceIte, holds, okG, segG, allG, X.gs, vc_store, vc_box, vc_alloc, vc_bslice, vc_call, vc_raw, callP_app, storeP_app, stK_some, condV_t, condV_f, effV_t, effV_f, Q.ok, segOk, segCells, ogv, E.val, isBool, push, prune, List.map, List.filterMap, List.lookup_cons, List.lookup_nil, env0, Nat.reduceBEq, Nat.reduceEqDiff, resL, tup, Bool.false_eq_true, if_false, if_true, Option.getD_some, Option.map_some, Option.isSome_some, true_and, and_true, decide_true, decide_false, forall_const, false_implies, implies_true, imp_self, List.append_toArray, List.size_toArray, List.length_cons, List.length_nil, Nat.reduceAdd, Nat.zero_add, List.toList_toArray, Value.ite_bool, Value.bool.injEq, exists_eq_left', exists_eq_left, Bool.if_true_left, Bool.if_false_right, Bool.or_eq_true, Bool.and_eq_true, Bool.or_eq_false_iff, Bool.and_eq_false_imp, decide_eq_true_eq, decide_eq_false_iff_not, Bool.not_eq_true', Bool.not_eq_false', Bool.not_true, Bool.not_false, Bool.true_eq_false, Option.some.injEq, not_true_eq_false, not_false_eq_true, List.nil_append, List.cons_append, Array.toList_append, List.append_nil, val_nilc, val_same, val_sz, val_off, val_conv, val_bnot, val_neg, val_lenS, val_lenL, val_fld, val_fld1, val_ext, val_load, val_load1, val_nilq_f, val_nilq_t, val_nils_f, val_nils_t, ok_nilc, ok_same, ok_sz, ok_off, ok_conv, ok_bnot, ok_neg, ok_lenS, ok_lenL, ok_fld, ok_fld1, ok_ext, ok_load, ok_load1, ok_nilq, ok_nils, val_ib_add, ok_ib_add, val_ib_sub, ok_ib_sub, val_ib_mul, ok_ib_mul, val_ib_quo, ok_ib_quo, val_ib_rem, ok_ib_rem, val_ib_and, ok_ib_and, val_ib_or, ok_ib_or, val_ib_xor, ok_ib_xor, val_ib_andNot, ok_ib_andNot, val_ib_eql, ok_ib_eql, val_ib_neq, ok_ib_neq, val_ib_lss, ok_ib_lss, val_ib_leq, ok_ib_leq, val_ib_gtr, ok_ib_gtr, val_ib_geq, ok_ib_geq, val_shl, val_shr, ok_sh, val_bb_f, val_bb_t, ok_bb, val_sb_add, ok_sb_add, val_sb_eql, ok_sb_eql, val_sb_neq, ok_sb_neq, val_sb_lss, ok_sb_lss, val_idxA, ok_idxA, val_idxP, ok_idxP, val_idxS, ok_idxS, val_idxV_t, val_idxV_f, ok_idxV_t, ok_idxV_f, val_max, val_min, ok_mm, val_app, ok_app, val_slS, ok_slS, val_slL, ok_slL, vBool_b, cells_int, cells_bool, cells_str, cells_ptr, cells_sl, cells_map, cells_agg, Option.isNone_some, Option.isNone_none, Option.isSome_none, Addr.add_lit, cell_at, cellOf_some, rd_at, heap_setRow_same, setObj_some, heap_alloc_same, heap_drew, World.size_alloc, World.size_drew, setRow_size, st_at, splice, List.getElem?_cons_zero, List.getElem?_cons_succ, List.getElem?_toArray, List.take_succ_cons, List.take_zero, List.drop_succ_cons, List.drop_zero, List.take_nil, List.drop_nil, eq_self, Option.map_none, Nat.reduceLeDiff, Nat.reduceLT, stOf_some, rdOf_some, List.all_cons, List.all_nil, one_int, one_bool, one_str, one_ptr, one_sl, one_map, Bool.and_self, Bool.and_true, Bool.true_and, List.length_map, Nat.le_refl, Nat.lt_add_one]
    refine ⟨_, _, rfl, rfl, h.turn (i := 0) rfl fun S ⟨G, h1, h2⟩ => ?_⟩
    have hS : ∀ x, S x ↔ x = g := by
      intro x
      rw [h2]
      rcases h1 with ⟨e, _⟩ | ⟨g', n', cap', sp', e, _, _, _, _, _, rfl⟩
      · cases e
      · cases e; simp
    refine ⟨S, ⟨[g], .inr ⟨g, l.length - 1, cap0, [.string ⟨#[]⟩, .int .i64 0] ++ X0.drop ((l.length - 1) * 2 + 2), rfl, ?_, by omega, hcm, ?_, ?_, rfl⟩, fun x => by simp [hS]⟩, ⟨by simp, rfl, rfl, rfl, ?_⟩, fun x hx => .inl hx⟩
    · rw [rowsL_len (sz := 2) _ (encL_len _), List.length_eraseIdx, if_pos hi]
    · rw [List.length_append, List.length_drop, hXl]
      simp only [List.length_cons, List.length_nil]
      omega
    · have := hbX.set ((X0.take ((l.length - 1) * 2) ++ (List.replicate 1 [Value.string ⟨#[]⟩, .int .i64 0]).flatten ++ X0.drop ((l.length - 1) * 2 + 1 * 2)).toArray)
      rw [hXt] at this
      simpa [Value.cells, hXt] using this
    · intro b _ hb'
      have hbg : b ≠ g := fun e => hb' ((hS b).2 e)
      rw [setRow_other _ g b _ hbg, setRow_other _ g b _ hbg]
      rfl
end Go.Proofs.Ytpocidlfjakmlaa
