/- A text of any lines is written at any place as the document says, or not at all, and a byte is written over others. -/
import Derived.Test.YtefihnkbelhneaaDoorPgFs47
namespace Go.Pg
open Go Go.Proofs

theorem pureB_pos2 (l : List (Int × Int)) : (l.map aPos).all AV.pureB = true := by simp [aPos, AV.pureB, AV.cells, AV.pureLeaf]
def aInt (n : Int) : AV := .int .i64 n
theorem getD_int (l : List Int) (i : Nat) : (l.map aInt).getD i (.int .i64 0) = .int .i64 (l.getD i 0) := getD_map aInt l i 0
theorem pureB_ints (l : List Int) : (l.map aInt).all AV.pureB = true := by simp [aInt, AV.pureB, AV.cells, AV.pureLeaf]

theorem few_of_light {ls : Ls} (h : light ls = true) : ls.length ≤ 40 ∧ (∀ i, (ls.getD i []).length ≤ 1200) := by
  by_cases h0 : 0 < ls.length
  · obtain ⟨_, h1, h2⟩ := few_of_text (ls := ls) (by simp [Pg.text, h, h0])
    exact ⟨h1, h2⟩
  · have : ls = [] := List.eq_nil_of_length_eq_zero (by omega)
    subst this
    exact ⟨by simp, fun i => by simp⟩

theorem write_len (ls text : Ls) (l c : Int) : (write ls l c text).1.2.1.length ≤ 1 ∧ (write ls l c text).1.2.2.length ≤ text.length := by
  unfold write
  split
  · simp
  · simp
theorem over_len (ls : Ls) (p : Int × Int) (c : UInt8) (n : Int) : (over ls p c n).1.2.1.length ≤ ls.length ∧ (over ls p c n).1.2.2.length ≤ 1 := by
  unfold over
  split
  · simp
  · simp only [cutL, List.length_take, List.length_drop, List.length_cons, List.length_nil]; omega

set_option maxRecDepth 20000 in
set_option maxHeartbeats 4000000 in
theorem calls_EditWrites (ls text : Ls) (raw : Int × Int) (a b : Int) (c : UInt8) (n : Int) (hs : ∀ i, (ls.getD i []).length ≤ 140737488355328) (hs2 : ∀ i, (text.getD i []).length ≤ 140737488355328) (ha : 0 ≤ a ∧ a < 65536) (hb : 0 ≤ b ∧ b < 65536) :
    CallsR Tryd.prog 3 [.sl 1 (ls.map .str), aPos raw, .int .u16 a, .int .u16 b, .sl 1 (text.map .str), .int .u8 c.toNat, .int .i64 n] [] (.bool true) [] := by
  refine callsR_of (mrg := true) (dyn := []) (CtrOK.cons ok_eknown (CtrOK.cons ok_Text (CtrOK.cons ok_Light (CtrOK.cons ok_SPlace (CtrOK.cons ok_Write (CtrOK.cons ok_RWrite (CtrOK.cons ok_Over (CtrOK.cons ok_ROver (CtrOK.cons ok_esame (CtrOK.nil _)))))))))) mixed Tryd.func3 rfl (by simp [Tryd.ntmps3]) (by kernel_rfl) ?_
  rw [show Tryd.f3.results.toList = [.tmp 14] from by kernel_rfl]
  cases ht : Pg.text ls with
  | false =>
    simp (maxSteps := 4000000) only [↓wpA_H, ↓wpH_skip, ↓wpH_ret, ↓wpH_seq, ↓wpH_cond, ↓wpH_region, ↓iselH_true, ↓iselH_false, bselH_false, runH_nil, runH_cons, gw, gselH_plain, gselH_if, kselH_1, cselH_bool, gkind, ↓chk, justK, noW, ↓oneK, ↓pureK, ↓heapK, envOf, ↓thenA_normal, ↓thenA_ret, ↓stepEv, opnd, Pg.look, dstOf, Bool.not_false, Bool.not_true, Bool.false_eq_true, Bool.true_eq_false, false_implies, implies_true, imp_self, true_and, and_true, pickC, pickV, unc, gof, mux, mergeK, condsL, valV, heapV, footV, mergeable, look_stripE, ofV, ofLeaf, sameK, retA, resK, tupA, subA, subQ, ptrsE, frzO, subF, subG, pickOf, frzE, frzC, frz0, frzH, Pg.freeze, List.foldl_nil, subOs, subEv, subV_succ, subM, ↓callT, callC, callV, callH, normArgs, normA, normC, resL, res8_eq, res_succ, resM, shiftR, shift1, AV.cells, AV.definite, Op.operands, Call.operands, Array.toList_append, List.getElem?_toArray, List.getElem?_cons_succ, List.getElem?_cons_zero, Option.bind_some, reduceCtorEq, Nat.reduceEqDiff, Nat.reduceAdd, List.nil_append, List.append_nil, List.cons_append, List.length_cons, List.length_nil, List.map_cons, List.map_nil, Nat.zero_add, ite_true, ite_false, AV.bool.injEq, Prod.mk.injEq, Bool.and_self, and_self, pickOK_nil, List.toList_toArray, cSl_dec, lNil_dec, lOne_dec, List.contains_nil, List.range'_zero, decL_str, C1by_ns, C1by_pre, C1by_r, C1by_H, optP_some, optV_some, optH_some, kEKnown, kText, kLight, ht, aPos]
    exact hs
  | true =>
    have hft := fits_text ht
    obtain ⟨hl0, hl1, hl2⟩ := few_of_text ht
    have hsm : small ls := fits_small hft (by omega) (by omega)
    cases ht2 : light text with
    | false =>
      simp (maxSteps := 4000000) only [↓wpA_H, ↓wpH_skip, ↓wpH_ret, ↓wpH_seq, ↓wpH_cond, ↓wpH_region, ↓iselH_true, ↓iselH_false, bselH_false, runH_nil, runH_cons, gw, gselH_plain, gselH_if, kselH_1, cselH_bool, gkind, ↓chk, justK, noW, ↓oneK, ↓pureK, ↓heapK, envOf, ↓thenA_normal, ↓thenA_ret, ↓stepEv, opnd, Pg.look, dstOf, Bool.not_false, Bool.not_true, Bool.false_eq_true, false_implies, implies_true, imp_self, true_and, and_true, forall_const, pickC, pickV, unc, gof, mux, mergeK, condsL, valV, heapV, footV, mergeable, look_stripE, ofV, ofLeaf, sameK, retA, resK, tupA, subA, subQ, ptrsE, frzO, subF, subG, pickOf, frzE, frzC, frz0, frzH, Pg.freeze, List.foldl_nil, subOs, subEv, subV_succ, subM, ↓callT, callC, callV, callH, normArgs, normA, normC, resL, res8_eq, res_succ, resM, shiftR, shift1, AV.cells, AV.definite, Op.operands, Call.operands, Array.toList_append, List.getElem?_toArray, List.getElem?_cons_succ, List.getElem?_cons_zero, Option.bind_some, reduceCtorEq, Nat.reduceEqDiff, Nat.reduceAdd, List.nil_append, List.append_nil, List.cons_append, List.length_cons, List.length_nil, List.map_cons, List.map_nil, Nat.zero_add, ite_true, ite_false, AV.bool.injEq, Prod.mk.injEq, Bool.and_self, and_self, pickOK_nil, List.toList_toArray, cSl_dec, lNil_dec, lOne_dec, List.contains_nil, List.range'_zero, decL_str, C1by_ns, C1by_pre, C1by_r, C1by_H, optP_some, optV_some, optH_some, kEKnown, kText, kLight, ht, ht2, aPos]
      exact ⟨hs, hs2⟩
    | true =>
      obtain ⟨p, hp⟩ : ∃ p, splace ls a b = p := ⟨_, rfl⟩
      simp (maxSteps := 4000000) only [↓wpA_H, ↓wpH_skip, ↓wpH_seq, ↓wpH_cond, ↓wpH_block, ↓wpH_loop, ↓wpH_region, ↓iselH_false, bselH_false, runH_nil, runH_cons, gw, gselH_plain, gselH_if, kselH_1, cselH_bool, gkind, ↓chk, justK, noW, ↓oneK, ↓pureK, ↓heapK, envOf, ↓thenA_normal, ↓stepEv, opnd, Pg.look, dstOf, Bool.not_false, Bool.not_true, Bool.false_eq_true, false_implies, implies_true, imp_self, true_and, and_true, forall_const, pickC, pickV, unc, gof, mux, mergeK, condsL, valV, heapV, footV, mergeable, look_stripE, ofV, ofLeaf, sameK, Pg.freeze, List.foldl_nil, slen, ldCells, objAt, ↓callT, callC, callV, callH, normArgs, normA, normC, resL, res8_eq, res_succ, resM, shiftR, shift1, AV.cells, TK.cells, AV.definite, Op.operands, Call.operands, Array.toList_append, List.getElem?_toArray, List.getElem?_cons_succ, List.getElem?_cons_zero, Option.bind_some, Option.getD_some, reduceCtorEq, Nat.reduceEqDiff, Nat.reduceAdd, Nat.reduceMul, List.nil_append, List.append_nil, List.cons_append, List.length_cons, List.length_nil, List.map_cons, List.map_nil, Nat.zero_add, ite_true, ite_false, Option.some.injEq, Option.isSome_some, AV.bool.injEq, AV.int.injEq, Prod.mk.injEq, List.all_cons, List.all_nil, Bool.and_self, and_self, exists_eq_left', cInt_dec, List.toList_toArray, rg2, cSl_dec, lNil_dec, lOne_dec, lCons_dec, dec2_some, List.contains_nil, beq_self_eq_true, Int.cast_ofNat_Int, List.range'_zero, Nat.reducePow, decL_str, C1by_ns, C1by_pre, C1by_r, C1by_H, optP_some, optV_some, optH_some, List.getD_cons_zero, cutL, List.drop_zero, List.take_succ_cons, Nat.sub_zero, Nat.reduceLeDiff, Nat.le_refl, List.take_nil, Nat.zero_lt_succ, tk24, dz24, eb24, tk29, kEKnown, kText, kLight, kSPlace, ht, ht2, aPos, hp]
      refine ⟨hs, hs2, ⟨hl0, hsm, ha, hb⟩, ?_⟩
      obtain ⟨t0, t1⟩ := few_of_light ht2
      have hst : small text := ⟨by omega, fun i => by have := t1 i; omega⟩
      obtain ⟨L, eL⟩ : ∃ L : List (Int × Int), L = [raw, p] := ⟨_, rfl⟩
      have n2 : L.length = 2 := by rw [eL]; rfl
      refine loopH_intro (α := Nat) (fun i => ([(0, .sl 1 (ls.map .str)), (4, .sl 1 (text.map .str)), (5, .int .u8 c.toNat), (6, .int .i64 n), (14, .bool false), (40, .own 0 2 2), (41, .int .i64 2), (42, .int .i64 i)], [.arr 24 2 (L.map aPos)])) (fun i => i ≤ 2) (fun i => 2 - i) 0 (by omega) ?_ ?_
      · simp (maxSteps := 4000000) only [Pg.look, true_and, and_true, subA, subQ, ptrsE, pairsO, frzO, subF, subG, pickOf, assocN, pairsE, pairsC, pairs0, frzE, frzC, frz0, frzH, Pg.freeze, List.foldl_nil, subOs, subO, subEv, subV_succ, subM, List.getElem?_cons_succ, List.getElem?_cons_zero, reduceCtorEq, Nat.reduceEqDiff, List.nil_append, List.append_nil, ite_true, ite_false, and_self, pickOK_one, Int.cast_ofNat_Int, Nat.lt_irrefl]
        exact subX_eq (by rw [eL]; rfl) (pureB_pos2 _)
      intro i hi
      by_cases hi2 : i < 2
      · have hct : decide ((i : Int) < 2) = true := decide_eq_true (by omega)
        have hwl := write_len ls text (L.getD i (0, 0)).1 (L.getD i (0, 0)).2
        have hw9 : n.tmod 9 = n.tmod 9 := rfl
        generalize hq : L.getD i (0, 0) = q at hwl
        simp (maxSteps := 4000000) only [↓wpA_H, ↓wpH_skip, ↓wpH_seq, ↓wpH_cond, ↓wpH_block, ↓wpH_loop, ↓wpH_region, ↓iselH_true, ↓iselH_false, bselH_false, runH_nil, runH_cons, gw, gselH_plain, gselH_if, kselH_1, cselH_bool, gkind, ↓chk, justK, noW, ↓oneK, ↓pureK, ↓heapK, ↓thenA_normal, ↓stepEv, opnd, Pg.look, binK, intOp, cellsEq, leafEq, dstOf, Bool.not_false, Bool.not_true, Bool.false_eq_true, false_implies, implies_true, true_and, and_true, pickC, pickV, unc, gof, mux, mergeK, condsL, valV, heapV, footV, binV, intV, mergeable, look_stripE, ofV, ofLeaf, sameK, Pg.freeze, List.foldl_nil, slen, ldCells, objAt, ↓callT, callC, callV, callH, normArgs, normA, normC, normL, resL, res8_eq, res_succ, resM, shiftR, shift1, AV.cells, TK.cells, AV.definite, AV.leaf, AV.leafy, putCells, lay, Op.operands, List.getElem?_toArray, List.getElem?_cons_succ, List.getElem?_cons_zero, Option.bind_some, Option.getD_some, reduceCtorEq, Nat.reduceEqDiff, Nat.reduceAdd, List.nil_append, List.append_nil, List.cons_append, List.length_cons, List.length_nil, List.map_cons, List.map_nil, List.set_cons_zero, List.set_cons_succ, Nat.zero_add, ite_true, ite_false, Option.some.injEq, Option.isSome_some, AV.int.injEq, Prod.mk.injEq, ne_eq, List.all_cons, List.all_nil, Bool.and_self, and_self, exists_eq_left', List.length_map, cInt_dec, cBool_dec, List.toList_toArray, rg3, cSl_dec, cAgg_dec, lOne_dec, lCons_dec, dec2_some, List.contains_nil, beq_self_eq_true, Int.cast_ofNat_Int, List.range'_zero, Nat.reducePow, decL_str, C1by_ns, C1by_pre, C1by_r, C1by_H, optP_some, optV_some, optH_some, Int.toNat_natCast, List.getD_cons_zero, cutL, List.drop_zero, List.drop_succ_cons, List.take_succ_cons, List.take_zero, Nat.sub_zero, Nat.reduceLeDiff, Nat.le_refl, Nat.mul_one, List.drop_nil, List.take_nil, Nat.zero_lt_succ, eb3, tk24, tz24, dz24, eq24, tk29, tk31, tz31, dz31, tk35, kWrite, kOver, kESame, getD_pos, aPos, aCh, n2, hct, hq]
        refine ⟨by omega, hi2, ⟨hsm, hst⟩, ⟨hsm, hst⟩, by omega, by decide, ?_⟩
        obtain ⟨K, eK⟩ : ∃ K : List Int, K = [n, n.tmod 9, 1] := ⟨_, rfl⟩
        have n3 : K.length = 3 := by rw [eK]; rfl
        refine loopH_intro (α := Nat) (fun j => ([(0, .sl 1 (ls.map .str)), (4, .sl 1 (text.map .str)), (5, .int .u8 c.toNat), (6, .int .i64 n), (14, .bool false), (16, .ptr 1 2 1 0 0), (17, .ptr 2 3 1 0 0), (20, .ptr 3 3 1 0 0), (40, .own 0 2 2), (41, .int .i64 2), (42, .int .i64 i), (76, .own 4 1 3), (77, .int .i64 3), (78, .int .i64 j)], [.arr 24 2 (L.map aPos), .arr 24 2 [.agg [.int .i64 q.1, .int .i64 q.2]], .arr 31 3 [.agg [.top, .top, .top]], .arr 31 3 [.agg [.top, .top, .top]], .arr 3 1 (K.map aInt)])) (fun j => j ≤ 3) (fun j => 3 - j) 0 (by omega) ?_ ?_
        · simp (maxSteps := 4000000) only [Pg.look, true_and, and_true, subA, subQ, ptrsE, pairsO, frzO, subF, subG, pickOf, assocN, pairsE, pairsC, pairsL, pairs0, frzE, frzC, frzL, frz0, frzH, Pg.freeze, List.foldl_nil, subOs, subO, subEv, subV_succ, subM, List.getElem?_cons_succ, List.getElem?_cons_zero, reduceCtorEq, Nat.reduceEqDiff, Nat.reduceAdd, List.nil_append, List.append_nil, List.cons_append, Nat.zero_add, ite_true, ite_false, and_self, Int.cast_ofNat_Int, Nat.lt_irrefl, Nat.not_lt_zero]
          exact ⟨rfl, subX_eq rfl (pureB_pos2 _), subX_eq rfl rfl, subX_cells (by simp [subL, subC, subV, AV.cells]), subX_cells (by simp [subL, subC, subV, AV.cells]), subX_eq (by rw [eK]; rfl) (pureB_ints _)⟩
        intro j hj
        by_cases hj2 : j < 3
        · have hct2 : decide ((j : Int) < 3) = true := decide_eq_true (by omega)
          have hol := over_len ls q c (K.getD j 0)
          obtain ⟨q1, q2⟩ := q
          simp (maxSteps := 4000000) only [↓wpA_H, ↓wpH_skip, ↓wpH_seq, ↓wpH_cond, ↓wpH_block, ↓wpH_region, ↓iselH_true, ↓iselH_false, bselH_false, runH_nil, runH_cons, gw, gselH_plain, cselH_bool, ↓chk, justK, noW, ↓oneK, ↓pureK, ↓heapK, ↓thenA_normal, ↓blockA_normal, ↓stepEv, opnd, Pg.look, binK, intOp, Bool.not_true, Bool.false_eq_true, false_implies, implies_true, true_and, and_true, valV, heapV, footV, binV, intV, ofV, ofLeaf, subA, subQ, ptrsE, pairsO, frzO, subF, subG, pickOf, assocN, pairsE, pairsC, pairsL, pairs0, frzE, frzC, frzL, frz0, frzH, Pg.freeze, List.foldl_nil, subOs, subO, subEv, subV_succ, subM, ldCells, objAt, ↓callT, callC, callV, callH, normArgs, normA, normC, normL, resL, res8_eq, res_succ, resM, shiftR, shift1, AV.cells, TK.cells, AV.leaf, AV.leafy, putCells, lay, List.getElem?_cons_succ, List.getElem?_cons_zero, Option.getD_some, reduceCtorEq, Nat.reduceEqDiff, Nat.reduceAdd, List.nil_append, List.append_nil, List.cons_append, List.length_cons, List.length_nil, List.map_cons, List.map_nil, List.set_cons_zero, List.set_cons_succ, Nat.zero_add, ite_true, ite_false, Option.some.injEq, Prod.mk.injEq, List.all_cons, List.all_nil, Bool.and_self, and_self, exists_eq_left', List.length_map, cInt_dec, cBool_dec, cByte_dec, cSl_dec, cAgg_dec, lOne_dec, lCons_dec, dec2_some, List.contains_nil, beq_self_eq_true, Int.cast_ofNat_Int, List.range'_zero, decL_str, C1by_ns, C1by_pre, C1by_r, C1by_H, optP_some, optV_some, optH_some, Int.toNat_natCast, List.getD_cons_zero, cutL, List.drop_zero, List.drop_succ_cons, List.take_succ_cons, List.take_zero, Nat.sub_zero, Nat.le_refl, Nat.lt_irrefl, List.drop_nil, List.take_nil, Nat.not_lt_zero, Nat.zero_lt_succ, tk3, dz3, tk24, dz24, tk31, dz31, tk35, kOver, kESame, getD_int, aCh, n3, hct2]
          exact ⟨by omega, hj2, hsm, hsm, by omega, j + 1, by omega, by omega, rfl, ⟨subX_eq rfl (pureB_pos2 _), subX_eq rfl rfl, subX_cells (by simp [subL, subC, subV, AV.cells]), subX_cells (by simp [subL, subC, subV, AV.cells]), subX_eq rfl (pureB_ints _)⟩, by rw [wrap64 (by omega) (by omega)]; rfl⟩
        · have hcf2 : decide ((j : Int) < 3) = false := decide_eq_false (by omega)
          simp (maxSteps := 4000000) only [↓wpA_H, ↓wpH_ret, ↓wpH_exit, ↓wpH_seq, ↓wpH_cond, ↓wpH_region, ↓iselH_false, bselH_false, runH_nil, runH_cons, gw, gselH_plain, cselH_bool, ↓chk, justK, ↓oneK, ↓pureK, ↓thenA_normal, ↓thenA_exit, ↓blockA_normal, ↓blockA_exit, ↓stepEv, opnd, Pg.look, binK, intOp, Bool.false_eq_true, implies_true, true_and, and_true, valV, heapV, footV, binV, intV, ofV, ofLeaf, retA, resK, tupA, subA, subQ, ptrsE, pairsO, frzO, subF, subG, pickOf, assocN, pairsE, pairsC, pairs0, frzE, frzC, frz0, frzH, Pg.freeze, List.foldl_nil, subOs, subO, subEv, subV_succ, subM, List.getElem?_cons_zero, reduceCtorEq, Nat.reduceEqDiff, List.nil_append, List.append_nil, List.length_nil, ite_true, ite_false, and_self, pickOK_nil, pickOK_one, List.contains_nil, Nat.lt_irrefl, hcf2]
          exact ⟨i + 1, by omega, by omega, subX_eq rfl (pureB_pos2 _), by rw [wrap64 (by omega) (by omega)]; rfl⟩
      · have hcf : decide ((i : Int) < 2) = false := decide_eq_false (by omega)
        simp (maxSteps := 4000000) only [↓wpA_H, ↓wpH_ret, ↓wpH_exit, ↓wpH_seq, ↓wpH_cond, ↓wpH_region, ↓iselH_false, bselH_false, runH_nil, runH_cons, gw, gselH_plain, cselH_bool, ↓chk, justK, ↓oneK, ↓pureK, ↓thenA_normal, ↓thenA_exit, ↓blockA_exit, ↓stepEv, opnd, Pg.look, binK, intOp, Bool.false_eq_true, implies_true, valV, heapV, footV, binV, intV, ofV, ofLeaf, retA, resK, tupA, subA, subQ, ptrsE, frzO, subF, subG, pickOf, frzE, frzC, frz0, frzH, Pg.freeze, List.foldl_nil, subOs, subEv, subV_succ, subM, reduceCtorEq, Nat.reduceEqDiff, List.append_nil, List.length_nil, ite_true, ite_false, and_self, pickOK_nil, List.contains_nil, hcf]
end Go.Pg
