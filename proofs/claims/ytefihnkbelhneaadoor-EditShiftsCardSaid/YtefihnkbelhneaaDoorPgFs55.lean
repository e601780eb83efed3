/- Lines are shifted as the document says, either way, by any count, or not at all. -/
import Derived.Test.YtefihnkbelhneaaDoorPgFs54
namespace Go.Pg
open Go Go.Proofs

theorem shift_len (ls : Ls) (f t n : Int) (left : Bool) : (shift ls f t n left).1.2.1.length ≤ ls.length ∧ (shift ls f t n left).1.2.2.length ≤ ls.length := by
  unfold shift
  split
  · simp
  · next h =>
    simp only [Bool.or_eq_true, decide_eq_true_eq] at h
    simp only [cutL, eachL, List.length_map, List.length_range, List.length_take, List.length_drop]
    omega

def a3i (p : Int × Int × Int) : AV := .agg [.int .i64 p.1, .int .i64 p.2.1, .int .i64 p.2.2]
theorem getD_a3i (l : List (Int × Int × Int)) (i : Nat) : (l.map a3i).getD i (.agg [.int .i64 0, .int .i64 0, .int .i64 0]) = a3i (l.getD i (0, 0, 0)) := getD_map a3i l i (0, 0, 0)
theorem pureB_a3i (l : List (Int × Int × Int)) : (l.map a3i).all AV.pureB = true := by simp [a3i, AV.pureB, AV.cells, AV.pureLeaf]
theorem rl3s : List.range 3 = [0, 1, 2] := by decide

set_option maxRecDepth 20000 in
set_option maxHeartbeats 4000000 in
theorem calls_EditShifts (ls : Ls) (f t n : Int) (left : Bool) (hs : ∀ i, (ls.getD i []).length ≤ 140737488355328) (hf : -9223372036854775808 ≤ f ∧ f ≤ 9223372036854775807) (ht0 : -9223372036854775808 ≤ t ∧ t ≤ 9223372036854775807) :
    CallsR Tryd.prog 7 [.sl 1 (ls.map .str), .int .i64 f, .int .i64 t, .int .i64 n, .bool left] [] (.bool true) [] := by
  refine callsR_of (mrg := true) (dyn := []) (CtrOK.cons ok_eknown (CtrOK.cons ok_Text (CtrOK.cons ok_HPlace (CtrOK.cons ok_Shift (CtrOK.cons ok_RShift (CtrOK.cons ok_esame (CtrOK.nil _))))))) mixed Tryd.func7 rfl (by simp [Tryd.ntmps7]) (by kernel_rfl) ?_
  rw [show Tryd.f7.results.toList = [.tmp 10] from by kernel_rfl]
  cases ht : Pg.text ls with
  | false =>
    simp (maxSteps := 4000000) only [↓wpA_H, ↓wpH_skip, ↓wpH_ret, ↓wpH_seq, ↓wpH_cond, ↓wpH_region, ↓iselH_true, ↓iselH_false, bselH_false, runH_nil, runH_cons, gw, gselH_plain, gselH_if, kselH_1, cselH_bool, gkind, ↓chk, justK, ↓oneK, ↓pureK, envOf, ↓thenA_normal, ↓thenA_ret, ↓stepEv, opnd, Pg.look, binK, intOp, dstOf, Bool.not_false, Bool.not_true, Bool.false_eq_true, Bool.true_eq_false, false_implies, implies_true, imp_self, true_and, and_true, pickC, pickV, unc, gof, mux, mergeK, condsL, valV, heapV, footV, binV, intV, mergeable, look_stripE, ofV, ofLeaf, sameK, retA, resK, tupA, subA, subQ, ptrsE, frzO, subF, subG, pickOf, frzE, frzC, frz0, frzH, Pg.freeze, List.foldl_nil, subOs, subEv, subV_succ, subM, slen, ↓callT, callC, callV, callH, normArgs, normA, normC, resL, res8_eq, res_succ, resM, shiftR, shift1, Op.operands, Call.operands, Array.toList_append, List.getElem?_toArray, List.getElem?_cons_succ, List.getElem?_cons_zero, Option.bind_some, Option.getD_some, reduceCtorEq, Nat.reduceEqDiff, Nat.reduceAdd, List.nil_append, List.append_nil, List.length_nil, List.map_cons, List.map_nil, Nat.zero_add, ite_true, ite_false, Option.some.injEq, AV.int.injEq, Prod.mk.injEq, Bool.and_self, and_self, exists_eq_left', pickOK_nil, List.length_map, List.toList_toArray, cSl_dec, lNil_dec, lOne_dec, List.contains_nil, List.range'_zero, decL_str, C1by_ns, C1by_pre, C1by_r, C1by_H, optP_some, optV_some, optH_some, tk22, kEKnown, kText, ht]
    exact hs
  | true =>
    have hft := fits_text ht
    obtain ⟨hl0, hl1, hl2⟩ := few_of_text ht
    have hsm : small ls := fits_small hft (by omega) (by omega)
    simp (maxSteps := 4000000) only [↓wpA_H, ↓wpH_skip, ↓wpH_ret, ↓wpH_seq, ↓wpH_cond, ↓wpH_block, ↓wpH_loop, ↓wpH_region, ↓iselH_false, iselH_if, bselH_false, runH_nil, runH_cons, gw, gselH_plain, gselH_if, kselH_1, cselH_bool, gkind, ↓chk, justK, noW, ↓oneK, ↓pureK, ↓heapK, envOf, ↓thenA_normal, ↓thenA_ret, ↓stepEv, opnd, Pg.look, binK, intOp, dstOf, Bool.not_false, Bool.not_true, Bool.false_eq_true, false_implies, implies_true, imp_self, true_and, and_true, pickC, pickV, unc, gof, mux, mergeK, condsL, valV, heapV, footV, binV, intV, mergeable, look_stripE, ofV, ofLeaf, sameK, retA, resK, tupA, subA, subQ, ptrsE, frzO, subF, subG, pickOf, frzE, frzC, frz0, frzH, Pg.freeze, List.foldl_nil, subOs, subEv, subV_succ, subM, slen, ↓callT, callC, callV, callH, normArgs, normA, normC, resL, res8_eq, res_succ, resM, shiftR, shift1, AV.cells, AV.definite, lay, buildL, arrPlaces, foldInts, Op.operands, Call.operands, Array.toList_append, List.getElem?_toArray, List.getElem?_cons_succ, List.getElem?_cons_zero, Option.bind_some, Option.getD_some, reduceCtorEq, Nat.reduceEqDiff, Nat.reduceAdd, Nat.reduceMul, List.nil_append, List.append_nil, List.cons_append, List.length_cons, List.length_nil, List.map_cons, List.map_nil, Nat.zero_add, ite_true, ite_false, Option.some.injEq, Option.isSome_some, AV.int.injEq, AV.agg.injEq, Prod.mk.injEq, decide_eq_true_eq, decide_eq_false_iff_not, Int.not_lt, ne_eq, List.all_cons, List.all_nil, Bool.and_self, and_self, exists_eq_left', pickOK_nil, List.length_map, cInt_dec, List.toList_toArray, rg4, cSl_dec, lNil_dec, lOne_dec, lCons_dec, dec2_some, List.contains_nil, beq_self_eq_true, Int.cast_ofNat_Int, List.range'_zero, Nat.reducePow, decL_str, C1by_ns, C1by_pre, C1by_r, C1by_H, optP_some, optV_some, optH_some, List.drop_zero, List.drop_succ_cons, List.take_succ_cons, List.take_zero, Nat.reduceLeDiff, Nat.le_refl, Nat.mul_one, List.drop_nil, tk22, tk54, tz54, eb54, tk55, kEKnown, kText, kHPlace, ht, rl3s]
    refine ⟨hs, fun h10 => ⟨⟨by omega, by omega, hf⟩, ⟨by omega, by omega, ht0⟩, by decide, by decide, ?_⟩⟩
    generalize f % (ls.length : Int) = x
    generalize t % (ls.length : Int) = y
    obtain ⟨L, eL⟩ : ∃ L : List (Int × Int × Int), L = [(f, t, n.tmod 5), (min x y, max x y, n.tmod 5), (x, y, 1), (x, x, min n 1100)] := ⟨_, rfl⟩
    have n4 : L.length = 4 := by rw [eL]; rfl
    refine loopH_intro (α := Nat) (fun i => ([(0, .sl 1 (ls.map .str)), (4, .bool left), (10, .bool false), (59, .own 0 3 4), (60, .int .i64 4), (61, .int .i64 i)], [.arr 54 3 (L.map a3i)])) (fun i => i ≤ 4) (fun i => 4 - i) 0 (by omega) ?_ ?_
    · simp (maxSteps := 4000000) only [Pg.look, true_and, and_true, subA, subQ, ptrsE, pairsO, frzO, subF, subG, pickOf, assocN, pairsE, pairsC, pairs0, frzE, frzC, frz0, frzH, Pg.freeze, List.foldl_nil, subOs, subO, subEv, subV_succ, subM, List.getElem?_cons_zero, reduceCtorEq, Nat.reduceEqDiff, List.nil_append, List.append_nil, ite_true, ite_false, and_self, pickOK_one, Int.cast_ofNat_Int, Nat.lt_irrefl]
      exact subX_eq (by rw [eL]; rfl) (pureB_a3i _)
    intro i hi
    by_cases hi2 : i < 4
    · have hct : decide ((i : Int) < 4) = true := decide_eq_true (by omega)
      have hq : L.getD i (0, 0, 0) = L.getD i (0, 0, 0) := rfl
      generalize hq0 : L.getD i (0, 0, 0) = q
      have hql := shift_len ls q.1 q.2.1 q.2.2 left
      simp (maxSteps := 4000000) only [↓wpA_H, ↓wpH_skip, ↓wpH_seq, ↓wpH_cond, ↓wpH_block, ↓wpH_region, ↓iselH_true, ↓iselH_false, bselH_false, runH_nil, runH_cons, gw, gselH_plain, cselH_bool, ↓chk, justK, noW, ↓oneK, ↓pureK, ↓heapK, ↓thenA_normal, ↓blockA_normal, ↓stepEv, opnd, Pg.look, binK, intOp, Bool.not_true, Bool.false_eq_true, false_implies, implies_true, true_and, and_true, valV, heapV, footV, binV, intV, ofV, ofLeaf, subA, subQ, ptrsE, pairsO, frzO, subF, subG, pickOf, assocN, pairsE, pairsC, pairs0, frzE, frzC, frz0, frzH, Pg.freeze, List.foldl_nil, subOs, subO, subEv, subV_succ, subM, ldCells, objAt, ↓callT, callC, callV, callH, normArgs, normA, normC, normL, resL, res8_eq, res_succ, resM, shiftR, shift1, AV.cells, TK.cells, AV.definite, AV.leaf, AV.leafy, putCells, lay, List.getElem?_cons_succ, List.getElem?_cons_zero, Option.getD_some, reduceCtorEq, Nat.reduceEqDiff, Nat.reduceAdd, List.nil_append, List.append_nil, List.cons_append, List.length_cons, List.length_nil, List.map_cons, List.map_nil, List.set_cons_zero, List.set_cons_succ, Nat.zero_add, Int.reduceToNat, ite_true, ite_false, Option.some.injEq, Prod.mk.injEq, List.all_cons, List.all_nil, Bool.and_self, and_self, exists_eq_left', pickOK_one, List.length_map, cInt_dec, cBool_dec, Int.reduceLE, Int.reduceLT, cSl_dec, cAgg_dec, lOne_dec, lCons_dec, dec2_some, List.contains_nil, beq_self_eq_true, Int.cast_ofNat_Int, List.range'_zero, decL_str, C1by_ns, C1by_pre, C1by_r, C1by_H, optP_some, optV_some, optH_some, Int.toNat_natCast, List.getD_cons_zero, cutL, List.drop_zero, List.drop_succ_cons, List.take_succ_cons, List.take_zero, Nat.add_zero, Nat.sub_zero, Nat.le_refl, Nat.lt_irrefl, Nat.mul_one, List.drop_nil, List.take_nil, Nat.zero_lt_succ, tk3, tk31, tz31, dz31, tk54, tz54, dz54, tk55, kShift, kESame, getD_a3i, a3i, aCh, n4, hct, hq0]
      exact ⟨by omega, hi2, hsm, hsm, by omega, i + 1, by omega, by omega, subX_eq rfl (pureB_a3i _), by rw [wrap64 (by omega) (by omega)]; rfl⟩
    · have hcf : decide ((i : Int) < 4) = false := decide_eq_false (by omega)
      simp (maxSteps := 4000000) only [↓wpA_H, ↓wpH_ret, ↓wpH_exit, ↓wpH_seq, ↓wpH_cond, ↓wpH_region, ↓iselH_false, bselH_false, runH_nil, runH_cons, gw, gselH_plain, cselH_bool, ↓chk, justK, ↓oneK, ↓pureK, ↓thenA_normal, ↓thenA_exit, ↓blockA_exit, ↓stepEv, opnd, Pg.look, binK, intOp, Bool.false_eq_true, implies_true, valV, heapV, footV, binV, intV, ofV, ofLeaf, retA, resK, tupA, subA, subQ, ptrsE, frzO, subF, subG, pickOf, frzE, frzC, frz0, frzH, Pg.freeze, List.foldl_nil, subOs, subEv, subV_succ, subM, reduceCtorEq, Nat.reduceEqDiff, List.append_nil, List.length_nil, ite_true, ite_false, and_self, pickOK_nil, List.contains_nil, hcf]
end Go.Pg
