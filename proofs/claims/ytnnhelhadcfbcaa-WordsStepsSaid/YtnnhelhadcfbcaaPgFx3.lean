/- The n-th end of a word, by the program. The n-th of places ahead, by the program. Motions back by words, by the program; they are the document's. -/
import Derived.Test.YtnnhelhadcfbcaaPgFx2
namespace Go.Pg
open Go Go.Proofs

theorem skip_eq (p q : Int × Int) (here : Bool) : (less q p || (q.1 == p.1 && q.2 == p.2) && !here) = !isBehind p here q := by
  obtain ⟨a, b⟩ := p
  obtain ⟨c, d⟩ := q
  unfold isBehind less
  rw [Bool.eq_iff_iff]
  cases here <;> simp <;> omega

theorem behind_succ (M : List (Int × Int)) (p : Int × Int) (here : Bool) (k : Nat) (hk : k < M.length) : behind (M.take (k + 1)) p here = if isBehind p here (M.getD k (0, 0)) = true then behind (M.take k) p here ++ [M.getD k (0, 0)] else behind (M.take k) p here :=
  filter_take _ M k (0, 0) hk

theorem behind_at (M : List (Int × Int)) (p : Int × Int) (here : Bool) (k : Nat) (hk : k < M.length) (h : isBehind p here (M.getD k (0, 0)) = true) : (behind M p here)[(behind (M.take k) p here).length]? = some (M.getD k (0, 0)) := by
  have h1 := behind_succ M p here k hk
  rw [if_pos h] at h1
  have h2 : behind M p here = behind (M.take (k + 1)) p here ++ behind (M.drop (k + 1)) p here := by
    unfold behind
    rw [← List.filter_append, List.take_append_drop]
  rw [h2, h1, List.append_assoc, List.getElem?_append_right (Nat.le_refl _), Nat.sub_self]
  rfl

theorem nth_at (l : List (Int × Int)) (k : Nat) (n way : Int) (q : Int × Int) (h : l[k]? = some q) (hn : n = k + 1) : nth l n way = mTo q way := by
  have hk := (List.getElem?_eq_some_iff.1 h).1
  unfold nth
  rw [if_neg (by omega), show (n - 1).toNat = k by omega, List.getD_eq_getElem?_getD, h]
  rfl

def rTail (ls : Ls) (p : Int × Int) (n : Int) (big here : Bool) : Mv × Bool := if may ls p n = true then nth (behind (marksOf false false big ls) p here) n 1 else mNone

set_option maxRecDepth 20000 in
set_option maxHeartbeats 4000000 in
theorem calls_Tail (ls : Ls) (p : Int × Int) (n : Int) (big here : Bool) (hf : fits 65536 65536 ls) (hn9 : n ≤ 9223372036854775807) : CallsR Try.prog 20 [.sl 1 (ls.map .str), aPos p, .int .i64 n, .bool big, .bool here] [] (aMove (rTail ls p n big here)) [] := by
  obtain ⟨p1, p2⟩ := p
  refine callsR_of (mrg := true) (dyn := []) (CtrOK.cons ok_fails (CtrOK.cons ok_EndsF (CtrOK.cons ok_at (CtrOK.cons ok_Less (CtrOK.nil _))))) mixed Try.func20 rfl (by simp [Try.ntmps20]) (by kernel_rfl) ?_
  rw [show Try.f20.results.toList = [.cell 10 39, .cell 11 4] from by kernel_rfl]
  cases hm : may ls (p1, p2) n with
  | false =>
    rw [rTail, if_neg (by rw [hm]; simp)]
    simp (maxSteps := 4000000) only [↓wpA_H, ↓wpH_ret, ↓wpH_seq, ↓wpH_cond, ↓wpH_region, ↓iselH_true, bselH_false, runH_nil, runH_cons, gw, gselH_plain, cselH_bool, ↓chk, justK, noW, ↓oneK, ↓pureK, ↓heapK, envOf, ↓thenA_normal, ↓thenA_ret, ↓stepEv, opnd, Pg.look, Bool.not_false, Bool.false_eq_true, false_implies, implies_true, true_and, and_true, valV, heapV, footV, ofV, ofLeaf, retA, resK, tupA, subA, subQ, ptrsE, frzO, subF, subG, pickOf, frzE, frzC, frzL, frz0, frzH, Pg.freeze, List.foldl_nil, subOs, subEv, subV_succ, subM, subL, ldCells, objAt, ↓callT, callC, callV, callH, normArgs, normA, normC, resL, res8_eq, res_succ, resM, shiftR, shift1, AV.cells, TK.cells, AV.definite, AV.leaf, AV.leafy, putCells, lay, buildL, List.getElem?_cons_succ, List.getElem?_cons_zero, Option.getD_some, reduceCtorEq, Nat.reduceEqDiff, Nat.reduceAdd, List.nil_append, List.append_nil, List.cons_append, List.length_cons, List.length_nil, List.map_cons, List.map_nil, List.set_cons_zero, List.set_cons_succ, Nat.zero_add, ite_true, ite_false, Option.some.injEq, Option.isSome_some, AV.agg.injEq, Prod.mk.injEq, List.all_cons, List.all_nil, Bool.and_self, and_self, exists_eq_left', pickOK_nil, cInt_dec, cSl_dec, cAgg_dec, lOne_dec, lCons_dec, dec2_some, List.contains_nil, List.range'_zero, decL_str, C1by_ns, C1by_pre, C1by_r, C1by_H, optP_some, optV_some, optH_some, List.getD_cons_zero, cutL, List.drop_zero, List.drop_succ_cons, List.take_succ_cons, List.take_zero, Nat.sub_zero, Nat.le_refl, List.drop_nil, List.take_nil, Nat.zero_lt_succ, C1by_it, tk3, dz3, tk4, tz4, dz4, tk36, dz36, tk39, tz39, dz39, kFails, aPos, aMove, aMv, mNone, hm]
  | true =>
    rw [rTail, if_pos hm]
    simp (maxSteps := 4000000) only [↓wpA_H, ↓wpH_skip, ↓wpH_seq, ↓wpH_cond, ↓wpH_block, ↓wpH_region, ↓iselH_false, bselH_false, runH_nil, runH_cons, gw, gselH_plain, cselH_bool, ↓chk, justK, noW, ↓oneK, ↓pureK, ↓heapK, envOf, ↓thenA_normal, ↓stepEv, opnd, Pg.look, Bool.not_true, Bool.false_eq_true, Bool.true_eq_false, false_implies, implies_true, true_and, and_true, valV, heapV, footV, Pg.freeze, List.foldl_nil, ldCells, objAt, ↓callT, callC, callV, callH, normArgs, normA, normC, resL, res8_eq, res_succ, resM, shiftR, shift1, AV.cells, TK.cells, AV.definite, List.getElem?_cons_succ, List.getElem?_cons_zero, Option.getD_some, reduceCtorEq, Nat.reduceEqDiff, Nat.reduceAdd, List.nil_append, List.append_nil, List.cons_append, List.length_cons, List.length_nil, List.map_cons, List.map_nil, Nat.zero_add, ite_true, ite_false, Option.some.injEq, Prod.mk.injEq, and_self, exists_eq_left', cInt_dec, cBool_dec, cSl_dec, cAgg_dec, cRp_dec, lOne_dec, lCons_dec, dec2_some, List.contains_nil, List.range'_zero, decL_str, C1by_ns, C1by_pre, C1by_r, C1by_H, optP_some, optV_some, optH_some, List.getD_cons_zero, cutL, List.drop_zero, List.take_succ_cons, Nat.sub_zero, Nat.le_refl, List.take_nil, Nat.zero_lt_succ, ↓wpH_range, rangH_fn, rangR_some, iterC, C1by_it, C1itBy_it, C1itBy_pre, C1itBy_xs, optL_some, tk3, dz3, tz4, tk36, dz36, tz39, kFails, kEndsF, aAt, kAt, kLess, aPos, hm, cAskFn_decE]
    refine ⟨hf, ?_⟩
    generalize hM : marksOf false false big ls = M
    rw [mark_eq]
    refine rangG_intro M (fun p => [aPos p]) (0, 0) [(6, .ptr 0 2 1 0 0), (7, .ptr 1 1 1 0 0), (9, .ptr 2 1 1 0 0), (10, .ptr 3 5 1 0 0), (11, .ptr 4 1 1 0 0)]
      [.arr 36 2 [.agg [.int .i64 p1, .int .i64 p2]], .arr 3 1 [.int .i64 n], .arr 4 1 [.bool here], .arr 39 5 [.agg [.int .i64 0, .int .i64 0, .int .i64 0, .bool false, .int .i64 0]], .arr 4 1 [.bool false]]
      (fun k => ([(6, .ptr 0 2 1 0 0), (7, .ptr 1 1 1 0 0), (9, .ptr 2 1 1 0 0), (10, .ptr 3 5 1 0 0), (11, .ptr 4 1 1 0 0)], [.arr 36 2 [.agg [.int .i64 p1, .int .i64 p2]], .arr 3 1 [.int .i64 (n - (behind (M.take k) (p1, p2) here).length)], .arr 4 1 [.bool here], .arr 39 5 [.agg [.int .i64 0, .int .i64 0, .int .i64 0, .bool false, .int .i64 0]], .arr 4 1 [.bool false]]))
      (fun k => ((behind (M.take k) (p1, p2) here).length : Int) < n) rfl ?_ ?_ ?_ (fun _ => rfl) ?_ ?_
    · simp (maxSteps := 4000000) only [Pg.look, true_and, and_true, subA, subQ, ptrsE, pairsO, frzO, subF, subG, pickOf, assocN, pairsE, pairsC, pairsL, pairs0, frzE, frzC, frzL, frz0, frzH, Pg.freeze, List.foldl_nil, subOs, subO, subEv, subV_succ, subM, List.getElem?_cons_succ, List.getElem?_cons_zero, reduceCtorEq, Nat.reduceEqDiff, Nat.reduceAdd, List.nil_append, List.append_nil, List.cons_append, Nat.zero_add, ite_true, ite_false, and_self, Nat.lt_irrefl, Nat.not_lt_zero]
      exact ⟨by decide, subX_eq rfl rfl, subX_eq rfl rfl, subX_eq rfl rfl, subX_eq rfl rfl, subX_eq rfl rfl⟩
    · simp (maxSteps := 4000000) only [Pg.look, true_and, and_true, subA, subQ, ptrsE, pairsO, frzO, subF, subG, pickOf, assocN, pairsE, pairsC, pairsL, pairs0, frzE, frzC, frzL, frz0, frzH, Pg.freeze, List.foldl_nil, subOs, subO, subEv, subV_succ, subM, List.getElem?_cons_succ, List.getElem?_cons_zero, reduceCtorEq, Nat.reduceEqDiff, Nat.reduceAdd, Nat.reduceLT, List.nil_append, List.append_nil, List.cons_append, List.length_cons, List.length_nil, Nat.zero_add, ite_true, ite_false, and_self, List.take_zero, Nat.zero_lt_succ]
      exact ⟨by decide, subX_eq rfl rfl, subX_eq (by simp [behind]) rfl, subX_eq rfl rfl, subX_eq rfl rfl, subX_eq rfl rfl⟩
    · have := hm
      simp only [may, Bool.and_eq_true, decide_eq_true_eq] at this
      show ((behind [] (p1, p2) here).length : Int) < n
      simp only [behind, List.filter_nil, List.length_nil]
      omega
    · intro k hk hpk
      have hpk : ((behind (M.take k) (p1, p2) here).length : Int) < n := hpk
      have hs := skip_eq (p1, p2) (M.getD k (0, 0)) here
      have hsu := behind_succ M (p1, p2) here k hk
      have hw : IntKind.i64.wrap (n - (behind (M.take k) (p1, p2) here).length - 1) = n - (behind (M.take k) (p1, p2) here).length - 1 := wrap64 (by omega) (by omega)
      have hg : less ((M.getD k (0, 0)).1, (M.getD k (0, 0)).2) (p1, p2) = false → less ((M.getD k (0, 0)).1, (M.getD k (0, 0)).2) (p1, p2) = false ∧ (((M.getD k (0, 0)).1 == p1 && (M.getD k (0, 0)).2 == p2) = true → (!less ((M.getD k (0, 0)).1, (M.getD k (0, 0)).2) (p1, p2) && ((M.getD k (0, 0)).1 == p1 && (M.getD k (0, 0)).2 == p2)) = true) :=
        fun h => ⟨h, fun h2 => by rw [h, h2]; rfl⟩
      cases hb : isBehind (p1, p2) here (M.getD k (0, 0)) with
      | true =>
        rw [hb] at hs
        have hat := behind_at M (p1, p2) here k hk hb
        rw [if_pos hb] at hsu
        by_cases hn : n - (behind (M.take k) (p1, p2) here).length - 1 = 0
        · have hct : (n - ((behind (M.take k) (p1, p2) here).length : Int) - 1 == 0) = true := by rw [hn]; rfl
          rw [nth_at _ _ n 1 _ hat (by omega)]
          simp (maxSteps := 4000000) only [↓wpA_H, ↓wpH_skip, ↓wpH_ret, ↓wpH_seq, ↓wpH_cond, ↓wpH_block, ↓wpH_region, ↓iselH_true, ↓iselH_false, bselH_false, runH_nil, runH_cons, gw, gselH_plain, gselH_if, kselH_0, kselH_1, cselH_bool, gkind, ↓chk, pickO, justK, noW, ↓oneK, ↓pureK, ↓heapK, ↓thenA_normal, ↓thenA_ret, ↓blockA_ret, ↓stepEv, opnd, Pg.look, binK, intOp, cellsEq, leafEq, dstOf, Bool.and_true, Bool.not_true, Bool.false_eq_true, Bool.true_eq_false, false_implies, implies_true, imp_self, true_and, and_true, pickC, pickV, unc, gof, mux, mergeK, condsL, valV, heapV, footV, binV, intV, mergeable, look_stripE, ofV, ofLeaf, sameK, retA, resK, tupA, subA, subQ, ptrsE, frzO, subF, subG, pickOf, frzE, frzC, frzL, frz0, frzH, Pg.freeze, List.foldl_nil, subOs, subEv, subV_succ, subM, subL, ldCells, objAt, ↓callT, callC, callV, callH, normArgs, normA, normC, resL, res8_eq, res_succ, resM, shiftR, shift1, AV.cells, TK.cells, AV.definite, AV.leaf, AV.leafy, putCells, lay, buildL, Op.operands, List.getElem?_toArray, List.getElem?_cons_succ, List.getElem?_cons_zero, Option.bind_some, Option.getD_some, Nat.reduceEqDiff, Nat.reduceAdd, List.nil_append, List.append_nil, List.cons_append, List.length_cons, List.length_nil, List.map_cons, List.map_nil, List.set_cons_zero, List.set_cons_succ, Nat.zero_add, ite_true, ite_false, Option.some.injEq, Option.isSome_some, AV.agg.injEq, Prod.mk.injEq, Bool.if_false_right, Bool.if_true_left, Bool.decide_eq_true, List.all_cons, List.all_nil, Bool.and_self, and_self, Bool.not_eq_true', exists_eq_left', pickOK_nil, cInt_dec, List.toList_toArray, cAgg_dec, lOne_dec, lCons_dec, dec2_some, List.contains_nil, List.range'_zero, C1by_ns, C1by_pre, C1by_r, C1by_H, optP_some, optV_some, optH_some, List.getD_cons_zero, cutL, List.drop_zero, List.drop_succ_cons, List.take_succ_cons, List.take_zero, Nat.sub_zero, Nat.reduceLeDiff, Nat.le_refl, List.drop_nil, List.take_nil, Nat.zero_lt_succ, C1by_it, C1itBy_it, C1itBy_pre, parE_cons, parE_nil, rqH_ret, tk3, dz3, tk4, dz4, tk36, tz36, dz36, eq36, tk39, tz39, dz39, aPos, aMove, aMv, mTo, hs, hw, hct]
          exact hg
        · have hct : (n - ((behind (M.take k) (p1, p2) here).length : Int) - 1 == 0) = false := by rw [beq_eq_false_iff_ne]; exact hn
          simp (maxSteps := 4000000) only [↓wpA_H, ↓wpH_skip, ↓wpH_seq, ↓wpH_cond, ↓wpH_block, ↓wpH_region, ↓iselH_false, bselH_false, runH_nil, runH_cons, gw, gselH_plain, gselH_if, kselH_0, kselH_1, cselH_bool, gkind, ↓chk, pickO, justK, noW, ↓oneK, ↓pureK, ↓heapK, ↓thenA_normal, ↓blockA_normal, ↓stepEv, opnd, Pg.look, binK, intOp, cellsEq, leafEq, dstOf, Bool.and_true, Bool.not_true, Bool.false_eq_true, Bool.true_eq_false, false_implies, implies_true, imp_self, true_and, and_true, pickC, pickV, unc, gof, mux, mergeK, condsL, valV, heapV, footV, binV, intV, mergeable, look_stripE, ofV, ofLeaf, sameK, subA, subQ, ptrsE, pairsO, frzO, subF, subG, pickOf, assocN, pairsE, pairsC, pairsL, pairs0, frzE, frzC, frzL, frz0, frzH, Pg.freeze, List.foldl_nil, subOs, subO, subEv, subV_succ, subM, ldCells, objAt, ↓callT, callC, callV, callH, normArgs, normA, normC, resL, res8_eq, res_succ, resM, shiftR, shift1, AV.cells, TK.cells, AV.definite, AV.leaf, AV.leafy, putCells, lay, Op.operands, List.getElem?_toArray, List.getElem?_cons_succ, List.getElem?_cons_zero, Option.bind_some, Option.getD_some, reduceCtorEq, Nat.reduceEqDiff, Nat.reduceAdd, Nat.reduceLT, List.nil_append, List.append_nil, List.cons_append, List.length_cons, List.length_nil, List.map_cons, List.map_nil, List.set_cons_zero, List.set_cons_succ, Nat.zero_add, ite_true, ite_false, Option.some.injEq, Prod.mk.injEq, Bool.if_false_right, Bool.if_true_left, Bool.decide_eq_true, List.all_cons, List.all_nil, Bool.and_self, and_self, Bool.not_eq_true', exists_eq_left', cInt_dec, List.toList_toArray, cAgg_dec, lOne_dec, lCons_dec, dec2_some, List.contains_nil, List.range'_zero, C1by_ns, C1by_pre, C1by_r, C1by_H, optP_some, optV_some, optH_some, List.getD_cons_zero, cutL, List.drop_zero, List.drop_succ_cons, List.take_succ_cons, List.take_zero, Nat.sub_zero, Nat.le_refl, List.drop_nil, List.take_nil, Nat.zero_lt_succ, C1by_it, C1itBy_it, C1itBy_pre, parE_cons, parE_nil, rqH_normal, tk3, dz3, tk4, dz4, tk36, tz36, dz36, eq36, aPos, hs, hw, hct]
          exact ⟨hg, by rw [hsu, List.length_append, List.length_singleton]; omega, by decide, subX_eq rfl rfl, subX_eq (by rw [hsu, List.length_append, List.length_singleton]; congr 2; omega) rfl, subX_eq rfl rfl, subX_eq rfl rfl, subX_eq rfl rfl⟩
      | false =>
        rw [hb] at hs
        rw [if_neg (by rw [hb]; simp)] at hsu
        simp (maxSteps := 4000000) only [↓wpA_H, ↓wpH_ret, ↓wpH_exit, ↓wpH_seq, ↓wpH_cond, ↓wpH_block, ↓wpH_region, ↓iselH_true, bselH_false, runH_nil, runH_cons, gw, gselH_plain, gselH_if, kselH_0, kselH_1, cselH_bool, gkind, ↓chk, pickO, justK, noW, ↓oneK, ↓pureK, ↓heapK, ↓thenA_normal, ↓thenA_exit, ↓blockA_exit, ↓stepEv, opnd, Pg.look, binK, cellsEq, leafEq, dstOf, Bool.and_true, Bool.not_false, Bool.false_eq_true, Bool.true_eq_false, false_implies, implies_true, imp_self, true_and, and_true, pickC, pickV, unc, gof, mux, mergeK, condsL, valV, heapV, footV, binV, mergeable, look_stripE, ofV, ofLeaf, sameK, retA, resK, tupA, subA, subQ, ptrsE, pairsO, frzO, subF, subG, pickOf, assocN, pairsE, pairsC, pairsL, pairs0, frzE, frzC, frzL, frz0, frzH, Pg.freeze, List.foldl_nil, subOs, subO, subEv, subV_succ, subM, subL, ldCells, objAt, ↓callT, callC, callV, callH, normArgs, normA, normC, resL, res8_eq, res_succ, resM, shiftR, shift1, AV.cells, TK.cells, AV.definite, AV.leaf, AV.leafy, putCells, lay, buildL, Op.operands, List.getElem?_toArray, List.getElem?_cons_succ, List.getElem?_cons_zero, Option.bind_some, Option.getD_some, reduceCtorEq, Nat.reduceEqDiff, Nat.reduceAdd, Nat.reduceLT, List.nil_append, List.append_nil, List.cons_append, List.length_cons, List.length_nil, List.map_cons, List.map_nil, List.set_cons_zero, List.set_cons_succ, Nat.zero_add, ite_true, ite_false, Option.some.injEq, Option.isSome_some, AV.agg.injEq, Prod.mk.injEq, Bool.if_false_right, Bool.if_true_left, Bool.decide_eq_true, List.all_cons, List.all_nil, Bool.and_self, and_self, Bool.not_eq_true', exists_eq_left', pickOK_nil, cInt_dec, List.toList_toArray, cAgg_dec, lOne_dec, lCons_dec, dec2_some, List.contains_nil, List.range'_zero, C1by_ns, C1by_pre, C1by_r, C1by_H, optP_some, optV_some, optH_some, List.getD_cons_zero, cutL, List.drop_zero, List.drop_succ_cons, List.take_succ_cons, List.take_zero, Nat.sub_zero, Nat.le_refl, List.drop_nil, List.take_nil, Nat.zero_lt_succ, C1by_it, C1itBy_it, C1itBy_pre, parE_cons, parE_nil, rqH_normal, rqH_exit, tk4, dz4, tk36, tz36, dz36, eq36, tk39, tz39, dz39, kFails, kEndsF, aAt, kAt, kLess, aPos, aMove, aMv, hs]
        exact ⟨hg, by rw [hsu]; exact hpk, by decide, subX_eq rfl rfl, subX_eq (by rw [hsu]) rfl, subX_eq rfl rfl, subX_eq rfl rfl, subX_eq rfl rfl⟩
    · intro hpk
      have hpk : ((behind (M.take M.length) (p1, p2) here).length : Int) < n := hpk
      rw [List.take_of_length_le (Nat.le_refl M.length)] at hpk ⊢
      have hno : nth (behind M (p1, p2) here) n 1 = mNone := by rw [nth, if_pos (by omega)]
      rw [hno]
      simp (maxSteps := 4000000) only [↓wpA_H, ↓wpH_ret, ↓wpH_seq, ↓wpH_region, bselH_false, runH_nil, runH_cons, gw, gselH_plain, ↓chk, justK, ↓oneK, ↓pureK, ↓heapK, ↓thenA_normal, ↓blockA_normal, ↓stepEv, opnd, Pg.look, Bool.false_eq_true, implies_true, true_and, and_true, valV, heapV, footV, ofV, ofLeaf, retA, resK, tupA, subA, subQ, ptrsE, frzO, subF, subG, pickOf, frzE, frzC, frzL, frz0, frzH, Pg.freeze, List.foldl_nil, subOs, subEv, subV_succ, subM, subL, ldCells, objAt, res_succ, resM, AV.cells, TK.cells, AV.leaf, AV.leafy, putCells, lay, buildL, List.getElem?_cons_succ, List.getElem?_cons_zero, Option.getD_some, Nat.reduceEqDiff, Nat.reduceAdd, List.nil_append, List.append_nil, List.length_cons, List.length_nil, List.map_nil, List.set_cons_zero, List.set_cons_succ, Nat.zero_add, ite_true, ite_false, Option.some.injEq, Option.isSome_some, AV.agg.injEq, List.all_cons, List.all_nil, Bool.and_self, and_self, exists_eq_left', pickOK_nil, List.contains_nil, List.getD_cons_zero, cutL, List.drop_zero, List.drop_succ_cons, List.take_succ_cons, List.take_zero, Nat.sub_zero, Nat.le_refl, List.drop_nil, List.take_nil, Nat.zero_lt_succ, tk4, dz4, tk39, tz39, dz39, kFails, kEndsF, aAt, kAt, kLess, aPos, aMove, aMv, mNone]
end Go.Pg
namespace Go.Pg
open Go Go.Proofs

def tw (M : List (Int × Int)) (p : Int × Int) : List (Int × Int) := M.takeWhile fun q => less q p
def wBack (M : List (Int × Int)) (p : Int × Int) (n : Int) : (Int × Int) × Bool := if n > (tw M p).length then ((0, 0), false) else ((tw M p).getD ((tw M p).length - n.toNat) (0, 0), true)

theorem tw_stop (p : Int × Int) : ∀ (M : List (Int × Int)) (k : Nat), k < M.length → (M.take k).all (fun q => less q p) = true → less (M.getD k (0, 0)) p = false → tw M p = M.take k := by
  intro M
  induction M with
  | nil => intro k h; simp at h
  | cons q M ih =>
    intro k hk ha hs
    cases k with
    | zero =>
      have hs : less q p = false := hs
      simp [tw, hs]
    | succ k =>
      simp only [List.take_succ_cons, List.all_cons, Bool.and_eq_true] at ha
      have := ih k (by simpa using hk) ha.2 hs
      unfold tw at this ⊢
      rw [List.takeWhile_cons, if_pos ha.1, this, List.take_succ_cons]
theorem tw_all (p : Int × Int) (M : List (Int × Int)) (h : M.all (fun q => less q p) = true) : tw M p = M := by
  unfold tw
  induction M with
  | nil => rfl
  | cons q M ih =>
    simp only [List.all_cons, Bool.and_eq_true] at h
    rw [List.takeWhile_cons, if_pos h.1, ih h.2]

def aBack (r : (Int × Int) × Bool) : AV := .tuple [aPos r.1, .bool r.2]

set_option maxRecDepth 20000 in
set_option maxHeartbeats 4000000 in
theorem calls_back (ls : Ls) (e st big : Bool) (p : Int × Int) (n : Int) (h1 : 1 ≤ n) (hf : fits 65536 65536 ls) : CallsR Try.prog 36 [aAt ls e st big, aPos p, .int .i64 n] [] (aBack (wBack (marksOf st e big ls) p n)) [] := by
  obtain ⟨p1, p2⟩ := p
  refine callsR_of (mrg := true) (dyn := []) (CtrOK.cons ok_at (CtrOK.cons ok_Less (CtrOK.nil _))) mixed Try.func36 rfl (by simp [Try.ntmps36]) (by kernel_rfl) ?_
  rw [show Try.f36.results.toList = [.cell 6 36, .tmp 7] from by kernel_rfl]
  have hml : (marksOf st e big ls).length ≤ 4295032832 := by
    have h1 := marksTo_len e (gOf st big) ls 65536 (fits_getD hf) ls.length
    have h2 : ls.length * (65536 + 1) ≤ 65536 * 65537 := Nat.mul_le_mul hf.1 (by omega)
    show (marksTo e (gOf st big) ls ls.length).length ≤ _
    omega
  generalize hM : marksOf st e big ls = M at hml ⊢
  have hend : ∀ k, tw M (p1, p2) = M.take k → k ≤ M.length → (n > (k : Int) → wBack M (p1, p2) n = ((0, 0), false)) ∧ (n ≤ (k : Int) → wBack M (p1, p2) n = ((M.take k).getD (k - n.toNat) (0, 0), true)) := by
    intro k hk hkl
    have hl : (tw M (p1, p2)).length = k := by rw [hk, List.length_take]; omega
    unfold wBack
    rw [hl]
    exact ⟨fun h => if_pos h, fun h => by rw [if_neg (by omega), hk]⟩
  cases st
  all_goals
    unfold aAt
    simp (maxSteps := 4000000) only [↓wpA_H, ↓wpH_seq, ↓wpH_block, ↓wpH_region, bselH_false, runH_nil, runH_cons, gw, gselH_plain, ↓chk, justK, noW, ↓oneK, ↓pureK, ↓heapK, envOf, ↓thenA_normal, ↓stepEv, opnd, Pg.look, Bool.false_eq_true, implies_true, true_and, valV, heapV, footV, ofV, ofLeaf, Pg.freeze, List.foldl_nil, resL, res8_eq, res_succ, resM, AV.cells, AV.definite, reduceCtorEq, Nat.reduceEqDiff, Nat.reduceAdd, List.nil_append, List.append_nil, List.cons_append, List.length_cons, List.length_nil, Nat.zero_add, ite_true, ite_false, and_self, cBool_dec, cSl_dec, cRp_dec, lOne_dec, lCons_dec, dec2_some, List.contains_nil, decL_str, C1by_pre, optP_some, ↓wpH_range, rangH_fn, rangR_some, iterC, C1by_it, C1itBy_it, C1itBy_pre, C1itBy_xs, optL_some, tz25, tz36, aPos, kAt, kLess, cAskFn_decS, cAskFn_decE]
    refine ⟨hf, ?_⟩
    rw [mark_eq, hM]
    refine rangG_intro M (fun p => [aPos p]) (0, 0) [(2, .int .i64 n), (4, .ptr 0 2 1 0 0), (6, .ptr 1 2 1 0 0), (8, .ptr 2 1 1 0 0)] [.arr 36 2 [.agg [.int .i64 p1, .int .i64 p2]], .arr 36 2 [.agg [.int .i64 0, .int .i64 0]], .arr 25 1 [.nls]]
      (fun k => ([(2, .int .i64 n), (4, .ptr 0 2 1 0 0), (6, .ptr 1 2 1 0 0), (8, .ptr 2 1 1 0 0)], [.arr 36 2 [.agg [.int .i64 p1, .int .i64 p2]], .arr 36 2 [.agg [.int .i64 0, .int .i64 0]], .arr 25 1 [.own 3 2 k], .arr 36 2 ((M.take k).map aPos)])) (fun k => (M.take k).all (fun q => less q (p1, p2)) = true) rfl ?_ ?_ (by simp) (fun _ => rfl) ?_ ?_
    · simp (maxSteps := 4000000) only [Pg.look, true_and, and_true, subA, subQ, ptrsE, pairsO, frzO, subF, subG, pickOf, assocN, pairsE, pairsC, pairsL, pairs0, frzE, frzC, frzL, frz0, frzH, Pg.freeze, List.foldl_nil, subOs, subO, subEv, subV_succ, subM, List.getElem?_cons_succ, List.getElem?_cons_zero, reduceCtorEq, Nat.reduceEqDiff, Nat.reduceAdd, List.nil_append, List.append_nil, List.cons_append, Nat.zero_add, ite_true, ite_false, and_self, Nat.lt_irrefl, Nat.not_lt_zero]
      exact ⟨by decide, subX_eq rfl rfl, subX_eq rfl rfl, subX_eq rfl rfl⟩
    · simp (maxSteps := 4000000) only [Pg.look, true_and, and_true, subA, subQ, ptrsE, pairsO, frzO, subF, subG, pickOf, assocN, pairsE, pairsC, pairsL, pairs0, frzE, frzC, frzL, frz0, frzH, Pg.freeze, List.foldl_nil, subOs, subO, subEv, subV_succ, subM, List.getElem?_cons_succ, List.getElem?_cons_zero, reduceCtorEq, Nat.reduceEqDiff, Nat.reduceAdd, Nat.reduceLT, List.nil_append, List.append_nil, List.cons_append, List.length_cons, List.length_nil, List.map_nil, Nat.zero_add, ite_true, ite_false, and_self, List.take_zero, Nat.lt_irrefl, Nat.zero_lt_succ]
      exact ⟨by decide, subX_eq rfl rfl, subX_eq rfl rfl, subX_nls rfl⟩
    · intro k hk hpk
      have hpk : (M.take k).all (fun q => less q (p1, p2)) = true := hpk
      have hrl : (M.take k).length = k := by rw [List.length_take]; omega
      have hap := app1_pos (M.take k) (M.getD k (0, 0))
      rw [← take_succ_getD M k (0, 0) hk] at hap
      have hrl2 : (M.take (k + 1)).length = k + 1 := by rw [List.length_take]; omega
      cases hb : less (M.getD k (0, 0)) (p1, p2) with
      | true =>
        have hall : (M.take (k + 1)).all (fun q => less q (p1, p2)) = true := by
          rw [take_succ_getD M k (0, 0) hk, List.all_append, hpk]
          simp only [List.all_cons, List.all_nil, hb]; rfl
        simp (maxSteps := 4000000) only [↓wpA_H, ↓wpH_skip, ↓wpH_seq, ↓wpH_cond, ↓wpH_block, ↓wpH_region, ↓iselH_false, bselH_false, runH_nil, runH_cons, gw, gselH_plain, cselH_bool, ↓chk, justK, noW, ↓oneK, ↓pureK, ↓heapK, ↓thenA_normal, ↓blockA_normal, ↓stepEv, opnd, Pg.look, Bool.not_true, Bool.false_eq_true, Bool.true_eq_false, false_implies, implies_true, true_and, and_true, valV, heapV, footV, ofV, ofLeaf, subA, subQ, ptrsE, pairsO, frzO, subF, subG, pickOf, assocN, pairsE, pairsC, pairsL, pairs0, frzE, frzC, frzL, frz0, frzH, Pg.freeze, List.foldl_nil, subOs, subO, subEv, subV_succ, subM, srcV, srcE, appK, ldCells, objAt, ↓callT, callC, callV, callH, normArgs, normA, resL, res8_eq, res_succ, resM, shiftR, shift1, AV.cells, TK.cells, AV.definite, AV.leaf, AV.leafy, putCells, lay, List.getElem?_cons_succ, List.getElem?_cons_zero, Option.getD_some, reduceCtorEq, Nat.reduceEqDiff, Nat.reduceAdd, Nat.reduceLT, List.nil_append, List.append_nil, List.cons_append, List.length_cons, List.length_nil, List.map_cons, List.map_nil, List.set_cons_zero, List.set_cons_succ, Nat.zero_add, ite_true, ite_false, Option.some.injEq, Option.isSome_some, Prod.mk.injEq, List.all_cons, List.all_nil, Bool.and_self, and_self, exists_eq_left', List.length_map, cInt_dec, rg1, cAgg_dec, lOne_dec, lCons_dec, dec2_some, List.contains_nil, beq_self_eq_true, List.range'_zero, Nat.reducePow, C1by_ns, C1by_pre, C1by_r, C1by_H, optP_some, optV_some, optH_some, List.getD_cons_zero, cutL, List.drop_zero, List.drop_succ_cons, List.take_succ_cons, List.take_zero, Nat.sub_zero, Nat.reduceLeDiff, Nat.le_refl, Nat.lt_irrefl, Nat.one_mul, List.drop_nil, List.take_nil, Nat.zero_lt_succ, C1by_it, C1itBy_it, C1itBy_pre, parE_cons, parE_nil, rqH_normal, tk25, dz25, tk36, tz36, dz36, eb36, hrl, hap, hb, aPos_def]
        exact ⟨⟨by decide, by omega⟩, hall, by decide, subX_eq rfl rfl, subX_eq rfl rfl, subX_own rfl rfl, subX_eq rfl (pureB_posL _)⟩
      | false =>
        have hfin := hend k (tw_stop _ M k hk hpk hb) (by omega)
        by_cases hn : n > (k : Int)
        · have hct : decide (n > (k : Int)) = true := decide_eq_true hn
          rw [hfin.1 hn]
          simp (maxSteps := 4000000) only [↓wpA_H, ↓wpH_ret, ↓wpH_exit, ↓wpH_seq, ↓wpH_cond, ↓wpH_block, ↓wpH_region, ↓iselH_true, bselH_false, runH_nil, runH_cons, gw, gselH_plain, cselH_bool, ↓chk, justK, noW, ↓oneK, ↓pureK, ↓heapK, ↓thenA_normal, ↓thenA_ret, ↓thenA_exit, ↓blockA_exit, ↓stepEv, opnd, Pg.look, binK, intOp, Bool.not_false, Bool.false_eq_true, Bool.true_eq_false, false_implies, implies_true, true_and, and_true, valV, heapV, footV, binV, intV, ofV, ofLeaf, retA, resK, tupA, subA, subQ, ptrsE, pairsO, frzO, subF, subG, pickOf, assocN, pairsE, pairsC, pairsL, pairs0, frzE, frzC, frzL, frz0, frzH, Pg.freeze, List.foldl_nil, subOs, subO, subEv, subV_succ, subM, subL, slen, ldCells, objAt, ↓callT, callC, callV, callH, normArgs, normA, resL, res8_eq, res_succ, resM, shiftR, shift1, AV.cells, TK.cells, AV.definite, AV.leaf, AV.leafy, putCells, lay, buildL, List.getElem?_cons_succ, List.getElem?_cons_zero, Option.getD_some, reduceCtorEq, Nat.reduceEqDiff, Nat.reduceAdd, Nat.reduceLT, List.nil_append, List.append_nil, List.cons_append, List.length_cons, List.length_nil, List.map_cons, List.map_nil, List.set_cons_zero, List.set_cons_succ, Nat.zero_add, ite_true, ite_false, Option.some.injEq, Option.isSome_some, AV.int.injEq, AV.agg.injEq, Prod.mk.injEq, List.all_cons, List.all_nil, Bool.and_self, and_self, exists_eq_left', pickOK_nil, cInt_dec, cAgg_dec, lOne_dec, lCons_dec, dec2_some, List.contains_nil, List.range'_zero, C1by_ns, C1by_pre, C1by_r, C1by_H, optP_some, optV_some, optH_some, List.getD_cons_zero, cutL, List.drop_zero, List.drop_succ_cons, List.take_succ_cons, List.take_zero, Nat.sub_zero, Nat.le_refl, Nat.lt_irrefl, List.drop_nil, List.take_nil, Nat.zero_lt_succ, C1by_it, C1itBy_it, C1itBy_pre, parE_cons, parE_nil, rqH_normal, rqH_exit, tk25, dz25, tk36, tz36, dz36, aBack, kAt, kLess, hb, hct, aPos_def]
        · have hct : decide (n > (k : Int)) = false := decide_eq_false hn
          have hw : IntKind.i64.wrap ((k : Int) - n) = ((k - n.toNat : Nat) : Int) := by rw [wrap64 (by omega) (by omega)]; omega
          rw [hfin.2 (by omega)]
          simp (maxSteps := 4000000) only [↓wpA_H, ↓wpH_skip, ↓wpH_ret, ↓wpH_exit, ↓wpH_seq, ↓wpH_cond, ↓wpH_block, ↓wpH_region, ↓iselH_true, ↓iselH_false, bselH_false, runH_nil, runH_cons, gw, gselH_plain, cselH_bool, ↓chk, justK, noW, ↓oneK, ↓pureK, ↓heapK, ↓thenA_normal, ↓thenA_exit, ↓blockA_exit, ↓stepEv, opnd, Pg.look, binK, intOp, Bool.not_false, Bool.false_eq_true, Bool.true_eq_false, false_implies, implies_true, true_and, and_true, valV, heapV, footV, binV, intV, ofV, ofLeaf, retA, resK, tupA, subA, subQ, ptrsE, pairsO, frzO, subF, subG, pickOf, assocN, pairsE, pairsC, pairsL, pairs0, frzE, frzC, frzL, frz0, frzH, Pg.freeze, List.foldl_nil, subOs, subO, subEv, subV_succ, subM, subL, slen, ldCells, objAt, ↓callT, callC, callV, callH, normArgs, normA, resL, res8_eq, res_succ, resM, shiftR, shift1, AV.cells, TK.cells, AV.definite, AV.leaf, AV.leafy, putCells, lay, List.getElem?_cons_succ, List.getElem?_cons_zero, Option.getD_some, reduceCtorEq, Nat.reduceEqDiff, Nat.reduceAdd, Nat.reduceLT, List.nil_append, List.append_nil, List.cons_append, List.length_cons, List.length_nil, List.map_cons, List.map_nil, List.set_cons_zero, List.set_cons_succ, Nat.zero_add, ite_true, ite_false, Option.some.injEq, AV.int.injEq, Prod.mk.injEq, List.all_cons, List.all_nil, Bool.and_self, and_self, exists_eq_left', pickOK_nil, List.length_map, cInt_dec, cAgg_dec, lOne_dec, lCons_dec, dec2_some, List.contains_nil, List.range'_zero, C1by_ns, C1by_pre, C1by_r, C1by_H, optP_some, optV_some, optH_some, Int.toNat_natCast, List.getD_cons_zero, cutL, List.drop_zero, List.drop_succ_cons, List.take_succ_cons, List.take_zero, Nat.sub_zero, Nat.le_refl, Nat.lt_irrefl, List.drop_nil, List.take_nil, Nat.zero_lt_succ, C1by_it, C1itBy_it, C1itBy_pre, parE_cons, parE_nil, rqH_normal, rqH_exit, tk25, dz25, tk36, tz36, dz36, aBack, kAt, kLess, hrl, hb, hct, hw, getD_pos, aPos_def]
          exact ⟨⟨by omega, by omega⟩, by omega⟩
    · intro hpk
      have hpk : (M.take M.length).all (fun q => less q (p1, p2)) = true := hpk
      rw [List.take_of_length_le (Nat.le_refl M.length)] at hpk ⊢
      have hfin := hend M.length (by rw [List.take_of_length_le (Nat.le_refl M.length)]; exact tw_all _ M hpk) (Nat.le_refl _)
      rw [List.take_of_length_le (Nat.le_refl M.length)] at hfin
      by_cases hn : n > (M.length : Int)
      · have hct : decide (n > (M.length : Int)) = true := decide_eq_true hn
        rw [hfin.1 hn]
        simp (maxSteps := 4000000) only [↓wpA_H, ↓wpH_ret, ↓wpH_seq, ↓wpH_cond, ↓wpH_region, ↓iselH_true, bselH_false, runH_nil, runH_cons, gw, gselH_plain, cselH_bool, ↓chk, justK, noW, ↓oneK, ↓pureK, ↓heapK, ↓thenA_normal, ↓thenA_ret, ↓blockA_normal, ↓stepEv, opnd, Pg.look, binK, intOp, Bool.false_eq_true, implies_true, true_and, and_true, valV, heapV, footV, binV, intV, ofV, ofLeaf, retA, resK, tupA, subA, subQ, ptrsE, frzO, subF, subG, pickOf, frzE, frzC, frzL, frz0, frzH, Pg.freeze, List.foldl_nil, subOs, subEv, subV_succ, subM, subL, slen, ldCells, objAt, res_succ, resM, AV.cells, TK.cells, AV.leaf, AV.leafy, putCells, lay, buildL, List.getElem?_cons_succ, List.getElem?_cons_zero, Option.getD_some, Nat.reduceEqDiff, Nat.reduceAdd, List.nil_append, List.append_nil, List.length_cons, List.length_nil, List.map_nil, List.set_cons_zero, List.set_cons_succ, Nat.zero_add, ite_true, ite_false, Option.some.injEq, Option.isSome_some, AV.int.injEq, AV.agg.injEq, List.all_cons, List.all_nil, Bool.and_self, and_self, exists_eq_left', pickOK_nil, List.contains_nil, List.getD_cons_zero, cutL, List.drop_zero, List.drop_succ_cons, List.take_succ_cons, List.take_zero, Nat.sub_zero, Nat.le_refl, List.drop_nil, List.take_nil, Nat.zero_lt_succ, tk25, dz25, tk36, tz36, dz36, aBack, kAt, kLess, hct, aPos_def]
      · have hct : decide (n > (M.length : Int)) = false := decide_eq_false hn
        have hw : IntKind.i64.wrap ((M.length : Int) - n) = ((M.length - n.toNat : Nat) : Int) := by rw [wrap64 (by omega) (by omega)]; omega
        rw [hfin.2 (by omega)]
        simp (maxSteps := 4000000) only [↓wpA_H, ↓wpH_skip, ↓wpH_ret, ↓wpH_seq, ↓wpH_cond, ↓wpH_region, ↓iselH_false, bselH_false, runH_nil, runH_cons, gw, gselH_plain, cselH_bool, ↓chk, justK, noW, ↓oneK, ↓pureK, ↓heapK, ↓thenA_normal, ↓blockA_normal, ↓stepEv, opnd, Pg.look, binK, intOp, Bool.false_eq_true, implies_true, true_and, and_true, valV, heapV, footV, binV, intV, ofV, ofLeaf, retA, resK, tupA, subA, subQ, ptrsE, frzO, subF, subG, pickOf, frzE, frzC, frzL, frz0, frzH, Pg.freeze, List.foldl_nil, subOs, subEv, subV_succ, subM, subL, slen, ldCells, objAt, res_succ, resM, AV.cells, TK.cells, AV.leaf, AV.leafy, putCells, lay, List.getElem?_cons_succ, List.getElem?_cons_zero, Option.getD_some, Nat.reduceEqDiff, Nat.reduceAdd, List.nil_append, List.append_nil, List.length_cons, List.length_nil, List.set_cons_zero, List.set_cons_succ, Nat.zero_add, ite_true, ite_false, Option.some.injEq, AV.int.injEq, List.all_cons, List.all_nil, Bool.and_self, and_self, exists_eq_left', pickOK_nil, List.length_map, List.contains_nil, Int.toNat_natCast, List.getD_cons_zero, cutL, List.drop_zero, List.drop_succ_cons, List.take_succ_cons, List.take_zero, Nat.sub_zero, Nat.le_refl, List.drop_nil, List.take_nil, Nat.zero_lt_succ, tk25, dz25, tk36, dz36, aBack, kAt, kLess, hct, hw, getD_pos, aPos_def]
        exact ⟨⟨by omega, by omega⟩, by omega⟩
end Go.Pg
namespace Go.Pg
open Go Go.Proofs

def kBack8 : C1 := C1.by [.id, .id, .id] (lCons (cFn 44 lAt) (lCons cPos2 (lOne (cInt .i64)))) (fun d => 1 ≤ d.2.2 ∧ fits 65536 65536 d.1.1) (fun d => aBack (wBack (marksOf d.1.2.2.1 d.1.2.1 d.1.2.2.2 d.1.1) d.2.1 d.2.2)) (fun _ => [])
theorem ok_back : C1OK Try.prog 36 kBack8 := C1OK.by (by kernel_rfl) (fun d h => calls_back d.1.1 d.1.2.1 d.1.2.2.1 d.1.2.2.2 d.2.1 d.2.2 h.1 h.2) (fun _ => rfl) (fun _ => rfl)

def mBack (r : (Int × Int) × Bool) (way : Int) : Mv × Bool := if r.2 = true then mTo r.1 way else mNone
def wBackM (ls : Ls) (p : Int × Int) (n : Int) (st e big : Bool) (way : Int) : Mv × Bool := if may ls p n = true then mBack (wBack (marksOf st e big ls) p n) way else mNone

set_option maxRecDepth 20000 in
set_option maxHeartbeats 4000000 in
theorem calls_WBack (ls : Ls) (p : Int × Int) (n : Int) (big : Bool) (hf : fits 65536 65536 ls) : CallsR Try.prog 19 [.sl 1 (ls.map .str), aPos p, .int .i64 n, .bool big] [] (aMove (wBackM ls p n true true big 0)) [] := by
  obtain ⟨p1, p2⟩ := p
  refine callsR_of (mrg := true) (dyn := []) (CtrOK.cons ok_fails (CtrOK.cons ok_StartsF (CtrOK.cons ok_back (CtrOK.nil _)))) mixed Try.func19 rfl (by simp [Try.ntmps19]) (by kernel_rfl) ?_
  rw [show Try.f19.results.toList = [.cell 8 39, .tmp 9] from by kernel_rfl]
  cases hm : may ls (p1, p2) n with
  | false =>
    rw [wBackM, if_neg (by rw [hm]; simp)]
    simp (maxSteps := 4000000) only [↓wpA_H, ↓wpH_ret, ↓wpH_seq, ↓wpH_cond, ↓wpH_region, ↓iselH_true, bselH_false, runH_nil, runH_cons, gw, gselH_plain, cselH_bool, ↓chk, justK, noW, ↓oneK, ↓pureK, ↓heapK, envOf, ↓thenA_normal, ↓thenA_ret, ↓stepEv, opnd, Pg.look, Bool.not_false, Bool.false_eq_true, false_implies, implies_true, true_and, and_true, valV, heapV, footV, ofV, ofLeaf, retA, resK, tupA, subA, subQ, ptrsE, frzO, subF, subG, pickOf, frzE, frzC, frzL, frz0, frzH, Pg.freeze, List.foldl_nil, subOs, subEv, subV_succ, subM, subL, ldCells, objAt, ↓callT, callC, callV, callH, normArgs, normA, normC, resL, res8_eq, res_succ, resM, shiftR, shift1, AV.cells, TK.cells, AV.definite, AV.leaf, AV.leafy, putCells, lay, buildL, List.getElem?_cons_succ, List.getElem?_cons_zero, Option.getD_some, reduceCtorEq, Nat.reduceEqDiff, Nat.reduceAdd, List.nil_append, List.append_nil, List.cons_append, List.length_cons, List.length_nil, List.map_cons, List.map_nil, List.set_cons_zero, List.set_cons_succ, Nat.zero_add, ite_true, ite_false, Option.some.injEq, Option.isSome_some, AV.agg.injEq, Prod.mk.injEq, List.all_cons, List.all_nil, Bool.and_self, and_self, exists_eq_left', pickOK_nil, cInt_dec, cSl_dec, cAgg_dec, lOne_dec, lCons_dec, dec2_some, List.contains_nil, List.range'_zero, decL_str, C1by_ns, C1by_pre, C1by_r, C1by_H, optP_some, optV_some, optH_some, List.getD_cons_zero, cutL, List.drop_zero, List.drop_succ_cons, List.take_succ_cons, List.take_zero, Nat.sub_zero, Nat.le_refl, List.drop_nil, List.take_nil, Nat.zero_lt_succ, C1by_it, tk36, dz36, tk39, tz39, dz39, kFails, kStartsF, kBack8, aPos, aMove, aMv, mNone, hm]
  | true =>
    have hn : 1 ≤ n := by
      have := hm
      simp only [may, Bool.and_eq_true, decide_eq_true_eq] at this
      omega
    rw [wBackM, if_pos hm]
    generalize hr : wBack (marksOf true true big ls) (p1, p2) n = r
    obtain ⟨⟨r1, r2⟩, ok⟩ := r
    cases ok with
    | true =>
      simp (maxSteps := 4000000) only [↓wpA_H, ↓wpH_skip, ↓wpH_ret, ↓wpH_seq, ↓wpH_cond, ↓wpH_region, ↓iselH_false, bselH_false, runH_nil, runH_cons, gw, gselH_plain, cselH_bool, ↓chk, justK, noW, ↓oneK, ↓pureK, ↓heapK, envOf, ↓thenA_normal, ↓stepEv, opnd, Pg.look, Bool.not_true, Bool.false_eq_true, false_implies, implies_true, true_and, and_true, valV, heapV, footV, ofV, ofLeaf, retA, resK, tupA, subA, subQ, ptrsE, frzO, subF, subG, pickOf, frzE, frzC, frzL, frz0, frzH, Pg.freeze, List.foldl_nil, subOs, subEv, subV_succ, subM, subL, ldCells, objAt, ↓callT, callC, callV, callH, normArgs, normA, normC, resL, res8_eq, res_succ, resM, shiftR, shift1, AV.cells, TK.cells, AV.definite, AV.leaf, AV.leafy, putCells, lay, buildL, List.getElem?_cons_succ, List.getElem?_cons_zero, Option.getD_some, reduceCtorEq, Nat.reduceEqDiff, Nat.reduceAdd, List.nil_append, List.append_nil, List.cons_append, List.length_cons, List.length_nil, List.map_cons, List.map_nil, List.set_cons_zero, List.set_cons_succ, Nat.zero_add, ite_true, ite_false, Option.some.injEq, Option.isSome_some, AV.agg.injEq, Prod.mk.injEq, List.all_cons, List.all_nil, Bool.and_self, and_self, exists_eq_left', pickOK_nil, cInt_dec, cBool_dec, cSl_dec, cAgg_dec, cRp_dec, cFn_dec, lOne_dec, lCons_dec, dec2_some, List.contains_nil, List.range'_zero, decL_str, C1by_ns, C1by_pre, C1by_r, C1by_H, optP_some, optV_some, optH_some, List.getD_cons_zero, cutL, List.drop_zero, List.drop_succ_cons, List.take_succ_cons, List.take_zero, Nat.sub_zero, Nat.reduceLeDiff, Nat.le_refl, List.drop_nil, List.take_nil, Nat.zero_lt_succ, C1by_it, tk36, tz36, dz36, tk39, tz39, dz39, kFails, kStartsF, kBack8, aAt, aBack, aPos, aMove, aMv, mBack, mTo, hm, cAskFn_decS, hr]
      exact ⟨hn, hf⟩
    | false =>
      simp (maxSteps := 4000000) only [↓wpA_H, ↓wpH_skip, ↓wpH_ret, ↓wpH_seq, ↓wpH_cond, ↓wpH_region, ↓iselH_true, ↓iselH_false, bselH_false, runH_nil, runH_cons, gw, gselH_plain, cselH_bool, ↓chk, justK, noW, ↓oneK, ↓pureK, ↓heapK, envOf, ↓thenA_normal, ↓thenA_ret, ↓stepEv, opnd, Pg.look, Bool.not_false, Bool.not_true, Bool.false_eq_true, false_implies, implies_true, true_and, and_true, valV, heapV, footV, ofV, ofLeaf, retA, resK, tupA, subA, subQ, ptrsE, frzO, subF, subG, pickOf, frzE, frzC, frzL, frz0, frzH, Pg.freeze, List.foldl_nil, subOs, subEv, subV_succ, subM, subL, ldCells, objAt, ↓callT, callC, callV, callH, normArgs, normA, normC, resL, res8_eq, res_succ, resM, shiftR, shift1, AV.cells, TK.cells, AV.definite, AV.leaf, AV.leafy, putCells, lay, buildL, List.getElem?_cons_succ, List.getElem?_cons_zero, Option.getD_some, reduceCtorEq, Nat.reduceEqDiff, Nat.reduceAdd, List.nil_append, List.append_nil, List.cons_append, List.length_cons, List.length_nil, List.map_cons, List.map_nil, List.set_cons_zero, List.set_cons_succ, Nat.zero_add, ite_true, ite_false, Option.some.injEq, Option.isSome_some, AV.agg.injEq, Prod.mk.injEq, List.all_cons, List.all_nil, Bool.and_self, and_self, exists_eq_left', pickOK_nil, cInt_dec, cBool_dec, cSl_dec, cAgg_dec, cRp_dec, cFn_dec, lOne_dec, lCons_dec, dec2_some, List.contains_nil, List.range'_zero, decL_str, C1by_ns, C1by_pre, C1by_r, C1by_H, optP_some, optV_some, optH_some, List.getD_cons_zero, cutL, List.drop_zero, List.drop_succ_cons, List.take_succ_cons, List.take_zero, Nat.sub_zero, Nat.le_refl, List.drop_nil, List.take_nil, Nat.zero_lt_succ, C1by_it, tk36, tz36, dz36, tk39, tz39, dz39, kFails, kStartsF, kBack8, aAt, aBack, aPos, aMove, aMv, mBack, mNone, hm, cAskFn_decS, hr]
      exact ⟨hn, hf⟩

set_option maxRecDepth 20000 in
set_option maxHeartbeats 4000000 in
theorem calls_WBackTail (ls : Ls) (p : Int × Int) (n : Int) (big : Bool) (hf : fits 65536 65536 ls) : CallsR Try.prog 26 [.sl 1 (ls.map .str), aPos p, .int .i64 n, .bool big] [] (aMove (wBackM ls p n false false big 1)) [] := by
  obtain ⟨p1, p2⟩ := p
  refine callsR_of (mrg := true) (dyn := []) (CtrOK.cons ok_fails (CtrOK.cons ok_EndsF (CtrOK.cons ok_back (CtrOK.nil _)))) mixed Try.func26 rfl (by simp [Try.ntmps26]) (by kernel_rfl) ?_
  rw [show Try.f26.results.toList = [.cell 8 39, .tmp 9] from by kernel_rfl]
  cases hm : may ls (p1, p2) n with
  | false =>
    rw [wBackM, if_neg (by rw [hm]; simp)]
    simp (maxSteps := 4000000) only [↓wpA_H, ↓wpH_ret, ↓wpH_seq, ↓wpH_cond, ↓wpH_region, ↓iselH_true, bselH_false, runH_nil, runH_cons, gw, gselH_plain, cselH_bool, ↓chk, justK, noW, ↓oneK, ↓pureK, ↓heapK, envOf, ↓thenA_normal, ↓thenA_ret, ↓stepEv, opnd, Pg.look, Bool.not_false, Bool.false_eq_true, false_implies, implies_true, true_and, and_true, valV, heapV, footV, ofV, ofLeaf, retA, resK, tupA, subA, subQ, ptrsE, frzO, subF, subG, pickOf, frzE, frzC, frzL, frz0, frzH, Pg.freeze, List.foldl_nil, subOs, subEv, subV_succ, subM, subL, ldCells, objAt, ↓callT, callC, callV, callH, normArgs, normA, normC, resL, res8_eq, res_succ, resM, shiftR, shift1, AV.cells, TK.cells, AV.definite, AV.leaf, AV.leafy, putCells, lay, buildL, List.getElem?_cons_succ, List.getElem?_cons_zero, Option.getD_some, reduceCtorEq, Nat.reduceEqDiff, Nat.reduceAdd, List.nil_append, List.append_nil, List.cons_append, List.length_cons, List.length_nil, List.map_cons, List.map_nil, List.set_cons_zero, List.set_cons_succ, Nat.zero_add, ite_true, ite_false, Option.some.injEq, Option.isSome_some, AV.agg.injEq, Prod.mk.injEq, List.all_cons, List.all_nil, Bool.and_self, and_self, exists_eq_left', pickOK_nil, cInt_dec, cSl_dec, cAgg_dec, lOne_dec, lCons_dec, dec2_some, List.contains_nil, List.range'_zero, decL_str, C1by_ns, C1by_pre, C1by_r, C1by_H, optP_some, optV_some, optH_some, List.getD_cons_zero, cutL, List.drop_zero, List.drop_succ_cons, List.take_succ_cons, List.take_zero, Nat.sub_zero, Nat.le_refl, List.drop_nil, List.take_nil, Nat.zero_lt_succ, C1by_it, tk36, dz36, tk39, tz39, dz39, kFails, kEndsF, kBack8, aPos, aMove, aMv, mNone, hm]
  | true =>
    have hn : 1 ≤ n := by
      have := hm
      simp only [may, Bool.and_eq_true, decide_eq_true_eq] at this
      omega
    rw [wBackM, if_pos hm]
    generalize hr : wBack (marksOf false false big ls) (p1, p2) n = r
    obtain ⟨⟨r1, r2⟩, ok⟩ := r
    cases ok with
    | true =>
      simp (maxSteps := 4000000) only [↓wpA_H, ↓wpH_skip, ↓wpH_ret, ↓wpH_seq, ↓wpH_cond, ↓wpH_region, ↓iselH_false, bselH_false, runH_nil, runH_cons, gw, gselH_plain, cselH_bool, ↓chk, justK, noW, ↓oneK, ↓pureK, ↓heapK, envOf, ↓thenA_normal, ↓stepEv, opnd, Pg.look, Bool.not_true, Bool.false_eq_true, false_implies, implies_true, true_and, and_true, valV, heapV, footV, ofV, ofLeaf, retA, resK, tupA, subA, subQ, ptrsE, frzO, subF, subG, pickOf, frzE, frzC, frzL, frz0, frzH, Pg.freeze, List.foldl_nil, subOs, subEv, subV_succ, subM, subL, ldCells, objAt, ↓callT, callC, callV, callH, normArgs, normA, normC, resL, res8_eq, res_succ, resM, shiftR, shift1, AV.cells, TK.cells, AV.definite, AV.leaf, AV.leafy, putCells, lay, buildL, List.getElem?_cons_succ, List.getElem?_cons_zero, Option.getD_some, reduceCtorEq, Nat.reduceEqDiff, Nat.reduceAdd, List.nil_append, List.append_nil, List.cons_append, List.length_cons, List.length_nil, List.map_cons, List.map_nil, List.set_cons_zero, List.set_cons_succ, Nat.zero_add, ite_true, ite_false, Option.some.injEq, Option.isSome_some, AV.agg.injEq, Prod.mk.injEq, List.all_cons, List.all_nil, Bool.and_self, and_self, exists_eq_left', pickOK_nil, cInt_dec, cBool_dec, cSl_dec, cAgg_dec, cRp_dec, cFn_dec, lOne_dec, lCons_dec, dec2_some, List.contains_nil, List.range'_zero, decL_str, C1by_ns, C1by_pre, C1by_r, C1by_H, optP_some, optV_some, optH_some, List.getD_cons_zero, cutL, List.drop_zero, List.drop_succ_cons, List.take_succ_cons, List.take_zero, Nat.sub_zero, Nat.reduceLeDiff, Nat.le_refl, List.drop_nil, List.take_nil, Nat.zero_lt_succ, C1by_it, tk36, tz36, dz36, tk39, tz39, dz39, kFails, kEndsF, kBack8, aAt, aBack, aPos, aMove, aMv, mBack, mTo, hm, cAskFn_decE, hr]
      exact ⟨hn, hf⟩
    | false =>
      simp (maxSteps := 4000000) only [↓wpA_H, ↓wpH_skip, ↓wpH_ret, ↓wpH_seq, ↓wpH_cond, ↓wpH_region, ↓iselH_true, ↓iselH_false, bselH_false, runH_nil, runH_cons, gw, gselH_plain, cselH_bool, ↓chk, justK, noW, ↓oneK, ↓pureK, ↓heapK, envOf, ↓thenA_normal, ↓thenA_ret, ↓stepEv, opnd, Pg.look, Bool.not_false, Bool.not_true, Bool.false_eq_true, false_implies, implies_true, true_and, and_true, valV, heapV, footV, ofV, ofLeaf, retA, resK, tupA, subA, subQ, ptrsE, frzO, subF, subG, pickOf, frzE, frzC, frzL, frz0, frzH, Pg.freeze, List.foldl_nil, subOs, subEv, subV_succ, subM, subL, ldCells, objAt, ↓callT, callC, callV, callH, normArgs, normA, normC, resL, res8_eq, res_succ, resM, shiftR, shift1, AV.cells, TK.cells, AV.definite, AV.leaf, AV.leafy, putCells, lay, buildL, List.getElem?_cons_succ, List.getElem?_cons_zero, Option.getD_some, reduceCtorEq, Nat.reduceEqDiff, Nat.reduceAdd, List.nil_append, List.append_nil, List.cons_append, List.length_cons, List.length_nil, List.map_cons, List.map_nil, List.set_cons_zero, List.set_cons_succ, Nat.zero_add, ite_true, ite_false, Option.some.injEq, Option.isSome_some, AV.agg.injEq, Prod.mk.injEq, List.all_cons, List.all_nil, Bool.and_self, and_self, exists_eq_left', pickOK_nil, cInt_dec, cBool_dec, cSl_dec, cAgg_dec, cRp_dec, cFn_dec, lOne_dec, lCons_dec, dec2_some, List.contains_nil, List.range'_zero, decL_str, C1by_ns, C1by_pre, C1by_r, C1by_H, optP_some, optV_some, optH_some, List.getD_cons_zero, cutL, List.drop_zero, List.drop_succ_cons, List.take_succ_cons, List.take_zero, Nat.sub_zero, Nat.le_refl, List.drop_nil, List.take_nil, Nat.zero_lt_succ, C1by_it, tk36, tz36, dz36, tk39, tz39, dz39, kFails, kEndsF, kBack8, aAt, aBack, aPos, aMove, aMv, mBack, mNone, hm, cAskFn_decE, hr]
      exact ⟨hn, hf⟩

/-! ### In order -/
theorem less_trans {a b c : Int × Int} (h1 : less a b = true) (h2 : less b c = true) : less a c = true := by
  unfold less at *
  simp only [Bool.or_eq_true, Bool.and_eq_true, decide_eq_true_eq, beq_iff_eq] at *
  omega

theorem marksIn_sorted (g : List UInt8 → Nat → Bool) (l : Nat) (s : List UInt8) : ∀ (k : Nat), (marksIn g l s k).Pairwise (fun a b => less a b = true) ∧ ∀ q ∈ marksIn g l s k, q.1 = l ∧ 0 ≤ q.2 ∧ q.2 < k := by
  intro k
  induction k with
  | zero => exact ⟨by simp [marksIn], by simp [marksIn]⟩
  | succ k ih =>
    rw [marksIn_succ]
    split
    · refine ⟨List.pairwise_append.2 ⟨ih.1, by simp, fun a ha b hb => ?_⟩, fun q hq => ?_⟩
      · obtain ⟨h1, h2, h3⟩ := ih.2 a ha
        rw [List.mem_singleton] at hb
        subst hb
        unfold less
        simp only [Bool.or_eq_true, Bool.and_eq_true, decide_eq_true_eq, beq_iff_eq]
        omega
      · rcases List.mem_append.1 hq with hq | hq
        · obtain ⟨h1, h2, h3⟩ := ih.2 q hq
          exact ⟨h1, h2, by omega⟩
        · rw [List.mem_singleton] at hq
          subst hq
          exact ⟨rfl, by simp, by simp; omega⟩
    · exact ⟨ih.1, fun q hq => by obtain ⟨h1, h2, h3⟩ := ih.2 q hq; exact ⟨h1, h2, by omega⟩⟩

theorem lineMarks_sorted (e : Bool) (g : List UInt8 → Nat → Bool) (l : Nat) (s : List UInt8) : (lineMarks e g l s).Pairwise (fun a b => less a b = true) ∧ ∀ q ∈ lineMarks e g l s, q.1 = l ∧ 0 ≤ q.2 ∧ q.2 ≤ s.length := by
  unfold lineMarks
  have h := marksIn_sorted g l s s.length
  split
  · next hs =>
    have : s = [] := by simp only [Bool.and_eq_true, beq_iff_eq] at hs; exact hs.2
    subst this
    simp [marksIn]
  · rw [List.nil_append]
    exact ⟨h.1, fun q hq => by obtain ⟨h1, h2, h3⟩ := h.2 q hq; exact ⟨h1, h2, by omega⟩⟩

theorem marksTo_sorted (e : Bool) (g : List UInt8 → Nat → Bool) (ls : Ls) : ∀ (n : Nat), (marksTo e g ls n).Pairwise (fun a b => less a b = true) ∧ ∀ q ∈ marksTo e g ls n, 0 ≤ q.1 ∧ q.1 < n ∧ 0 ≤ q.2 ∧ q.2 ≤ (ls.getD q.1.toNat []).length := by
  intro n
  induction n with
  | zero => exact ⟨by simp [marksTo], by simp [marksTo]⟩
  | succ n ih =>
    rw [marksTo_succ]
    have h := lineMarks_sorted e g n (ls.getD n [])
    refine ⟨List.pairwise_append.2 ⟨ih.1, h.1, fun a ha b hb => ?_⟩, fun q hq => ?_⟩
    · obtain ⟨h1, h2, h3⟩ := ih.2 a ha
      obtain ⟨h4, h5⟩ := h.2 b hb
      unfold less
      simp only [Bool.or_eq_true, Bool.and_eq_true, decide_eq_true_eq, beq_iff_eq]
      omega
    · rcases List.mem_append.1 hq with hq | hq
      · obtain ⟨h1, h2, h3⟩ := ih.2 q hq
        exact ⟨h1, by omega, h3⟩
      · obtain ⟨h1, h2, h3⟩ := h.2 q hq
        exact ⟨by omega, by omega, h2, by rw [h1]; simpa using h3⟩

theorem tw_filter (p : Int × Int) : ∀ (M : List (Int × Int)), M.Pairwise (fun a b => less a b = true) → tw M p = M.filter (fun q => less q p) := by
  intro M
  induction M with
  | nil => intro _; rfl
  | cons q M ih =>
    intro h
    rw [List.pairwise_cons] at h
    unfold tw at ih ⊢
    cases hq : less q p with
    | true => rw [List.takeWhile_cons, if_pos hq, List.filter_cons, if_pos hq, ih h.2]
    | false =>
      rw [List.takeWhile_cons, if_neg (by rw [hq]; simp), List.filter_cons, if_neg (by rw [hq]; simp)]
      symm
      rw [List.filter_eq_nil_iff]
      intro b hb hbp
      rw [less_trans (h.1 b hb) hbp] at hq
      cases hq

theorem mBack_nth (M : List (Int × Int)) (p : Int × Int) (n way : Int) (hs : M.Pairwise (fun a b => less a b = true)) (hn : 1 ≤ n) : mBack (wBack M p n) way = nth (ahead M p) n way := by
  have ha : ahead M p = (tw M p).reverse := by
    unfold ahead
    rw [List.filter_reverse, tw_filter p M hs]
  unfold wBack nth mBack
  rw [ha, List.length_reverse]
  split
  · rfl
  · next h =>
    rw [if_pos rfl]
    congr 1
    show (tw M p).getD ((tw M p).length - n.toNat) (0, 0) = _
    rw [getD_rev _ _ _ (by omega)]
    congr 1
    omega
end Go.Pg
