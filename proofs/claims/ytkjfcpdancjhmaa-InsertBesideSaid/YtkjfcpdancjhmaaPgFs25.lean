/- A text put into lines side by side, by the document. -/
import Derived.Test.YtkjfcpdancjhmaaPgFs24
namespace Go.Pg
open Go Go.Proofs

theorem has10_take (x : List UInt8) (i : Nat) (h : i < x.length) : has10 (x.take (i + 1)) = (has10 (x.take i) || x.getD i 0 == 10) := by
  rw [take_succ_getD x i 0 h]; simp [has10]

theorem take_drop_succ (ls : Ls) (a i : Nat) (h : a + i < ls.length) : (ls.drop a).take (i + 1) = (ls.drop a).take i ++ [ls.getD (a + i) []] := by
  rw [take_succ_getD (ls.drop a) i [] (by rw [List.length_drop]; omega)]
  congr 2
  rw [List.getD_eq_getElem?_getD, List.getElem?_drop, ← List.getD_eq_getElem?_getD]

set_option maxRecDepth 20000 in
set_option maxHeartbeats 4000000 in
theorem calls_RBeside (ls : Ls) (a b col : Int) (x : List UInt8) (fill : Bool) (hs : small ls) (hx : x.length ≤ 1048576) :
    CallsR Try.prog 47 [.sl 1 (ls.map .str), .int .i64 a, .int .i64 b, .int .i64 col, .str x, .bool fill] []
      (.tuple [aCh (beside ls a b col x fill).1, .bool (beside ls a b col x fill).2]) [] := by
  refine callsR_of (mrg := true) (dyn := []) (CtrOK.cons ok_spaces (CtrOK.nil _)) mixed Try.func47 rfl (by simp [Try.ntmps47]) (by kernel_rfl) ?_
  rw [show Try.f47.results.toList = [.cell 12 33, .tmp 13] from by kernel_rfl]
  simp (maxSteps := 4000000) only [↓wpA_H, ↓wpH_skip, ↓wpH_ret, ↓wpH_seq, ↓wpH_cond, ↓wpH_block, ↓wpH_loop, ↓wpH_region, iselH_if, bselH_false, runH_nil, runH_cons, gw, gselH_plain, gselH_if, kselH_1, cselH_bool, gkind, ↓chk, justK, noW, ↓oneK, ↓pureK, ↓heapK, envOf, ↓thenA_normal, ↓thenA_ret, ↓stepEv, opnd, Pg.look, binK, intOp, dstOf, Bool.false_eq_true, implies_true, imp_self, true_and, and_true, pickC, pickV, unc, gof, mux, mergeK, condsL, valV, heapV, footV, binV, intV, mergeable, look_stripE, ofV, ofLeaf, sameK, retA, resK, tupA, subA, subQ, ptrsE, frzO, subF, subG, pickOf, frzE, frzC, frzL, frz0, frzH, Pg.freeze, subOs, subEv, subV, subL, slen, ldCells, objAt, res, AV.cells, TK.cells, AV.definite, AV.leaf, AV.leafy, putCells, lay, buildL, Op.operands, Call.operands, Array.toList_append, List.getElem?_toArray, List.getElem?_cons_succ, List.getElem?_cons_zero, List.getElem?_nil, Option.bind_some, Option.getD_some, reduceCtorEq, Nat.reduceEqDiff, Nat.reduceAdd, List.nil_append, List.append_nil, List.length_cons, List.length_nil, List.map_nil, List.set_cons_zero, Nat.zero_add, ite_true, ite_false, Option.some.injEq, Option.isSome_some, AV.int.injEq, AV.agg.injEq, Bool.if_true_left, Bool.decide_eq_true, decide_eq_true_eq, decide_eq_false_iff_not, Int.not_lt, List.all_cons, List.all_nil, Bool.and_self, and_self, Bool.not_eq_true', exists_eq_left', pickOK_nil, List.length_map, List.toList_toArray, resIn, List.contains_nil, List.getD_cons_zero, cutL, List.drop_zero, List.drop_succ_cons, List.take_succ_cons, List.take_zero, Nat.sub_zero, Nat.le_refl, List.drop_nil, List.take_nil, Nat.zero_lt_succ, tk22, tk33, tz33, dz33, kSpaces, aCh]
  refine ⟨fun h => ?_, fun h => ?_⟩
  · have e : beside ls a b col x fill = ((0, [], []), false) := if_pos (by
      simp only [besideBad, Bool.or_eq_true, decide_eq_true_eq] at h ⊢
      omega)
    rw [e]
    exact ⟨⟨rfl, rfl, rfl⟩, rfl⟩
  simp only [Bool.or_eq_false_iff, decide_eq_false_iff_not] at h
  obtain ⟨⟨⟨⟨h1, h3⟩, h2⟩, h4⟩, h5⟩ := h
  have hl := hs.1
  refine loopH_intro (α := Nat) (fun i => ([(0, .sl 1 (ls.map .str)), (1, .int .i64 a), (2, .int .i64 b), (3, .int .i64 col), (4, .str x), (5, .bool fill), (12, .ptr 0 3 1 0 0), (13, .bool false), (14, .int .i64 i)], [.arr 33 3 [.agg [.int .i64 0, .nls, .nls]]])) (fun i => i ≤ x.length ∧ has10 (x.take i) = false) (fun i => x.length - i) 0 ⟨by omega, rfl⟩ ?_ ?_
  · simp (maxSteps := 4000000) only [Pg.look, true_and, and_true, subA, subQ, ptrsE, pairsO, frzO, subF, subG, pickOf, assocN, pairsE, pairsC, pairsL, pairs0, frzE, frzC, frzL, frz0, frzH, Pg.freeze, List.foldl_nil, subOs, subO, subEv, subV, List.getElem?_cons_zero, reduceCtorEq, Nat.reduceEqDiff, List.nil_append, List.append_nil, ite_true, ite_false, and_self, pickOK_one, Int.cast_ofNat_Int, Nat.lt_irrefl]
    exact subX_eq rfl rfl
  intro i hi
  by_cases hi2 : i < x.length
  · have hct : decide ((i : Int) < (x.length : Int)) = true := decide_eq_true (by omega)
    simp (maxSteps := 4000000) only [↓wpA_H, ↓wpH_skip, ↓wpH_ret, ↓wpH_seq, ↓wpH_cond, ↓wpH_block, ↓wpH_region, ↓iselH_true, iselH_if, bselH_false, runH_nil, runH_cons, gw, gselH_plain, cselH_bool, ↓chk, justK, ↓oneK, ↓pureK, ↓heapK, ↓thenA_normal, ↓thenA_ret, ↓blockA_normal, ↓blockA_ret, ↓stepEv, opnd, Pg.look, binK, intOp, Bool.false_eq_true, implies_true, true_and, and_true, valV, heapV, footV, binV, intV, ofV, ofLeaf, retA, resK, tupA, subA, subQ, ptrsE, pairsO, frzO, subF, subG, pickOf, assocN, pairsE, pairsC, pairsL, pairs0, frzE, frzC, frzL, frz0, frzH, Pg.freeze, List.foldl_nil, subOs, subO, subEv, subV, subL, ldCells, objAt, res, AV.cells, TK.cells, AV.leaf, AV.leafy, putCells, lay, buildL, List.getElem?_cons_zero, List.getElem?_nil, Option.getD_some, reduceCtorEq, Nat.reduceEqDiff, Nat.reduceAdd, List.nil_append, List.append_nil, List.length_cons, List.length_nil, List.map_nil, List.set_cons_zero, Nat.zero_add, ite_true, ite_false, Option.some.injEq, Option.isSome_some, AV.agg.injEq, List.all_cons, List.all_nil, Bool.and_self, and_self, exists_eq_left', pickOK_nil, pickOK_one, resIn, List.contains_nil, Int.toNat_natCast, List.getD_cons_zero, cutL, List.drop_zero, List.drop_succ_cons, List.take_succ_cons, List.take_zero, Nat.sub_zero, Nat.le_refl, Nat.lt_irrefl, List.drop_nil, List.take_nil, Nat.zero_lt_succ, tk9, tk33, tz33, dz33, kSpaces, aCh, hct]
    have hst := has10_take x i hi2
    refine ⟨by omega, fun h => ?_, fun h => ⟨i + 1, ⟨by omega, ?_⟩, by omega, subX_eq rfl rfl, by rw [wrap64 (by omega) (by omega)]; omega⟩⟩
    · have h7 : has10 x = true := by
        have h8 := eq_of_beq h
        have h9 : x.getD i 0 = 10 := UInt8.toNat_inj.1 (by show _ = 10; omega)
        simp only [has10, List.any_eq_true, beq_iff_eq]
        exact ⟨x.getD i 0, by rw [List.getD_eq_getElem?_getD, List.getElem?_eq_getElem hi2]; simp, h9⟩
      have e : beside ls a b col x fill = ((0, [], []), false) := if_pos (by rw [besideBad, h7]; simp)
      rw [e]
      exact ⟨⟨rfl, rfl, rfl⟩, rfl⟩
    · rw [hst, hi.2, Bool.false_or, beq_eq_false_iff_ne]
      intro h9
      rw [h9] at h
      exact absurd h (by decide)
  have hcf : decide ((i : Int) < (x.length : Int)) = false := decide_eq_false (by omega)
  have hno : has10 x = false := by
    have := hi.2
    rw [List.take_of_length_le (by omega)] at this
    exact this
  have e : beside ls a b col x fill = ((a, cutL ls a.toNat (b + 1).toNat, (cutL ls a.toNat (b + 1).toNat).map (besideLine col x fill)), true) := if_neg (by
    simp only [besideBad, hno, Bool.or_false, Bool.or_eq_true, decide_eq_true_eq]
    omega)
  simp (maxSteps := 4000000) only [↓wpA_H, ↓wpH_exit, ↓wpH_seq, ↓wpH_cond, ↓wpH_block, ↓wpH_loop, ↓wpH_region, ↓iselH_false, bselH_false, runH_nil, runH_cons, gw, gselH_plain, cselH_bool, ↓chk, justK, noW, ↓oneK, ↓pureK, ↓heapK, ↓thenA_normal, ↓thenA_exit, ↓blockA_exit, ↓stepEv, opnd, Pg.look, binK, intOp, Bool.false_eq_true, implies_true, true_and, and_true, valV, heapV, footV, binV, intV, ofV, ofLeaf, retA, AV.cells, TK.cells, AV.definite, AV.leaf, AV.leafy, putCells, lay, buildL, List.getElem?_cons_succ, List.getElem?_cons_zero, Option.getD_some, reduceCtorEq, Nat.reduceEqDiff, Nat.reduceAdd, List.nil_append, List.append_nil, List.cons_append, List.length_cons, List.length_nil, List.map_cons, List.map_nil, List.set_cons_zero, List.set_cons_succ, Nat.zero_add, ite_true, ite_false, Option.some.injEq, Option.isSome_some, AV.agg.injEq, List.all_cons, List.all_nil, Bool.and_self, and_self, exists_eq_left', List.contains_nil, List.getD_cons_zero, List.drop_zero, List.drop_succ_cons, List.take_zero, Nat.reduceLeDiff, Nat.le_refl, List.drop_nil, Nat.zero_lt_succ, tk9, tk33, tz33, dz33, kSpaces, hcf]
  refine loopH_intro (α := Nat) (fun j => ([(0, .sl 1 (ls.map .str)), (2, .int .i64 b), (3, .int .i64 col), (4, .str x), (5, .bool fill), (12, .ptr 0 3 1 0 0), (13, .bool false), (15, .ptr 1 3 1 0 0), (16, .int .i64 (a + j))], [.arr 33 3 [.agg [.int .i64 0, .nls, .nls]], .arr 33 3 [.agg [.int .i64 a, .own 2 1 j, .own 3 1 j]], .arr 9 1 (((ls.drop a.toNat).take j).map .str), .arr 9 1 ((((ls.drop a.toNat).take j).map (besideLine col x fill)).map .str)]))
    (fun j => a + j ≤ b + 1) (fun j => (b + 1 - a).toNat - j) 0 (by omega) ?_ ?_
  · simp (maxSteps := 4000000) only [Pg.look, true_and, and_true, subA, subQ, ptrsE, pairsO, frzO, subF, subG, pickOf, assocN, pairsE, pairsC, pairsL, pairs0, frzE, frzC, frzL, frz0, frzH, Pg.freeze, List.foldl_nil, subOs, subO, subEv, subV, List.getElem?_cons_succ, List.getElem?_cons_zero, reduceCtorEq, Nat.reduceEqDiff, Nat.reduceAdd, List.nil_append, List.append_nil, List.cons_append, List.map_nil, Nat.zero_add, ite_true, ite_false, and_self, Int.cast_ofNat_Int, List.take_zero, Nat.lt_irrefl, Nat.not_lt_zero]
    exact ⟨rfl, ⟨subX_eq rfl rfl, subX_cells (by simp [subL, subC, subV, AV.cells])⟩, by omega⟩
  intro j hj
  have htl : ((ls.drop a.toNat).take j).length = j := by rw [List.length_take, List.length_drop]; omega
  by_cases hj2 : a + j ≤ b
  · have hct : decide (a + (j : Int) ≤ b) = true := decide_eq_true hj2
    have htn : (a + (j : Int)).toNat = a.toNat + j := by omega
    have hnext := take_drop_succ ls a.toNat j (by omega)
    have hsl := hs.2 (a.toNat + j)
    have w1 : IntKind.i64.wrap (a + (j : Int) + 1) = a + ((j + 1 : Nat) : Int) := by rw [wrap64 (by omega) (by omega)]; omega
    generalize hs0 : ls.getD (a.toNat + j) [] = s at hnext hsl
    have wA : IntKind.i64.wrap (col - s.length) = col - s.length := wrap64 (by omega) (by omega)
    have hmap : ((ls.drop a.toNat).take (j + 1)).map (besideLine col x fill) = ((ls.drop a.toNat).take j).map (besideLine col x fill) ++ [besideLine col x fill s] := by
      rw [hnext, List.map_append]; rfl
    cases fill with
    | true =>
      have hA2 : decide (col ≤ ((s.length + (col - (s.length : Int)).toNat : Nat) : Int)) = true := decide_eq_true (by omega)
      simp (maxSteps := 4000000) only [↓wpA_H, ↓wpH_skip, ↓wpH_seq, ↓wpH_cond, ↓wpH_block, ↓wpH_region, ↓iselH_true, bselH_false, runH_nil, runH_cons, gw, gselH_plain, cselH_bool, ↓chk, justK, noW, ↓oneK, ↓pureK, ↓heapK, ↓thenA_normal, ↓blockA_normal, ↓stepEv, opnd, Pg.look, binK, intOp, strOp, Bool.false_eq_true, implies_true, true_and, and_true, valV, heapV, footV, binV, intV, strV, cutV, ofV, ofLeaf, subA, subQ, ptrsE, pairsO, frzO, subF, subG, pickOf, assocN, pairsE, pairsC, pairsL, pairs0, frzE, frzC, frzL, frz0, frzH, Pg.freeze, List.foldl_nil, subOs, subO, subEv, subV, srcV, srcE, appK, ldCells, objAt, sliceS, ↓callT, callC, callV, callH, normArgs, normA, resL, res, shiftR, shift1, AV.cells, TK.cells, AV.definite, AV.leaf, AV.leafy, putCells, lay, List.getElem?_cons_succ, List.getElem?_cons_zero, Option.map_some, Option.map_none, Option.getD_some, reduceCtorEq, Nat.reduceEqDiff, Nat.reduceAdd, List.nil_append, List.append_nil, List.cons_append, List.length_cons, List.length_nil, List.map_cons, List.map_nil, List.set_cons_zero, List.set_cons_succ, Nat.zero_add, ite_true, ite_false, Option.some.injEq, Option.isSome_some, List.all_cons, List.all_nil, Bool.and_self, and_self, exists_eq_left', List.length_map, cInt_dec, List.length_append, rg1, lOne_dec, app1_str, List.contains_nil, beq_self_eq_true, List.range'_zero, Nat.reducePow, C1by_ns, C1by_pre, C1by_r, C1by_H, optP_some, optV_some, optH_some, getD_str, List.getD_cons_zero, List.drop_zero, List.drop_succ_cons, List.take_succ_cons, List.take_zero, Nat.reduceLeDiff, Nat.le_refl, Nat.lt_irrefl, Nat.mul_one, List.drop_nil, Nat.not_lt_zero, Nat.zero_lt_succ, tk9, dz9, eb9, tk22, tk33, dz33, kSpaces, hct, htn, hs0, wA, hA2, htl, w1, List.length_replicate]
      have hlen : (s ++ List.replicate (col - (s.length : Int)).toNat 32).length = s.length + (col - (s.length : Int)).toNat := by rw [List.length_append, List.length_replicate]
      have hT : besideLine col x true s = (s ++ List.replicate (col - (s.length : Int)).toNat 32).take col.toNat ++ x ++ (s ++ List.replicate (col - (s.length : Int)).toNat 32).drop col.toNat := by
        have h8 : (if (decide ((s.length : Int) < col) && true) = true then s ++ List.replicate (col - (s.length : Int)).toNat 32 else s) = s ++ List.replicate (col - (s.length : Int)).toNat 32 := by
          by_cases h7 : (s.length : Int) < col
          · rw [if_pos (by simp [h7])]
          · have h9 : (col - (s.length : Int)).toNat = 0 := by omega
            rw [if_neg (by simp [h7]), h9]; simp
        simp only [besideLine, h8]
        exact if_pos (by rw [hlen]; omega)
      refine ⟨by omega, ⟨by decide, by omega⟩, by omega, by omega, by omega, ?_, by omega, ?_, ⟨by decide, by omega⟩, j + 1, by omega, by omega, rfl, ⟨subX_eq rfl rfl, subX_cells (by simp [subL, subC, subV, AV.cells]), subX_eq (by rw [hnext]) (pureB_strs _), subX_eq (by rw [hmap, hT]) (pureB_strs _)⟩, rfl⟩
      · rw [List.length_take, hlen]; omega
      · rw [List.length_take, List.length_drop, hlen]; omega
    | false =>
      by_cases hB : col ≤ (s.length : Int)
      · have hB2 : decide (col ≤ (s.length : Int)) = true := decide_eq_true hB
        simp (maxSteps := 4000000) only [↓wpA_H, ↓wpH_skip, ↓wpH_seq, ↓wpH_cond, ↓wpH_block, ↓wpH_region, ↓iselH_true, ↓iselH_false, bselH_false, runH_nil, runH_cons, gw, gselH_plain, cselH_bool, ↓chk, justK, noW, ↓oneK, ↓pureK, ↓heapK, ↓thenA_normal, ↓blockA_normal, ↓stepEv, opnd, Pg.look, binK, intOp, strOp, Bool.false_eq_true, implies_true, true_and, and_true, valV, heapV, footV, binV, intV, strV, cutV, ofV, ofLeaf, subA, subQ, ptrsE, pairsO, frzO, subF, subG, pickOf, assocN, pairsE, pairsC, pairsL, pairs0, frzE, frzC, frzL, frz0, frzH, Pg.freeze, List.foldl_nil, subOs, subO, subEv, subV, srcV, srcE, appK, ldCells, objAt, sliceS, AV.cells, TK.cells, AV.definite, AV.leaf, AV.leafy, putCells, lay, List.getElem?_cons_succ, List.getElem?_cons_zero, Option.map_some, Option.map_none, Option.getD_some, reduceCtorEq, Nat.reduceEqDiff, Nat.reduceAdd, List.nil_append, List.append_nil, List.cons_append, List.length_cons, List.length_nil, List.map_cons, List.map_nil, List.set_cons_zero, List.set_cons_succ, Nat.zero_add, ite_true, ite_false, Option.some.injEq, Option.isSome_some, List.all_cons, List.all_nil, Bool.and_self, and_self, exists_eq_left', List.length_map, List.length_append, rg1, app1_str, List.contains_nil, beq_self_eq_true, Nat.reducePow, getD_str, List.getD_cons_zero, List.drop_zero, List.drop_succ_cons, List.take_succ_cons, List.take_zero, Nat.reduceLeDiff, Nat.le_refl, Nat.lt_irrefl, Nat.mul_one, List.drop_nil, Nat.not_lt_zero, Nat.zero_lt_succ, tk9, dz9, eb9, tk22, tk33, dz33, kSpaces, hct, htn, hs0, htl, w1, hB2]
        have hT : besideLine col x false s = s.take col.toNat ++ x ++ s.drop col.toNat := by
          simp only [besideLine, Bool.and_false, Bool.false_eq_true, if_false]
          exact if_pos hB
        refine ⟨by omega, ⟨by decide, by omega⟩, by omega, ?_, by omega, ?_, ⟨by decide, by omega⟩, j + 1, by omega, by omega, rfl, ⟨subX_eq rfl rfl, subX_cells (by simp [subL, subC, subV, AV.cells]), subX_eq (by rw [hnext]) (pureB_strs _), subX_eq (by rw [hmap, hT]) (pureB_strs _)⟩, rfl⟩
        · rw [List.length_take]; omega
        · rw [List.length_take, List.length_drop]; omega
      · have hB2 : decide (col ≤ (s.length : Int)) = false := decide_eq_false hB
        simp (maxSteps := 4000000) only [↓wpA_H, ↓wpH_skip, ↓wpH_seq, ↓wpH_cond, ↓wpH_block, ↓wpH_region, ↓iselH_true, ↓iselH_false, bselH_false, runH_nil, runH_cons, gw, gselH_plain, cselH_bool, ↓chk, justK, noW, ↓oneK, ↓pureK, ↓heapK, ↓thenA_normal, ↓blockA_normal, ↓stepEv, opnd, Pg.look, binK, intOp, Bool.false_eq_true, implies_true, true_and, and_true, valV, heapV, footV, binV, intV, ofV, ofLeaf, subA, subQ, ptrsE, pairsO, frzO, subF, subG, pickOf, assocN, pairsE, pairsC, pairsL, pairs0, frzE, frzC, frzL, frz0, frzH, Pg.freeze, List.foldl_nil, subOs, subO, subEv, subV, srcV, srcE, appK, ldCells, objAt, AV.cells, TK.cells, AV.definite, AV.leaf, AV.leafy, putCells, lay, List.getElem?_cons_succ, List.getElem?_cons_zero, Option.getD_some, reduceCtorEq, Nat.reduceEqDiff, Nat.reduceAdd, List.nil_append, List.append_nil, List.cons_append, List.length_cons, List.length_nil, List.map_cons, List.map_nil, List.set_cons_zero, List.set_cons_succ, Nat.zero_add, ite_true, ite_false, Option.some.injEq, Option.isSome_some, List.all_cons, List.all_nil, Bool.and_self, and_self, exists_eq_left', List.length_map, rg1, app1_str, List.contains_nil, beq_self_eq_true, Nat.reducePow, getD_str, List.getD_cons_zero, List.drop_zero, List.drop_succ_cons, List.take_succ_cons, List.take_zero, Nat.reduceLeDiff, Nat.le_refl, Nat.lt_irrefl, Nat.mul_one, List.drop_nil, Nat.not_lt_zero, Nat.zero_lt_succ, tk9, dz9, eb9, tk22, tk33, dz33, kSpaces, hct, htn, hs0, htl, w1, hB2]
        have hT : besideLine col x false s = s := by
          simp only [besideLine, Bool.and_false, Bool.false_eq_true, if_false]
          exact if_neg hB
        exact ⟨by omega, ⟨by decide, by omega⟩, ⟨by decide, by omega⟩, j + 1, by omega, by omega, rfl, ⟨subX_eq rfl rfl, subX_cells (by simp [subL, subC, subV, AV.cells]), subX_eq (by rw [hnext]) (pureB_strs _), subX_eq (by rw [hmap, hT]) (pureB_strs _)⟩, rfl⟩
  · have hcf2 : decide (a + (j : Int) ≤ b) = false := decide_eq_false hj2
    simp (maxSteps := 4000000) only [↓wpA_H, ↓wpH_ret, ↓wpH_exit, ↓wpH_seq, ↓wpH_cond, ↓wpH_region, ↓iselH_false, bselH_false, runH_nil, runH_cons, gw, gselH_plain, cselH_bool, ↓chk, justK, noW, ↓oneK, ↓pureK, ↓heapK, ↓thenA_normal, ↓thenA_exit, ↓blockA_exit, ↓stepEv, opnd, Pg.look, binK, intOp, Bool.false_eq_true, implies_true, true_and, and_true, valV, heapV, footV, binV, intV, ofV, ofLeaf, retA, resK, tupA, subA, subQ, ptrsE, frzO, subF, subG, pickOf, frzE, frzC, frzL, frz0, frzH, Pg.freeze, List.foldl_nil, List.foldl_cons, subOs, subEv, subV, subL, ldCells, objAt, res, AV.cells, TK.cells, AV.leaf, AV.leafy, putCells, lay, frzAt, List.getElem?_cons_succ, List.getElem?_cons_zero, List.getElem?_nil, Option.getD_some, reduceCtorEq, Nat.reduceEqDiff, Nat.reduceAdd, List.nil_append, List.append_nil, List.cons_append, List.length_cons, List.length_nil, List.set_cons_zero, List.set_cons_succ, Nat.zero_add, ite_true, ite_false, Option.some.injEq, AV.sl.injEq, List.all_cons, List.all_nil, Bool.and_self, and_self, exists_eq_left', pickOK_nil, List.length_map, pureB_strs, resIn, List.contains_cons, List.contains_nil, Nat.reduceBEq, Bool.or_self, Bool.or_false, beq_self_eq_true, Bool.or_true, List.getD_cons_zero, cutL, List.drop_zero, List.drop_succ_cons, List.take_succ_cons, List.take_zero, Nat.sub_zero, Nat.le_refl, List.drop_nil, List.take_nil, Nat.zero_lt_succ, tk33, dz33, kSpaces, aCh, hcf2, htl, e]
    have hjn : (b + 1).toNat - a.toNat = j := by omega
    rw [hjn]
    exact ⟨rfl, rfl⟩

theorem ok_RBeside : C1OK Try.prog 47 kBeside := C1OK.by (by kernel_rfl) (fun d h => calls_RBeside d.1 d.2.1 d.2.2.1 d.2.2.2.1 d.2.2.2.2.1 d.2.2.2.2.2 h.1 h.2) (fun _ => rfl) (fun _ => rfl)
end Go.Pg
