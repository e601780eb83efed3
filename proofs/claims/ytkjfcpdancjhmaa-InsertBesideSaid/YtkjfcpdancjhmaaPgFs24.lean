/- A text put into lines side by side, by the program. -/
import Derived.Test.YtkjfcpdancjhmaaPgFs23
namespace Go.Pg
open Go Go.Proofs

def besideLine (col : Int) (x : List UInt8) (fill : Bool) (s : List UInt8) : List UInt8 :=
  let s' := if (decide ((s.length : Int) < col) && fill) = true then s ++ List.replicate (col - s.length).toNat 32 else s
  if (s'.length : Int) ≥ col then s'.take col.toNat ++ x ++ s'.drop col.toNat else s'

def besideBad (ls : Ls) (a b col : Int) (x : List UInt8) : Bool := decide (a < 0) || decide (a > b) || decide (b ≥ ls.length) || decide (col < 0) || decide (col > 4096) || has10 x

def beside (ls : Ls) (a b col : Int) (x : List UInt8) (fill : Bool) : Ch × Bool :=
  if besideBad ls a b col x = true then ((0, [], []), false)
  else ((a, cutL ls a.toNat (b + 1).toNat, (cutL ls a.toNat (b + 1).toNat).map (besideLine col x fill)), true)

set_option maxRecDepth 20000 in
set_option maxHeartbeats 4000000 in
theorem calls_Beside (ls : Ls) (a b col : Int) (x : List UInt8) (fill : Bool) (hs : small ls) (hx : x.length ≤ 1048576) :
    CallsR Try.prog 46 [.sl 1 (ls.map .str), .int .i64 a, .int .i64 b, .int .i64 col, .str x, .bool fill] []
      (.tuple [aCh (beside ls a b col x fill).1, .bool (beside ls a b col x fill).2]) [] := by
  refine callsR_of (mrg := true) (dyn := []) (CtrOK.cons ok_Contains (CtrOK.cons ok_Clone (CtrOK.cons ok_Repeat (CtrOK.nil _)))) mixed Try.func46 rfl (by simp [Try.ntmps46]) (by kernel_rfl) ?_
  rw [show Try.f46.results.toList = [.cell 12 33, .tmp 13] from by kernel_rfl]
  simp (maxSteps := 4000000) only [↓wpA_H, ↓wpH_skip, ↓wpH_ret, ↓wpH_seq, ↓wpH_cond, ↓wpH_block, ↓wpH_loop, ↓wpH_region, iselH_if, bselH_false, runH_nil, runH_cons, gw, gselH_plain, gselH_if, kselH_1, cselH_bool, gkind, ↓chk, justK, noW, ↓oneK, ↓pureK, ↓heapK, envOf, ↓thenA_normal, ↓thenA_ret, ↓stepEv, opnd, Pg.look, binK, intOp, dstOf, Bool.false_eq_true, false_implies, implies_true, imp_self, true_and, and_true, pickC, pickV, unc, gof, mux, mergeK, condsL, valV, heapV, footV, binV, intV, cutV, mergeable, look_stripE, ofV, ofLeaf, sameK, retA, resK, tupA, subA, subQ, ptrsE, frzO, subF, subG, pickOf, frzE, frzC, frzL, frz0, frzH, Pg.freeze, List.foldl_nil, subOs, subEv, subV, subL, slen, ldCells, objAt, sliceL, ↓callT, callC, callV, callH, normArgs, normA, normC, resL, res, shiftR, shift1, AV.cells, TK.cells, AV.definite, AV.leaf, AV.leafy, putCells, lay, buildL, Op.operands, Call.operands, Array.toList_append, List.getElem?_toArray, List.getElem?_cons_succ, List.getElem?_cons_zero, List.getElem?_nil, Option.bind_some, Option.map_some, Option.map_none, Option.getD_some, reduceCtorEq, Nat.reduceEqDiff, Nat.reduceAdd, List.nil_append, List.append_nil, List.cons_append, List.length_cons, List.length_nil, List.map_cons, List.map_nil, List.set_cons_zero, List.set_cons_succ, Nat.zero_add, ite_true, ite_false, Option.some.injEq, Option.isSome_some, AV.int.injEq, AV.agg.injEq, Prod.mk.injEq, Bool.if_true_left, Bool.decide_eq_true, decide_eq_true_eq, decide_eq_false_iff_not, Int.not_lt, List.all_cons, List.all_nil, Bool.and_self, and_self, Bool.not_eq_true', exists_eq_left', pickOK_nil, List.length_map, List.toList_toArray, cStr_dec, cSl_dec, lOne_dec, lCons_dec, dec2_some, resIn, List.contains_nil, List.range'_zero, decL_str, C1by_ns, C1by_pre, C1by_r, C1by_H, optP_some, optV_some, optH_some, ← List.map_drop, ← List.map_take, List.getD_cons_zero, cutL, List.drop_zero, List.drop_succ_cons, List.take_succ_cons, List.take_zero, Nat.add_zero, Nat.sub_zero, Nat.reduceLeDiff, Nat.le_refl, List.drop_nil, List.take_nil, Nat.zero_lt_succ, tk22, tk33, tz33, dz33, kContains, kClone, kRepeat, aCh]
  refine ⟨fun h => ?_, fun h => ?_⟩
  · have e : beside ls a b col x fill = ((0, [], []), false) := if_pos h
    rw [e]
    exact ⟨⟨rfl, rfl, rfl⟩, rfl⟩
  have e : beside ls a b col x fill = _ := if_neg (by rw [besideBad, h]; simp)
  simp only [Bool.or_eq_false_iff, decide_eq_false_iff_not] at h
  obtain ⟨⟨⟨⟨⟨h1, h2⟩, h3⟩, h4⟩, h5⟩, h6⟩ := h
  have hl := hs.1
  have w1 : IntKind.i64.wrap (b + 1) = b + 1 := wrap64 (by omega) (by omega)
  rw [w1]
  obtain ⟨cut, hcut⟩ : ∃ c : Ls, cutL ls a.toNat (b + 1).toNat = c := ⟨_, rfl⟩
  have hcl : cut.length ≤ 1099511627776 := by
    rw [← hcut]; unfold cutL; rw [List.length_take, List.length_drop]; omega
  have hcs : ∀ i, (cut.getD i []).length ≤ 1099511627776 := fun i => by
    rw [← hcut, cutL, List.getD_eq_getElem?_getD, List.getElem?_take]
    split
    · rw [List.getElem?_drop, ← List.getD_eq_getElem?_getD]; exact hs.2 _
    · simp
  rw [e, hcut]
  have hc2 : (ls.drop a.toNat).take ((b + 1).toNat - a.toNat) = cut := hcut
  rw [hc2]
  refine ⟨by omega, by omega, ?_⟩
  refine loopH_intro (α := Nat) (fun i => ([(3, .int .i64 col), (4, .str x), (5, .bool fill), (12, .ptr 0 3 1 0 0), (13, .bool false), (14, .ptr 1 3 1 0 0), (52, .own 2 1 cut.length), (53, .int .i64 cut.length), (54, .int .i64 i)], [.arr 33 3 [.agg [.int .i64 0, .nls, .nls]], .arr 33 3 [.agg [.int .i64 a, .own 2 1 cut.length, .own 3 1 i]], .arr 9 1 (cut.map .str), .arr 9 1 (((cut.take i).map (besideLine col x fill)).map .str)]))
    (fun i => i ≤ cut.length) (fun i => cut.length - i) 0 (by omega) ?_ ?_
  · simp (maxSteps := 4000000) only [Pg.look, true_and, and_true, subA, subQ, ptrsE, pairsO, frzO, subF, subG, pickOf, assocN, pairsE, pairsC, pairsL, pairs0, frzE, frzC, frzL, frz0, frzH, Pg.freeze, List.foldl_nil, subOs, subO, subEv, subV, List.getElem?_cons_succ, List.getElem?_cons_zero, reduceCtorEq, Nat.reduceEqDiff, Nat.reduceAdd, List.nil_append, List.append_nil, List.cons_append, List.map_nil, Nat.zero_add, ite_true, ite_false, and_self, Int.cast_ofNat_Int, List.take_zero, Nat.lt_irrefl, Nat.not_lt_zero]
    exact ⟨rfl, subX_eq rfl rfl, subX_cells (by simp [subL, subC, subV, AV.cells]), subX_eq rfl (pureB_strs _)⟩
  intro i hi
  by_cases hi2 : i < cut.length
  · have hct : decide ((i : Int) < (cut.length : Int)) = true := decide_eq_true (by omega)
    have htl : (cut.take i).length = i := by rw [List.length_take]; omega
    have hsl := hcs i
    have hnext : (cut.take (i + 1)).map (besideLine col x fill) = (cut.take i).map (besideLine col x fill) ++ [besideLine col x fill (cut.getD i [])] := by
      rw [take_succ_getD cut i [] hi2, List.map_append]; rfl
    have hb : besideLine col x fill (cut.getD i []) = besideLine col x fill (cut.getD i []) := rfl
    generalize hs0 : cut.getD i [] = s at hnext hb hsl
    cases hA : (decide ((s.length : Int) < col) && fill) with
    | true =>
      have hlt : (s.length : Int) < col := by have h := hA; simp at h; exact h.1
      have wA : IntKind.i64.wrap (col - s.length) = col - s.length := wrap64 (by omega) (by omega)
      have hA2 : decide (((s.length + (col - (s.length : Int)).toNat : Nat) : Int) ≥ col) = true := decide_eq_true (by omega)
      have hlen : (s ++ List.replicate (col - (s.length : Int)).toNat 32).length = s.length + (col - (s.length : Int)).toNat := by rw [List.length_append, List.length_replicate]
      have hT : besideLine col x fill s = (s ++ List.replicate (col - (s.length : Int)).toNat 32).take col.toNat ++ x ++ (s ++ List.replicate (col - (s.length : Int)).toNat 32).drop col.toNat := by
        unfold besideLine
        rw [if_pos hA]
        exact if_pos (by rw [hlen]; omega)
      simp (maxSteps := 4000000) only [↓wpA_H, ↓wpH_skip, ↓wpH_seq, ↓wpH_cond, ↓wpH_block, ↓wpH_region, ↓iselH_true, bselH_false, runH_nil, runH_cons, gw, gselH_plain, gselH_if, kselH_1, cselH_bool, gkind, ↓chk, justK, noW, ↓oneK, ↓pureK, ↓heapK, ↓thenA_normal, ↓blockA_normal, ↓stepEv, opnd, Pg.look, binK, intOp, strOp, dstOf, Bool.false_eq_true, false_implies, implies_true, imp_self, true_and, and_true, pickC, pickV, unc, gof, mux, mergeK, condsL, valV, heapV, footV, binV, intV, strV, cutV, mergeable, look_stripE, ofV, ofLeaf, sameK, subA, subQ, ptrsE, pairsO, frzO, subF, subG, pickOf, assocN, pairsE, pairsC, pairsL, pairs0, frzE, frzC, frzL, frz0, frzH, Pg.freeze, List.foldl_nil, subOs, subO, subEv, subV, srcV, srcE, appK, ldCells, objAt, sliceS, ↓callT, callC, callV, callH, normArgs, normA, normC, resL, res, shiftR, shift1, AV.cells, TK.cells, AV.definite, AV.leaf, AV.leafy, putCells, lay, Op.operands, List.getElem?_toArray, List.getElem?_cons_succ, List.getElem?_cons_zero, Option.bind_some, Option.map_some, Option.map_none, Option.getD_some, reduceCtorEq, Nat.reduceEqDiff, Nat.reduceAdd, List.nil_append, List.append_nil, List.cons_append, List.length_cons, List.length_nil, List.map_cons, List.map_nil, List.set_cons_zero, List.set_cons_succ, Nat.zero_add, ite_true, ite_false, Option.some.injEq, Option.isSome_some, Prod.mk.injEq, Bool.if_false_right, decide_eq_true_eq, decide_eq_false_iff_not, Int.not_lt, List.all_cons, List.all_nil, Bool.and_self, and_self, exists_eq_left', List.length_map, cInt_dec, List.toList_toArray, List.length_append, rg1, cStr_dec, lOne_dec, lCons_dec, dec2_some, app1_str, List.contains_nil, beq_self_eq_true, List.range'_zero, Nat.reducePow, C1by_ns, C1by_pre, C1by_r, C1by_H, optP_some, optV_some, optH_some, getD_str, Int.toNat_natCast, List.getD_cons_zero, List.drop_succ_cons, List.take_succ_cons, List.take_zero, Nat.reduceLeDiff, Nat.le_refl, Nat.lt_irrefl, Nat.mul_one, List.drop_nil, Nat.not_lt_zero, Nat.zero_lt_succ, tk9, dz9, eb9, tk22, tk33, dz33, kContains, kClone, kRepeat, hct, htl, hs0, hA, wA, hA2, List.length_replicate]
      refine ⟨by omega, by omega, by omega, by omega, by omega, ?_, by omega, ?_, ⟨by decide, by omega⟩, i + 1, by omega, by omega, rfl, ⟨subX_eq rfl rfl, subX_cells (by simp [subL, subC, subV, AV.cells]), subX_eq rfl (pureB_strs _), subX_eq (by rw [hnext, hT]) (pureB_strs _)⟩, by rw [wrap64 (by omega) (by omega)]; omega⟩
      · rw [List.length_take, hlen]; omega
      · rw [List.length_take, List.length_drop, hlen]; omega
    | false =>
      by_cases hB : (s.length : Int) ≥ col
      · have hB2 : decide ((s.length : Int) ≥ col) = true := decide_eq_true hB
        have hT : besideLine col x fill s = s.take col.toNat ++ x ++ s.drop col.toNat := by
          simp only [besideLine, hA, Bool.false_eq_true, if_false]
          exact if_pos hB
        simp (maxSteps := 4000000) only [↓wpA_H, ↓wpH_skip, ↓wpH_seq, ↓wpH_cond, ↓wpH_block, ↓wpH_region, ↓iselH_true, ↓iselH_false, bselH_false, runH_nil, runH_cons, gw, gselH_plain, gselH_if, kselH_1, cselH_bool, gkind, ↓chk, justK, noW, ↓oneK, ↓pureK, ↓heapK, ↓thenA_normal, ↓blockA_normal, ↓stepEv, opnd, Pg.look, binK, intOp, strOp, dstOf, Bool.false_eq_true, implies_true, imp_self, true_and, and_true, pickC, pickV, unc, gof, mux, mergeK, condsL, valV, heapV, footV, binV, intV, strV, cutV, mergeable, look_stripE, ofV, ofLeaf, sameK, subA, subQ, ptrsE, pairsO, frzO, subF, subG, pickOf, assocN, pairsE, pairsC, pairsL, pairs0, frzE, frzC, frzL, frz0, frzH, Pg.freeze, List.foldl_nil, subOs, subO, subEv, subV, srcV, srcE, appK, ldCells, objAt, sliceS, AV.cells, TK.cells, AV.definite, AV.leaf, AV.leafy, putCells, lay, Op.operands, List.getElem?_toArray, List.getElem?_cons_succ, List.getElem?_cons_zero, Option.bind_some, Option.map_some, Option.map_none, Option.getD_some, reduceCtorEq, Nat.reduceEqDiff, Nat.reduceAdd, List.nil_append, List.append_nil, List.cons_append, List.length_cons, List.length_nil, List.map_cons, List.map_nil, List.set_cons_zero, List.set_cons_succ, Nat.zero_add, ite_true, ite_false, Option.some.injEq, Option.isSome_some, Bool.if_false_right, decide_eq_true_eq, decide_eq_false_iff_not, Int.not_lt, List.all_cons, List.all_nil, Bool.and_self, and_self, exists_eq_left', List.length_map, List.toList_toArray, List.length_append, rg1, app1_str, List.contains_nil, beq_self_eq_true, Nat.reducePow, getD_str, Int.toNat_natCast, List.getD_cons_zero, List.drop_succ_cons, List.take_succ_cons, List.take_zero, Nat.reduceLeDiff, Nat.le_refl, Nat.lt_irrefl, Nat.mul_one, List.drop_nil, Nat.not_lt_zero, Nat.zero_lt_succ, tk9, dz9, eb9, tk22, tk33, dz33, kContains, kClone, kRepeat, hct, htl, hs0, hA, hB2]
        refine ⟨by omega, by omega, by omega, ?_, by omega, ?_, ⟨by decide, by omega⟩, i + 1, by omega, by omega, rfl, ⟨subX_eq rfl rfl, subX_cells (by simp [subL, subC, subV, AV.cells]), subX_eq rfl (pureB_strs _), subX_eq (by rw [hnext, hT]) (pureB_strs _)⟩, by rw [wrap64 (by omega) (by omega)]; omega⟩
        · rw [List.length_take]; omega
        · rw [List.length_take, List.length_drop]; omega
      · have hB2 : decide ((s.length : Int) ≥ col) = false := decide_eq_false hB
        have hT : besideLine col x fill s = s := by
          simp only [besideLine, hA, Bool.false_eq_true, if_false]
          exact if_neg hB
        simp (maxSteps := 4000000) only [↓wpA_H, ↓wpH_skip, ↓wpH_seq, ↓wpH_cond, ↓wpH_block, ↓wpH_region, ↓iselH_true, ↓iselH_false, bselH_false, runH_nil, runH_cons, gw, gselH_plain, gselH_if, kselH_1, cselH_bool, gkind, ↓chk, justK, noW, ↓oneK, ↓pureK, ↓heapK, ↓thenA_normal, ↓blockA_normal, ↓stepEv, opnd, Pg.look, binK, intOp, dstOf, Bool.false_eq_true, implies_true, imp_self, true_and, and_true, pickC, pickV, unc, gof, mux, mergeK, condsL, valV, heapV, footV, binV, intV, mergeable, look_stripE, ofV, ofLeaf, sameK, subA, subQ, ptrsE, pairsO, frzO, subF, subG, pickOf, assocN, pairsE, pairsC, pairsL, pairs0, frzE, frzC, frzL, frz0, frzH, Pg.freeze, List.foldl_nil, subOs, subO, subEv, subV, srcV, srcE, appK, ldCells, objAt, AV.cells, TK.cells, AV.definite, AV.leaf, AV.leafy, putCells, lay, Op.operands, List.getElem?_toArray, List.getElem?_cons_succ, List.getElem?_cons_zero, Option.bind_some, Option.getD_some, reduceCtorEq, Nat.reduceEqDiff, Nat.reduceAdd, List.nil_append, List.append_nil, List.cons_append, List.length_cons, List.length_nil, List.map_cons, List.map_nil, List.set_cons_zero, List.set_cons_succ, Nat.zero_add, ite_true, ite_false, Option.some.injEq, Option.isSome_some, Bool.if_false_right, decide_eq_true_eq, decide_eq_false_iff_not, Int.not_lt, List.all_cons, List.all_nil, Bool.and_self, and_self, exists_eq_left', List.length_map, List.toList_toArray, rg1, app1_str, List.contains_nil, beq_self_eq_true, Nat.reducePow, getD_str, Int.toNat_natCast, List.getD_cons_zero, List.drop_succ_cons, List.take_succ_cons, List.take_zero, Nat.reduceLeDiff, Nat.le_refl, Nat.lt_irrefl, Nat.mul_one, List.drop_nil, Nat.not_lt_zero, Nat.zero_lt_succ, tk9, dz9, eb9, tk22, tk33, dz33, kContains, kClone, kRepeat, hct, htl, hs0, hA, hB2]
        exact ⟨by omega, by omega, ⟨by decide, by omega⟩, i + 1, by omega, by omega, rfl, ⟨subX_eq rfl rfl, subX_cells (by simp [subL, subC, subV, AV.cells]), subX_eq rfl (pureB_strs _), subX_eq (by rw [hnext, hT]) (pureB_strs _)⟩, by rw [wrap64 (by omega) (by omega)]; omega⟩
  · have htl : (cut.take i).length = i := by rw [List.length_take]; omega
    have hcf : decide ((i : Int) < (cut.length : Int)) = false := decide_eq_false (by omega)
    simp (maxSteps := 4000000) only [↓wpA_H, ↓wpH_ret, ↓wpH_exit, ↓wpH_seq, ↓wpH_cond, ↓wpH_region, ↓iselH_false, bselH_false, runH_nil, runH_cons, gw, gselH_plain, cselH_bool, ↓chk, justK, noW, ↓oneK, ↓pureK, ↓heapK, ↓thenA_normal, ↓thenA_exit, ↓blockA_exit, ↓stepEv, opnd, Pg.look, binK, intOp, Bool.false_eq_true, implies_true, true_and, and_true, valV, heapV, footV, binV, intV, ofV, ofLeaf, retA, resK, tupA, subA, subQ, ptrsE, frzO, subF, subG, pickOf, frzE, frzC, frzL, frz0, frzH, Pg.freeze, List.foldl_nil, List.foldl_cons, subOs, subEv, subV, subL, ldCells, objAt, res, AV.cells, TK.cells, AV.leaf, AV.leafy, putCells, lay, frzAt, List.getElem?_cons_succ, List.getElem?_cons_zero, List.getElem?_nil, Option.getD_some, reduceCtorEq, Nat.reduceEqDiff, Nat.reduceAdd, List.nil_append, List.append_nil, List.cons_append, List.length_cons, List.length_nil, List.set_cons_zero, List.set_cons_succ, Nat.zero_add, ite_true, ite_false, Option.some.injEq, AV.sl.injEq, List.all_cons, List.all_nil, Bool.and_self, and_self, exists_eq_left', pickOK_nil, List.length_map, pureB_strs, resIn, List.contains_cons, List.contains_nil, Nat.reduceBEq, Bool.or_self, Bool.or_false, beq_self_eq_true, Bool.or_true, List.getD_cons_zero, cutL, List.drop_zero, List.drop_succ_cons, List.take_succ_cons, List.take_zero, Nat.sub_zero, Nat.le_refl, List.drop_nil, List.take_nil, Nat.zero_lt_succ, tk33, dz33, kContains, kClone, kRepeat, aCh, hcf, htl]
    rw [List.take_of_length_le (by omega)]

def kBeside : C1 := C1.by [.sl 1 [], .id, .id, .id, .id, .id] (lCons cStrs (lCons (cInt .i64) (lCons (cInt .i64) (lCons (cInt .i64) (lCons cStr (lOne cBool)))))) (fun d => small d.1 ∧ d.2.2.2.2.1.length ≤ 1048576)
  (fun d => .tuple [aCh (beside d.1 d.2.1 d.2.2.1 d.2.2.2.1 d.2.2.2.2.1 d.2.2.2.2.2).1, .bool (beside d.1 d.2.1 d.2.2.1 d.2.2.2.1 d.2.2.2.2.1 d.2.2.2.2.2).2]) (fun _ => [])
theorem ok_Beside : C1OK Try.prog 46 kBeside := C1OK.by (by kernel_rfl) (fun d h => calls_Beside d.1 d.2.1 d.2.2.1 d.2.2.2.1 d.2.2.2.2.1 d.2.2.2.2.2 h.1 h.2) (fun _ => rfl) (fun _ => rfl)
end Go.Pg
