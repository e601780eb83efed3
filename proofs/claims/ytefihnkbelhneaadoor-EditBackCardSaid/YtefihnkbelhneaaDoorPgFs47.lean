/- The laws of edits' first contracts: the example; two changes held against one another. -/
import Derived.Test.YtefihnkbelhneaaDoorPgFs46
import Derived.Test.YtefihnkbelhneaaDoorPgFs43
namespace Go.Pg
open Go Go.Proofs

theorem calls_esame (a b : Ch) (x y : Bool) (h : a.2.1.length ≤ 140737488355328 ∧ a.2.2.length ≤ 140737488355328 ∧ b.2.1.length ≤ 140737488355328 ∧ b.2.2.length ≤ 140737488355328) :
    CallsR Tryd.prog 15 [aCh a, .bool x, aCh b, .bool y] [] (.bool (x == y && a == b)) [] := by
  refine callsR_of (mrg := true) (dyn := []) (CtrOK.cons ok_Change (CtrOK.nil _)) mixed Tryd.func15 rfl (by simp [Tryd.ntmps15]) (by kernel_rfl) ?_
  rw [show Tryd.f15.results.toList = [.tmp 8] from by kernel_rfl]
  simp (maxSteps := 4000000) only [↓wpA_H, ↓wpH_ret, ↓wpH_seq, ↓wpH_region, bselH_false, runH_nil, runH_cons, gw, gselH_plain, gselH_if, kselH_1, gkind, ↓chk, justK, noW, ↓oneK, ↓pureK, ↓heapK, envOf, ↓thenA_normal, ↓stepEv, opnd, Pg.look, binK, dstOf, Bool.false_eq_true, implies_true, imp_self, true_and, and_true, pickC, pickV, unc, gof, mux, mergeK, condsL, valV, heapV, footV, binV, mergeable, look_stripE, ofV, ofLeaf, sameK, retA, resK, tupA, subA, subQ, ptrsE, frzO, subF, subG, pickOf, frzE, frzC, frz0, frzH, Pg.freeze, List.foldl_nil, subOs, subEv, subV_succ, subM, ldCells, objAt, ↓callT, callC, callV, normArgs, normA, normC, normL, resL, res8_eq, res_succ, resM, shiftR, shift1, AV.cells, TK.cells, AV.definite, Op.operands, Call.operands, Array.toList_append, List.getElem?_toArray, List.getElem?_cons_succ, List.getElem?_cons_zero, Option.bind_some, Option.getD_some, reduceCtorEq, Nat.reduceEqDiff, Nat.reduceAdd, List.nil_append, List.append_nil, List.cons_append, List.length_cons, List.length_nil, List.map_cons, List.map_nil, Nat.zero_add, ite_true, ite_false, Option.some.injEq, Bool.if_false_right, Bool.decide_eq_true, Bool.and_self, and_self, exists_eq_left', pickOK_nil, cInt_dec, List.toList_toArray, cSl_dec, cAgg_dec, lOne_dec, lCons_dec, dec2_some, List.contains_nil, List.range'_zero, decL_str, C1by_ns, C1by_pre, C1by_r, C1by_H, optP_some, optV_some, optH_some, List.getD_cons_zero, cutL, List.drop_zero, List.take_succ_cons, Nat.sub_zero, Nat.le_refl, List.take_nil, Nat.zero_lt_succ, tk4, tk31, dz31, kChange, aCh]
  exact fun e => ⟨e, h⟩
def kESame : C1 := C1.by [.ag [none, some 1, some 1], .id, .ag [none, some 1, some 1], .id] (lCons cCh (lCons cBool (lCons cCh (lOne cBool)))) (fun d => d.1.2.1.length ≤ 140737488355328 ∧ d.1.2.2.length ≤ 140737488355328 ∧ d.2.2.1.2.1.length ≤ 140737488355328 ∧ d.2.2.1.2.2.length ≤ 140737488355328)
  (fun d => .bool (d.2.1 == d.2.2.2 && d.1 == d.2.2.1)) (fun _ => [])
theorem ok_esame : C1OK Tryd.prog 15 kESame := C1OK.by (by kernel_rfl) (fun d h => calls_esame d.1 d.2.2.1 d.2.1 d.2.2.2 h) (fun _ => rfl) (fun _ => rfl)

theorem ex1 : join [[97], [98]] 0 2 = ((0, [[97], [98]], [[97, 32, 98]]), 1, true) := by decide
theorem ex2 : cut [[97], [98]] (0, 0, 0, 1, 0) = ((0, [[97], [98]], [[98]]), true) := by decide
theorem ex3 : write [[97], [98]] 0 1 [[120], [121]] = ((0, [[97]], [[97, 120], [121]]), (1, 1), true) := by decide
theorem ex4 : over [[97], [98]] (0, 0) 122 2 = ((0, [], []), false) := by decide
theorem small_ab' (i : Nat) : (([[97], [98]] : Ls).getD i []).length ≤ 1 := by
  match i with
  | 0 => decide
  | 1 => decide
  | i + 2 => simp
theorem small_ab : small [[97], [98]] := ⟨by decide, fun i => by match i with
  | 0 => decide
  | 1 => decide
  | i + 2 => simp⟩
theorem small_xy : small [[120], [121]] := ⟨by decide, fun i => by match i with
  | 0 => decide
  | 1 => decide
  | i + 2 => simp⟩

set_option maxRecDepth 20000 in
set_option maxHeartbeats 4000000 in
theorem calls_eknown : CallsR Tryd.prog 9 [] [] (.bool true) [] := by
  refine callsR_of (mrg := false) (dyn := []) (CtrOK.cons ok_Join (CtrOK.cons ok_Cut (CtrOK.cons ok_Write (CtrOK.cons ok_Over (CtrOK.cons ok_Change (CtrOK.cons ok_Strings (CtrOK.nil _))))))) mixed Tryd.func9 rfl (by simp [Tryd.ntmps9]) (by kernel_rfl) ?_
  rw [show Tryd.f9.results.toList = [.tmp 0] from by kernel_rfl]
  simp (maxSteps := 4000000) only [↓wpA_H, ↓wpH_ret, ↓wpH_seq, ↓wpH_region, ↓iselH_true, bselH_false, runH_nil, runH_cons, ↓fixG, setG, gw, gselH_plain, gselH_if, kselH_2, gkind, ↓chk, justK, noW, ↓oneK, ↓pureK, ↓heapK, envOf, ↓thenA_normal, ↓stepEv, opnd, Pg.look, binK, intOp, cellsEq, leafEq, dstOf, Bool.and_true, Bool.not_false, Bool.not_true, Bool.false_eq_true, Bool.true_eq_false, false_implies, implies_true, true_and, and_true, pickC, pickV, unc, gof, mux, valV, heapV, footV, binV, intV, mergeable, ofV, ofLeaf, retA, resK, tupA, subA, subQ, ptrsE, frzO, subF, subG, pickOf, frzE, frzC, frz0, frzH, Pg.freeze, List.foldl_nil, List.foldl_cons, subOs, subEv, subV_succ, subM, slen, ldCells, objAt, ↓callT, callC, callV, callH, normArgs, normA, normC, normL, resL, res8_eq, res_succ, resM, shiftR, shift1, AV.cells, TK.cells, AV.definite, AV.leaf, AV.leafy, AV.pureLeaf, AV.pureB, putCells, lay, buildL, frzAt, List.getElem?_toArray, List.getElem?_cons_succ, List.getElem?_cons_zero, Option.bind_some, Option.getD_some, reduceCtorEq, Nat.reduceEqDiff, Nat.reduceAdd, List.nil_append, List.append_nil, List.cons_append, List.length_cons, List.length_nil, List.map_cons, List.map_nil, List.set_cons_zero, List.set_cons_succ, Nat.zero_add, Int.reduceToNat, ite_true, ite_false, Option.some.injEq, Option.isSome_some, AV.int.injEq, AV.agg.injEq, Prod.mk.injEq, List.all_cons, List.all_nil, Bool.and_self, and_self, exists_eq_left', pickOK_nil, cInt_dec, rg1, rg2, cByte_lit, Int.reduceLE, Int.reduceLT, UInt8.reduceOfNat, cStr_dec, cSl_dec, cAgg_dec, lOne_dec, lCons_dec, dec2_some, List.contains_nil, beq_self_eq_true, decL_nil, decL_cons, consO_some, Int.cast_ofNat_Int, List.range'_zero, Nat.reducePow, C1by_ns, C1by_pre, C1by_r, C1by_H, optP_some, optV_some, optH_some, List.getD_cons_zero, cutL, List.drop_zero, List.drop_succ_cons, List.take_succ_cons, List.take_zero, Nat.sub_zero, Nat.reduceLeDiff, Nat.le_refl, Nat.mul_one, List.drop_nil, List.take_nil, Nat.zero_lt_succ, eb9, tk22, tk24, tz24, dz24, eq24, tk31, tz31, dz31, tk49, tz49, kJoin, kCut, kWrite, kOver, kChange, kStrings, aCh, aPos, ex1, ex2, ex3, ex4]
  exact ⟨⟨by decide, fun i => Nat.le_trans (small_ab' i) (by decide)⟩, small_ab, ⟨small_ab, small_xy⟩, small_ab⟩
def kEKnown : C1 := C1.by [] lNil (fun _ => True) (fun _ => .bool true) (fun _ => [])
theorem ok_eknown : C1OK Tryd.prog 9 kEKnown := C1OK.by (by kernel_rfl) (fun _ _ => calls_eknown) (fun _ => rfl) (fun _ => rfl)
end Go.Pg
