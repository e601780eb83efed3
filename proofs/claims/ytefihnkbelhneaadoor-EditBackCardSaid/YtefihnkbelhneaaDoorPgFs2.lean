/- Letters, places, copies of lists. -/
import Derived.Test.YtefihnkbelhneaaDoorPgFs1
namespace Go.Pg
open Go Go.Proofs

def letter (n : Int) : Bool := decide (n ≥ 32) && (n != 127) || (n == 9)

def place (ls : List (List UInt8)) (l c : Int) : Bool :=
  decide (l ≥ 0) && decide (l < ls.length) && decide (c ≥ 0) && decide (c ≤ (ls.getD l.toNat []).length)

theorem calls_Place (ls : List (List UInt8)) (l c : Int) : CallsR Tryd.prog 31 [.sl 1 (ls.map .str), .agg [.int .i64 l, .int .i64 c]] [] (.bool (place ls l c)) [] := by
  refine callsR_of (mrg := true) (dyn := []) (CtrOK.nil _) mixed Tryd.func31 rfl (by simp [Tryd.ntmps31]) (by kernel_rfl) ?_
  rw [show Tryd.f31.results.toList = [.tmp 4] from by kernel_rfl]
  simp (maxSteps := 4000000) only [↓wpA_H, ↓wpH_ret, ↓wpH_seq, ↓wpH_region, bselH_false, runH_nil, runH_cons, gw, gselH_plain, gselH_if, kselH_1, gkind, ↓chk, justK, noW, ↓oneK, ↓pureK, ↓heapK, envOf, ↓thenA_normal, ↓stepEv, opnd, Pg.look, binK, intOp, dstOf, Bool.false_eq_true, implies_true, imp_self, true_and, and_true, pickC, pickV, unc, gof, mux, mergeK, condsL, valV, heapV, footV, binV, intV, mergeable, look_stripE, ofV, ofLeaf, sameK, retA, resK, tupA, subA, subQ, ptrsE, frzO, subF, subG, pickOf, frzE, frzC, frz0, frzH, Pg.freeze, List.foldl_nil, subOs, subEv, subV_succ, subM, slen, ldCells, objAt, AV.cells, TK.cells, AV.definite, Op.operands, Call.operands, Array.toList_append, List.getElem?_toArray, List.getElem?_cons_succ, List.getElem?_cons_zero, Option.bind_some, Option.getD_some, reduceCtorEq, Nat.reduceEqDiff, Nat.reduceAdd, List.nil_append, List.append_nil, List.length_cons, List.length_nil, Nat.zero_add, ite_true, ite_false, Option.some.injEq, AV.int.injEq, Bool.if_false_right, Bool.decide_eq_true, decide_eq_true_eq, decide_eq_false_iff_not, Int.not_le, Bool.and_self, and_self, exists_eq_left', pickOK_nil, List.length_map, List.toList_toArray, List.contains_nil, getD_str, List.getD_cons_zero, Nat.add_zero, Nat.zero_lt_succ, tk3, tk9, dz9, tk22, tk24, dz24]
  refine ⟨fun h => ?_, rfl⟩
  have h' := h
  simp at h'
  exact ⟨h, by omega, by omega⟩

theorem calls_RPlace (ls : List (List UInt8)) (l c : Int) : CallsR Tryd.prog 34 [.sl 1 (ls.map .str), .agg [.int .i64 l, .int .i64 c]] [] (.bool (place ls l c)) [] := by
  refine callsR_of (mrg := true) (dyn := []) (CtrOK.nil _) mixed Tryd.func34 rfl (by simp [Tryd.ntmps34]) (by kernel_rfl) ?_
  rw [show Tryd.f34.results.toList = [.tmp 4] from by kernel_rfl]
  simp (maxSteps := 4000000) only [↓wpA_H, ↓wpH_ret, ↓wpH_seq, ↓wpH_region, bselH_false, runH_nil, runH_cons, gw, gselH_plain, gselH_if, kselH_1, gkind, ↓chk, justK, noW, ↓oneK, ↓pureK, ↓heapK, envOf, ↓thenA_normal, ↓stepEv, opnd, Pg.look, binK, intOp, dstOf, Bool.false_eq_true, implies_true, imp_self, true_and, and_true, pickC, pickV, unc, gof, mux, mergeK, condsL, valV, heapV, footV, binV, intV, mergeable, look_stripE, ofV, ofLeaf, sameK, retA, resK, tupA, subA, subQ, ptrsE, frzO, subF, subG, pickOf, frzE, frzC, frz0, frzH, Pg.freeze, List.foldl_nil, subOs, subEv, subV_succ, subM, slen, ldCells, objAt, AV.cells, TK.cells, AV.definite, Op.operands, Call.operands, Array.toList_append, List.getElem?_toArray, List.getElem?_cons_succ, List.getElem?_cons_zero, Option.bind_some, Option.getD_some, reduceCtorEq, Nat.reduceEqDiff, Nat.reduceAdd, List.nil_append, List.append_nil, List.length_cons, List.length_nil, Nat.zero_add, ite_true, ite_false, Option.some.injEq, AV.int.injEq, Bool.if_false_right, Bool.decide_eq_true, decide_eq_true_eq, decide_eq_false_iff_not, Int.not_le, Bool.and_self, and_self, exists_eq_left', pickOK_nil, List.length_map, List.toList_toArray, List.contains_nil, getD_str, List.getD_cons_zero, Nat.add_zero, Nat.zero_lt_succ, tk3, tk9, dz9, tk22, tk24, dz24]
  refine ⟨fun h => ?_, rfl⟩
  have h' := h
  simp at h'
  exact ⟨h, by omega, by omega⟩

end Go.Pg
