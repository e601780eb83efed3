/- What operators do. An operator, whole. Chapter 28's example. All letters small, or capital. Plain laws of operators: shifts there and back, cases. A shift leads to the first line's first byte that is no blank, and as many shifts back as there were make the lines what they were. -/
import Derived.Test.YtombifgcpghkgaaPgFx4
import Derived.Test.YtombifgcpghkgaaPgFx7
namespace Go.Pg
open Go Go.Proofs

def kOCase : C1 := C1.by [.sl 1 [], .id, .id] (lCons cStrs (lCons cRg (lOne cStr))) (fun d => small d.1) (fun d => .tuple [aCh (kase d.1 d.2.1 d.2.2).1, .bool (kase d.1 d.2.1 d.2.2).2]) (fun _ => [])
theorem ok_OCase : C1OK Try.prog 46 kOCase := C1OK.by (by kernel_rfl) (fun d h => calls_Case d.1 d.2.1 d.2.2 h) (fun _ => rfl) (fun _ => rfl)

def kCClamp : C1 := C1.by [.sl 1 [], .id, .id] (lCons cStrs (lCons cPos (lOne cBool))) (fun d => small d.1) (fun d => aPos (clampP d.1 d.2.1 d.2.2)) (fun _ => [])
theorem ok_CClamp : C1OK Try.prog 32 kCClamp := C1OK.by (by kernel_rfl) (fun d h => calls_Clamp d.1 d.2.1 d.2.2 h) (fun _ => rfl) (fun _ => rfl)
theorem ok_RClampO : C1OK Try.prog 17 kCClamp := C1OK.by (by kernel_rfl) (fun d h => calls_RClamp d.1 d.2.1 d.2.2 h) (fun _ => rfl) (fun _ => rfl)

theorem calls_OText (ls : Ls) (r : Rg) (hs : small ls) : CallsR Try.prog 14 [.sl 1 (ls.map .str), aRg r] [] (.agg [.int .i64 r.1, .sl 1 ((rtext ls r).map .str)]) [] := by
  obtain ⟨k, f1, f2, t1, t2⟩ := r
  refine callsR_of (mrg := true) (dyn := []) (CtrOK.cons ok_SText (CtrOK.nil _)) mixed Try.func14 rfl (by simp [Try.ntmps14]) (by kernel_rfl) ?_
  rw [show Try.f14.results.toList = [.cell 4 32] from by kernel_rfl]
  simp (maxSteps := 4000000) only [↓wpA_H, ↓wpH_ret, ↓wpH_seq, ↓wpH_region, bselH_false, runH_nil, runH_cons, gw, gselH_plain, ↓chk, justK, noW, ↓oneK, ↓pureK, ↓heapK, envOf, ↓thenA_normal, ↓stepEv, opnd, Pg.look, Bool.false_eq_true, implies_true, true_and, and_true, valV, heapV, footV, ofV, ofLeaf, retA, resK, tupA, subA, subQ, ptrsE, frzO, subF, subG, pickOf, frzE, frzC, frzL, frz0, frzH, Pg.freeze, List.foldl_nil, subOs, subEv, subV_succ, subM, subL, ldCells, objAt, ↓callT, callC, callV, callH, normArgs, normA, normC, resL, res8_eq, res_succ, resM, shiftR, shift1, AV.cells, TK.cells, AV.definite, AV.leaf, AV.leafy, putCells, lay, buildL, List.getElem?_cons_succ, List.getElem?_cons_zero, Option.getD_some, reduceCtorEq, Nat.reduceEqDiff, Nat.reduceAdd, List.nil_append, List.append_nil, List.cons_append, List.length_cons, List.length_nil, List.map_cons, List.map_nil, List.set_cons_zero, List.set_cons_succ, Nat.zero_add, ite_true, ite_false, Option.some.injEq, Option.isSome_some, AV.agg.injEq, List.all_cons, List.all_nil, Bool.and_self, and_self, exists_eq_left', pickOK_nil, cInt_dec, cSl_dec, cAgg_dec, lOne_dec, lCons_dec, dec2_some, List.contains_nil, List.range'_zero, decL_str, C1by_ns, C1by_pre, C1by_r, C1by_H, optP_some, optV_some, optH_some, List.getD_cons_zero, cutL, List.drop_zero, List.drop_succ_cons, List.take_succ_cons, List.take_zero, Nat.add_zero, Nat.sub_zero, Nat.reduceLeDiff, Nat.le_refl, List.drop_nil, List.take_nil, Nat.zero_lt_succ, tk3, tk29, dz29, tk32, tz32, dz32, kRText, aRg]
  exact hs

def firstP (ls : Ls) (l : Int) : Int × Int := (min l ((ls.length : Int) - 1), firstC (ls.getD (min l ((ls.length : Int) - 1)).toNat []))
theorem calls_OFirst (ls : Ls) (l : Int) (hs : small ls) (h0 : 0 < ls.length) (hl : 0 ≤ l ∧ l ≤ 9223372036854775807) : CallsR Try.prog 31 [.sl 1 (ls.map .str), .int .i64 l] [] (aPos (firstP ls l)) [] := by
  have h1 := hs.1
  have w : IntKind.i64.wrap ((ls.length : Int) - 1) = (ls.length : Int) - 1 := wrap64 (by omega) (by omega)
  refine callsR_of (mrg := true) (dyn := []) (CtrOK.cons ok_First (CtrOK.nil _)) mixed Try.func31 rfl (by simp [Try.ntmps31]) (by kernel_rfl) ?_
  rw [show Try.f31.results.toList = [.cell 4 27] from by kernel_rfl]
  simp (maxSteps := 4000000) only [↓wpA_H, ↓wpH_ret, ↓wpH_seq, ↓wpH_region, bselH_false, runH_nil, runH_cons, gw, gselH_plain, ↓chk, justK, noW, ↓oneK, ↓pureK, ↓heapK, envOf, ↓thenA_normal, ↓stepEv, opnd, Pg.look, binK, intOp, Bool.false_eq_true, implies_true, true_and, and_true, valV, heapV, footV, binV, intV, ofV, ofLeaf, retA, resK, tupA, subA, subQ, ptrsE, frzO, subF, subG, pickOf, frzE, frzC, frzL, frz0, frzH, Pg.freeze, List.foldl_nil, subOs, subEv, subV_succ, subM, subL, slen, ldCells, objAt, ↓callT, callC, callV, callH, normArgs, normA, resL, res8_eq, res_succ, resM, shiftR, shift1, AV.cells, TK.cells, AV.definite, AV.leaf, AV.leafy, putCells, lay, buildL, foldInts, List.getElem?_cons_succ, List.getElem?_cons_zero, Option.getD_some, reduceCtorEq, Nat.reduceEqDiff, Nat.reduceAdd, List.nil_append, List.append_nil, List.cons_append, List.length_cons, List.length_nil, List.map_cons, List.map_nil, List.set_cons_zero, Nat.zero_add, ite_true, ite_false, Option.some.injEq, Option.isSome_some, AV.int.injEq, AV.agg.injEq, List.all_cons, List.all_nil, Bool.and_self, and_self, exists_eq_left', pickOK_nil, List.length_map, cStr_dec, lOne_dec, List.contains_nil, List.range'_zero, C1by_ns, C1by_pre, C1by_r, C1by_H, optP_some, optV_some, optH_some, getD_str, List.getD_cons_zero, cutL, List.drop_zero, List.drop_succ_cons, List.take_succ_cons, List.take_zero, Nat.sub_zero, Nat.reduceLeDiff, Nat.le_refl, List.drop_nil, List.take_nil, Nat.zero_lt_succ, tk9, dz9, tk22, tk27, tz27, dz27, kFirst, aPos, w]
  have h2 := hs.2 (min l ((ls.length : Int) - 1)).toNat
  exact ⟨⟨by omega, by omega⟩, by omega, rfl, rfl⟩

def doesF (ls : Ls) (op : List UInt8) (r : Rg) (n : Int) : Ch × Bool :=
  if (op == [100]) = true then cut ls r
  else if (op == [99]) = true then (((cut ls r).1.1, (cut ls r).1.2.1, if (r.1 == 1) = true then [[]] else (cut ls r).1.2.2), (cut ls r).2)
  else if (op == [60] || op == [62]) = true then shift ls r.2.1 r.2.2.2.1 n (op == [60])
  else if (op == [103, 126] || op == [103, 117] || op == [103, 85]) = true then kase ls r (op.drop 1)
  else if (op == [121]) = true then ((r.2.1, [ls.getD r.2.1.toNat []], [ls.getD r.2.1.toNat []]), true)
  else ((0, [], []), false)

set_option maxRecDepth 20000 in
set_option maxHeartbeats 4000000 in
theorem calls_does (ls : Ls) (op : List UInt8) (r : Rg) (n : Int) (hs : small ls) (hv : valid ls r = true) (ho : op.length ≤ 140737488355328) :
    CallsR Try.prog 29 [.sl 1 (ls.map .str), .str op, aRg r, .int .i64 n] [] (.tuple [aCh (doesF ls op r n).1, .bool (doesF ls op r n).2]) [] := by
  obtain ⟨v1, v2, v3⟩ := valid_line hv
  obtain ⟨k, f1, f2, t1, t2⟩ := r
  simp only at v1 v2 v3
  refine callsR_of (mrg := true) (dyn := []) (CtrOK.cons ok_Cut (CtrOK.cons ok_Shift (CtrOK.cons ok_OCase (CtrOK.nil _)))) mixed Try.func29 rfl (by simp [Try.ntmps29]) (by kernel_rfl) ?_
  rw [show Try.f29.results.toList = [.cell 8 35, .tmp 9] from by kernel_rfl]
  cases e1 : op == [100] with
  | true =>
    have d : doesF ls op (k, f1, f2, t1, t2) n = cut ls (k, f1, f2, t1, t2) := if_pos e1
    rw [d]
    simp (maxSteps := 4000000) only [↓wpA_H, ↓wpH_ret, ↓wpH_seq, ↓wpH_cond, ↓wpH_block, ↓wpH_region, ↓iselH_true, bselH_false, runH_nil, runH_cons, gw, gselH_plain, cselH_bool, ↓chk, justK, noW, ↓oneK, ↓pureK, ↓heapK, envOf, ↓thenA_normal, ↓thenA_ret, ↓blockA_ret, ↓stepEv, opnd, Pg.look, binK, strOp, Bool.false_eq_true, false_implies, implies_true, true_and, and_true, valV, heapV, footV, binV, strV, ofV, ofLeaf, retA, resK, tupA, subA, subQ, ptrsE, frzO, subF, subG, pickOf, frzE, frzC, frzL, frz0, frzH, Pg.freeze, List.foldl_nil, subOs, subEv, subV_succ, subM, subL, ldCells, objAt, ↓callT, callC, callV, callH, normArgs, normA, normC, resL, res8_eq, res_succ, resM, shiftR, shift1, AV.cells, TK.cells, AV.definite, AV.leaf, AV.leafy, putCells, lay, List.getElem?_cons_succ, List.getElem?_cons_zero, Option.getD_some, reduceCtorEq, Nat.reduceEqDiff, Nat.reduceAdd, List.nil_append, List.append_nil, List.cons_append, List.length_cons, List.length_nil, List.map_cons, List.map_nil, List.set_cons_zero, List.set_cons_succ, Nat.zero_add, ite_true, ite_false, Option.some.injEq, Prod.mk.injEq, List.all_cons, List.all_nil, Bool.and_self, and_self, exists_eq_left', pickOK_nil, List.length_map, cInt_dec, cSl_dec, cAgg_dec, lOne_dec, lCons_dec, dec2_some, List.contains_nil, List.range'_zero, decL_str, C1by_ns, C1by_pre, C1by_r, C1by_H, optP_some, optV_some, optH_some, getD_str, List.getD_cons_zero, cutL, List.drop_zero, List.drop_succ_cons, List.take_succ_cons, List.take_zero, Nat.add_zero, Nat.sub_zero, Nat.le_refl, List.drop_nil, List.take_nil, Nat.zero_lt_succ, tk3, tk9, dz9, tk22, tk27, tk29, dz29, tk35, tz35, dz35, kCut, kShift, kOCase, aCh, aRg, e1]
    exact ⟨⟨v1, by omega⟩, hs⟩
  | false =>
  cases e2 : op == [99] with
  | true =>
    have d : doesF ls op (k, f1, f2, t1, t2) n = (((cut ls (k, f1, f2, t1, t2)).1.1, (cut ls (k, f1, f2, t1, t2)).1.2.1, if (k == 1) = true then [[]] else (cut ls (k, f1, f2, t1, t2)).1.2.2), (cut ls (k, f1, f2, t1, t2)).2) := by
      unfold doesF
      rw [if_neg (by simp [e1]), if_pos e2]
    rw [d]
    simp (maxSteps := 4000000) only [↓wpA_H, ↓wpH_skip, ↓wpH_ret, ↓wpH_seq, ↓wpH_cond, ↓wpH_block, ↓wpH_region, ↓iselH_true, ↓iselH_false, iselH_if, bselH_false, runH_nil, runH_cons, gw, gselH_plain, cselH_bool, ↓chk, justK, noW, ↓oneK, ↓pureK, ↓heapK, envOf, ↓thenA_normal, ↓thenA_ret, ↓blockA_ret, ↓stepEv, opnd, Pg.look, binK, intOp, strOp, Bool.false_eq_true, false_implies, implies_true, true_and, and_true, valV, heapV, footV, binV, intV, strV, ofV, ofLeaf, retA, resK, tupA, subA, subQ, ptrsE, frzO, subF, subG, pickOf, frzE, frzC, frzL, frz0, frzH, Pg.freeze, List.foldl_nil, List.foldl_cons, subOs, subEv, subV_succ, subM, subL, ldCells, objAt, ↓callT, callC, callV, callH, normArgs, normA, normC, resL, res8_eq, res_succ, resM, shiftR, shift1, AV.cells, TK.cells, AV.definite, AV.leaf, AV.leafy, AV.pureLeaf, AV.pureB, putCells, lay, frzAt, List.getElem?_cons_succ, List.getElem?_cons_zero, Option.getD_some, reduceCtorEq, Nat.reduceEqDiff, Nat.reduceAdd, List.nil_append, List.append_nil, List.cons_append, List.length_cons, List.length_nil, List.map_cons, List.map_nil, List.set_cons_zero, List.set_cons_succ, Nat.zero_add, ite_true, ite_false, Option.some.injEq, Option.isSome_some, AV.sl.injEq, Prod.mk.injEq, List.all_cons, List.all_nil, Bool.and_self, and_self, exists_eq_left', pickOK_nil, List.length_map, cInt_dec, rg1, cSl_dec, cAgg_dec, lOne_dec, lCons_dec, dec2_some, resIn, List.contains_cons, List.contains_nil, Bool.or_false, beq_self_eq_true, List.range'_zero, Nat.reducePow, decL_str, C1by_ns, C1by_pre, C1by_r, C1by_H, optP_some, optV_some, optH_some, getD_str, List.getD_cons_zero, cutL, List.drop_zero, List.drop_succ_cons, List.take_succ_cons, List.take_zero, Nat.add_zero, Nat.sub_zero, Nat.reduceLeDiff, Nat.le_refl, Nat.mul_one, List.drop_nil, List.take_nil, Nat.zero_lt_succ, tk3, tk9, dz9, eb9, tk22, tk27, tk29, dz29, tk35, tz35, dz35, kCut, kShift, kOCase, aCh, aRg, e1, e2]
    exact ⟨⟨v1, by omega⟩, hs, fun h => by rw [if_pos h]; rfl, fun h => by rw [if_neg (by simp [h])]⟩
  | false =>
  cases e3 : op == [60] || op == [62] with
  | true =>
    have d : doesF ls op (k, f1, f2, t1, t2) n = shift ls f1 t1 n (op == [60]) := by
      unfold doesF
      rw [if_neg (by simp [e1]), if_neg (by simp [e2]), if_pos e3]
    rw [d]
    cases e4 : op == [60] with
    | true =>
      simp (maxSteps := 4000000) only [↓wpA_H, ↓wpH_skip, ↓wpH_ret, ↓wpH_seq, ↓wpH_cond, ↓wpH_block, ↓wpH_region, ↓iselH_true, ↓iselH_false, bselH_false, runH_nil, runH_cons, gw, gselH_plain, cselH_bool, ↓chk, justK, noW, ↓oneK, ↓pureK, ↓heapK, envOf, ↓thenA_normal, ↓thenA_ret, ↓blockA_ret, ↓stepEv, opnd, Pg.look, binK, strOp, Bool.false_eq_true, false_implies, implies_true, true_and, and_true, valV, heapV, footV, binV, strV, ofV, ofLeaf, retA, resK, tupA, subA, subQ, ptrsE, frzO, subF, subG, pickOf, frzE, frzC, frzL, frz0, frzH, Pg.freeze, List.foldl_nil, subOs, subEv, subV_succ, subM, subL, ldCells, objAt, ↓callT, callC, callV, callH, normArgs, normA, normC, resL, res8_eq, res_succ, resM, shiftR, shift1, AV.cells, TK.cells, AV.definite, AV.leaf, AV.leafy, putCells, lay, List.getElem?_cons_succ, List.getElem?_cons_zero, Option.getD_some, reduceCtorEq, Nat.reduceEqDiff, Nat.reduceAdd, List.nil_append, List.append_nil, List.cons_append, List.length_cons, List.length_nil, List.map_cons, List.map_nil, List.set_cons_zero, List.set_cons_succ, Nat.zero_add, ite_true, ite_false, Option.some.injEq, Prod.mk.injEq, List.all_cons, List.all_nil, Bool.and_self, and_self, exists_eq_left', pickOK_nil, List.length_map, cInt_dec, cBool_dec, cSl_dec, lOne_dec, lCons_dec, dec2_some, List.contains_nil, List.range'_zero, decL_str, C1by_ns, C1by_pre, C1by_r, C1by_H, optP_some, optV_some, optH_some, getD_str, List.getD_cons_zero, cutL, List.drop_zero, List.drop_succ_cons, List.take_succ_cons, List.take_zero, Nat.add_zero, Nat.sub_zero, Nat.le_refl, List.drop_nil, List.take_nil, Nat.zero_lt_succ, tk3, tk9, dz9, tk22, tk27, tk29, dz29, tk35, tz35, dz35, kCut, kShift, kOCase, aCh, aRg, e1, e2, e4]
      exact ⟨⟨v1, by omega⟩, hs⟩
    | false =>
      have e5 : (op == [62]) = true := by simpa [e4] using e3
      simp (maxSteps := 4000000) only [↓wpA_H, ↓wpH_ret, ↓wpH_seq, ↓wpH_cond, ↓wpH_block, ↓wpH_region, ↓iselH_true, ↓iselH_false, bselH_false, runH_nil, runH_cons, gw, gselH_plain, cselH_bool, ↓chk, justK, noW, ↓oneK, ↓pureK, ↓heapK, envOf, ↓thenA_normal, ↓thenA_ret, ↓blockA_ret, ↓stepEv, opnd, Pg.look, binK, strOp, Bool.false_eq_true, false_implies, implies_true, true_and, and_true, valV, heapV, footV, binV, strV, ofV, ofLeaf, retA, resK, tupA, subA, subQ, ptrsE, frzO, subF, subG, pickOf, frzE, frzC, frzL, frz0, frzH, Pg.freeze, List.foldl_nil, subOs, subEv, subV_succ, subM, subL, ldCells, objAt, ↓callT, callC, callV, callH, normArgs, normA, normC, resL, res8_eq, res_succ, resM, shiftR, shift1, AV.cells, TK.cells, AV.definite, AV.leaf, AV.leafy, putCells, lay, List.getElem?_cons_succ, List.getElem?_cons_zero, Option.getD_some, reduceCtorEq, Nat.reduceEqDiff, Nat.reduceAdd, List.nil_append, List.append_nil, List.cons_append, List.length_cons, List.length_nil, List.map_cons, List.map_nil, List.set_cons_zero, List.set_cons_succ, Nat.zero_add, ite_true, ite_false, Option.some.injEq, Prod.mk.injEq, List.all_cons, List.all_nil, Bool.and_self, and_self, exists_eq_left', pickOK_nil, List.length_map, cInt_dec, cBool_dec, cSl_dec, lOne_dec, lCons_dec, dec2_some, List.contains_nil, List.range'_zero, decL_str, C1by_ns, C1by_pre, C1by_r, C1by_H, optP_some, optV_some, optH_some, getD_str, List.getD_cons_zero, cutL, List.drop_zero, List.drop_succ_cons, List.take_succ_cons, List.take_zero, Nat.add_zero, Nat.sub_zero, Nat.le_refl, List.drop_nil, List.take_nil, Nat.zero_lt_succ, tk3, tk9, dz9, tk22, tk27, tk29, dz29, tk35, tz35, dz35, kCut, kShift, kOCase, aCh, aRg, e1, e2, e4, e5]
      exact ⟨⟨v1, by omega⟩, hs⟩
  | false =>
  have e4 : (op == [60]) = false := by
    rw [Bool.or_eq_false_iff] at e3
    exact e3.1
  have e5 : (op == [62]) = false := by
    rw [Bool.or_eq_false_iff] at e3
    exact e3.2
  cases e6 : op == [103, 126] || op == [103, 117] || op == [103, 85] with
  | true =>
    have d : doesF ls op (k, f1, f2, t1, t2) n = kase ls (k, f1, f2, t1, t2) (op.drop 1) := by
      unfold doesF
      rw [if_neg (by simp [e1]), if_neg (by simp [e2]), if_neg (by simp [e3]), if_pos e6]
    rw [d]
    have hol : 1 ≤ op.length := by
      simp only [Bool.or_eq_true, beq_iff_eq] at e6
      rcases e6 with (h | h) | h <;> subst h <;> decide
    cases e7 : op == [103, 126] with
    | true =>
      simp (maxSteps := 4000000) only [↓wpA_H, ↓wpH_skip, ↓wpH_ret, ↓wpH_seq, ↓wpH_cond, ↓wpH_block, ↓wpH_region, ↓iselH_true, ↓iselH_false, bselH_false, runH_nil, runH_cons, gw, gselH_plain, cselH_bool, ↓chk, justK, noW, ↓oneK, ↓pureK, ↓heapK, envOf, ↓thenA_normal, ↓thenA_ret, ↓blockA_ret, ↓stepEv, opnd, Pg.look, binK, strOp, Bool.false_eq_true, false_implies, implies_true, true_and, and_true, valV, heapV, footV, binV, strV, cutV, ofV, ofLeaf, retA, resK, tupA, subA, subQ, ptrsE, frzO, subF, subG, pickOf, frzE, frzC, frzL, frz0, frzH, Pg.freeze, List.foldl_nil, subOs, subEv, subV_succ, subM, subL, ldCells, objAt, sliceS, ↓callT, callC, callV, callH, normArgs, normA, normC, resL, res8_eq, res_succ, resM, shiftR, shift1, AV.cells, TK.cells, AV.definite, AV.leaf, AV.leafy, putCells, lay, List.getElem?_cons_succ, List.getElem?_cons_zero, Option.map_some, Option.map_none, Option.getD_some, reduceCtorEq, Nat.reduceEqDiff, Nat.reduceAdd, List.nil_append, List.append_nil, List.cons_append, List.length_cons, List.length_nil, List.map_cons, List.map_nil, List.set_cons_zero, List.set_cons_succ, Nat.zero_add, Int.reduceToNat, ite_true, ite_false, Option.some.injEq, Prod.mk.injEq, List.all_cons, List.all_nil, Bool.and_self, and_self, exists_eq_left', pickOK_nil, List.length_map, cInt_dec, Int.reduceLE, cStr_dec, cSl_dec, cAgg_dec, lOne_dec, lCons_dec, dec2_some, List.contains_nil, List.range'_zero, decL_str, C1by_ns, C1by_pre, C1by_r, C1by_H, optP_some, optV_some, optH_some, getD_str, List.getD_cons_zero, cutL, List.drop_zero, List.drop_succ_cons, List.take_succ_cons, List.take_zero, Nat.add_zero, Nat.sub_zero, Nat.le_refl, List.drop_nil, List.take_nil, Nat.zero_lt_succ, tk3, tk9, dz9, tk22, tk27, tk29, dz29, tk35, tz35, dz35, kCut, kShift, kOCase, aCh, aRg, e1, e2, e4, e5, e7]
      exact ⟨⟨v1, by omega⟩, by omega, hs⟩
    | false =>
      cases e8 : op == [103, 117] with
      | true =>
        simp (maxSteps := 4000000) only [↓wpA_H, ↓wpH_skip, ↓wpH_ret, ↓wpH_seq, ↓wpH_cond, ↓wpH_block, ↓wpH_region, ↓iselH_true, ↓iselH_false, bselH_false, runH_nil, runH_cons, gw, gselH_plain, cselH_bool, ↓chk, justK, noW, ↓oneK, ↓pureK, ↓heapK, envOf, ↓thenA_normal, ↓thenA_ret, ↓blockA_ret, ↓stepEv, opnd, Pg.look, binK, strOp, Bool.false_eq_true, false_implies, implies_true, true_and, and_true, valV, heapV, footV, binV, strV, cutV, ofV, ofLeaf, retA, resK, tupA, subA, subQ, ptrsE, frzO, subF, subG, pickOf, frzE, frzC, frzL, frz0, frzH, Pg.freeze, List.foldl_nil, subOs, subEv, subV_succ, subM, subL, ldCells, objAt, sliceS, ↓callT, callC, callV, callH, normArgs, normA, normC, resL, res8_eq, res_succ, resM, shiftR, shift1, AV.cells, TK.cells, AV.definite, AV.leaf, AV.leafy, putCells, lay, List.getElem?_cons_succ, List.getElem?_cons_zero, Option.map_some, Option.map_none, Option.getD_some, reduceCtorEq, Nat.reduceEqDiff, Nat.reduceAdd, List.nil_append, List.append_nil, List.cons_append, List.length_cons, List.length_nil, List.map_cons, List.map_nil, List.set_cons_zero, List.set_cons_succ, Nat.zero_add, Int.reduceToNat, ite_true, ite_false, Option.some.injEq, Prod.mk.injEq, List.all_cons, List.all_nil, Bool.and_self, and_self, exists_eq_left', pickOK_nil, List.length_map, cInt_dec, Int.reduceLE, cStr_dec, cSl_dec, cAgg_dec, lOne_dec, lCons_dec, dec2_some, List.contains_nil, List.range'_zero, decL_str, C1by_ns, C1by_pre, C1by_r, C1by_H, optP_some, optV_some, optH_some, getD_str, List.getD_cons_zero, cutL, List.drop_zero, List.drop_succ_cons, List.take_succ_cons, List.take_zero, Nat.add_zero, Nat.sub_zero, Nat.le_refl, List.drop_nil, List.take_nil, Nat.zero_lt_succ, tk3, tk9, dz9, tk22, tk27, tk29, dz29, tk35, tz35, dz35, kCut, kShift, kOCase, aCh, aRg, e1, e2, e4, e5, e7, e8]
        exact ⟨⟨v1, by omega⟩, by omega, hs⟩
      | false =>
        have e9 : (op == [103, 85]) = true := by simpa [e7, e8] using e6
        simp (maxSteps := 4000000) only [↓wpA_H, ↓wpH_ret, ↓wpH_seq, ↓wpH_cond, ↓wpH_block, ↓wpH_region, ↓iselH_true, ↓iselH_false, bselH_false, runH_nil, runH_cons, gw, gselH_plain, cselH_bool, ↓chk, justK, noW, ↓oneK, ↓pureK, ↓heapK, envOf, ↓thenA_normal, ↓thenA_ret, ↓blockA_ret, ↓stepEv, opnd, Pg.look, binK, strOp, Bool.false_eq_true, false_implies, implies_true, true_and, and_true, valV, heapV, footV, binV, strV, cutV, ofV, ofLeaf, retA, resK, tupA, subA, subQ, ptrsE, frzO, subF, subG, pickOf, frzE, frzC, frzL, frz0, frzH, Pg.freeze, List.foldl_nil, subOs, subEv, subV_succ, subM, subL, ldCells, objAt, sliceS, ↓callT, callC, callV, callH, normArgs, normA, normC, resL, res8_eq, res_succ, resM, shiftR, shift1, AV.cells, TK.cells, AV.definite, AV.leaf, AV.leafy, putCells, lay, List.getElem?_cons_succ, List.getElem?_cons_zero, Option.map_some, Option.map_none, Option.getD_some, reduceCtorEq, Nat.reduceEqDiff, Nat.reduceAdd, List.nil_append, List.append_nil, List.cons_append, List.length_cons, List.length_nil, List.map_cons, List.map_nil, List.set_cons_zero, List.set_cons_succ, Nat.zero_add, Int.reduceToNat, ite_true, ite_false, Option.some.injEq, Prod.mk.injEq, List.all_cons, List.all_nil, Bool.and_self, and_self, exists_eq_left', pickOK_nil, List.length_map, cInt_dec, Int.reduceLE, cStr_dec, cSl_dec, cAgg_dec, lOne_dec, lCons_dec, dec2_some, List.contains_nil, List.range'_zero, decL_str, C1by_ns, C1by_pre, C1by_r, C1by_H, optP_some, optV_some, optH_some, getD_str, List.getD_cons_zero, cutL, List.drop_zero, List.drop_succ_cons, List.take_succ_cons, List.take_zero, Nat.add_zero, Nat.sub_zero, Nat.le_refl, List.drop_nil, List.take_nil, Nat.zero_lt_succ, tk3, tk9, dz9, tk22, tk27, tk29, dz29, tk35, tz35, dz35, kCut, kShift, kOCase, aCh, aRg, e1, e2, e4, e5, e7, e8, e9]
        exact ⟨⟨v1, by omega⟩, by omega, hs⟩
  | false =>
  simp only [Bool.or_eq_false_iff] at e6
  obtain ⟨⟨e7, e8⟩, e9⟩ := e6
  cases e10 : op == [121] with
  | true =>
    have d : doesF ls op (k, f1, f2, t1, t2) n = ((f1, [ls.getD f1.toNat []], [ls.getD f1.toNat []]), true) := by
      unfold doesF
      rw [if_neg (by simp [e1]), if_neg (by simp [e2]), if_neg (by simp [e3]), if_neg (by simp [e7, e8, e9]), if_pos e10]
    rw [d]
    simp (maxSteps := 4000000) only [↓wpA_H, ↓wpH_ret, ↓wpH_seq, ↓wpH_cond, ↓wpH_block, ↓wpH_region, ↓iselH_true, ↓iselH_false, bselH_false, runH_nil, runH_cons, gw, gselH_plain, cselH_bool, ↓chk, justK, noW, ↓oneK, ↓pureK, ↓heapK, envOf, ↓thenA_normal, ↓thenA_ret, ↓blockA_ret, ↓stepEv, opnd, Pg.look, binK, strOp, Bool.false_eq_true, implies_true, true_and, and_true, valV, heapV, footV, binV, strV, ofV, ofLeaf, retA, resK, tupA, subA, subQ, ptrsE, frzO, subF, subG, pickOf, frzE, frzC, frzL, frz0, frzH, Pg.freeze, List.foldl_nil, List.foldl_cons, subOs, subEv, subV_succ, subM, subL, ldCells, objAt, resL, res_succ, resM, AV.cells, TK.cells, AV.definite, AV.leaf, AV.leafy, AV.pureLeaf, AV.pureB, putCells, lay, buildL, frzAt, List.getElem?_cons_succ, List.getElem?_cons_zero, Option.getD_some, reduceCtorEq, Nat.reduceEqDiff, Nat.reduceAdd, List.nil_append, List.append_nil, List.cons_append, List.length_cons, List.length_nil, List.map_cons, List.map_nil, List.set_cons_zero, List.set_cons_succ, Nat.zero_add, ite_true, ite_false, Option.some.injEq, Option.isSome_some, AV.agg.injEq, List.all_cons, List.all_nil, Bool.and_self, and_self, exists_eq_left', pickOK_nil, List.length_map, rg1, resIn, List.contains_cons, List.contains_nil, Nat.reduceBEq, Bool.or_self, Bool.or_false, beq_self_eq_true, Bool.or_true, Nat.reducePow, getD_str, List.getD_cons_zero, cutL, List.drop_zero, List.drop_succ_cons, List.take_succ_cons, List.take_zero, Nat.add_zero, Nat.sub_zero, Nat.reduceLeDiff, Nat.le_refl, Nat.mul_one, List.drop_nil, List.take_nil, Nat.zero_lt_succ, tk3, tk9, dz9, eb9, tk22, tk27, tk29, dz29, tk35, tz35, dz35, kCut, kShift, kOCase, aCh, aRg, e1, e2, e4, e5, e7, e8, e9, e10]
    exact ⟨v1, by omega⟩
  | false =>
    have d : doesF ls op (k, f1, f2, t1, t2) n = ((0, [], []), false) := by
      unfold doesF
      rw [if_neg (by simp [e1]), if_neg (by simp [e2]), if_neg (by simp [e3]), if_neg (by simp [e7, e8, e9]), if_neg (by simp [e10])]
    rw [d]
    simp (maxSteps := 4000000) only [↓wpA_H, ↓wpH_skip, ↓wpH_ret, ↓wpH_seq, ↓wpH_cond, ↓wpH_block, ↓wpH_region, ↓iselH_false, bselH_false, runH_nil, runH_cons, gw, gselH_plain, cselH_bool, ↓chk, justK, noW, ↓oneK, ↓pureK, ↓heapK, envOf, ↓thenA_normal, ↓blockA_normal, ↓stepEv, opnd, Pg.look, binK, strOp, Bool.false_eq_true, implies_true, true_and, and_true, valV, heapV, footV, binV, strV, ofV, ofLeaf, retA, resK, tupA, subA, subQ, ptrsE, frzO, subF, subG, pickOf, frzE, frzC, frzL, frz0, frzH, Pg.freeze, List.foldl_nil, subOs, subEv, subV_succ, subM, subL, ldCells, objAt, res_succ, resM, AV.cells, TK.cells, AV.definite, AV.leaf, AV.leafy, putCells, lay, buildL, List.getElem?_cons_succ, List.getElem?_cons_zero, Option.getD_some, reduceCtorEq, Nat.reduceEqDiff, Nat.reduceAdd, List.nil_append, List.append_nil, List.cons_append, List.length_cons, List.length_nil, List.map_nil, List.set_cons_zero, List.set_cons_succ, Nat.zero_add, ite_true, ite_false, Option.some.injEq, Option.isSome_some, AV.agg.injEq, List.all_cons, List.all_nil, Bool.and_self, and_self, exists_eq_left', pickOK_nil, List.length_map, List.contains_nil, getD_str, List.getD_cons_zero, cutL, List.drop_zero, List.drop_succ_cons, List.take_succ_cons, List.take_zero, Nat.add_zero, Nat.sub_zero, Nat.le_refl, List.drop_nil, List.take_nil, Nat.zero_lt_succ, tk3, tk9, dz9, tk22, tk27, tk29, dz29, tk35, tz35, dz35, kCut, kShift, kOCase, aCh, aRg, e1, e2, e4, e5, e7, e8, e9, e10]
    exact ⟨v1, by omega⟩

def kDoes : C1 := C1.by [.sl 1 [], .id, .id, .id] (lCons cStrs (lCons cStr (lCons cRg (lOne (cInt .i64))))) (fun d => small d.1 ∧ valid d.1 d.2.2.1 = true ∧ d.2.1.length ≤ 140737488355328)
  (fun d => .tuple [aCh (doesF d.1 d.2.1 d.2.2.1 d.2.2.2).1, .bool (doesF d.1 d.2.1 d.2.2.1 d.2.2.2).2]) (fun _ => [])
theorem ok_does : C1OK Try.prog 29 kDoes := C1OK.by (by kernel_rfl) (fun d h => calls_does d.1 d.2.1 d.2.2.1 d.2.2.2 h.1 h.2.1 h.2.2) (fun _ => rfl) (fun _ => rfl)
end Go.Pg
namespace Go.Pg
open Go Go.Proofs

def kOFirst : C1 := C1.by [.sl 1 [], .id] (lCons cStrs (lOne (cInt .i64))) (fun d => small d.1 ∧ 0 < d.1.length ∧ 0 ≤ d.2 ∧ d.2 ≤ 9223372036854775807) (fun d => aPos (firstP d.1 d.2)) (fun _ => [])
theorem ok_OFirst : C1OK Try.prog 31 kOFirst := C1OK.by (by kernel_rfl) (fun d h => calls_OFirst d.1 d.2 h.1 h.2.1 h.2.2) (fun _ => rfl) (fun _ => rfl)

theorem apply1_pos {ls : Ls} {x : Ch} (h : (apply1 ls x).2 = true) : 0 < (apply1 ls x).1.length := by
  unfold apply1 at h ⊢
  split
  · next hc => rw [if_pos hc] at h; cases h
  · next hc =>
    rw [Bool.not_eq_true] at hc
    simp only [Bool.or_eq_false_iff, decide_eq_false_iff_not, beq_eq_false_iff_ne, ne_eq] at hc
    simp only [List.length_append, List.length_take, List.length_drop]
    omega

def doPos (ls : Ls) (op : List UInt8) (r : Rg) (now : Ls) : Int × Int :=
  if (op == [60] || op == [62]) = true then firstP now r.2.1
  else if (r.1 == 1 && op == [99]) = true then (r.2.1, 0)
  else if (r.1 == 1 && !(op == [121])) = true then firstP now r.2.1
  else (r.2.1, r.2.2.1)

/-- What an operator does, and where the cursor is then. -/
def doF (ls : Ls) (op : List UInt8) (r : Rg) (n : Int) : Ch × (Int × Int) × Bool :=
  if (valid ls r && (doesF ls op r n).2) = true then ((doesF ls op r n).1, clampP (apply1 ls (doesF ls op r n).1).1 (doPos ls op r (apply1 ls (doesF ls op r n).1).1) (op == [99]), true)
  else ((0, [], []), (0, 0), false)

set_option maxRecDepth 20000 in
set_option maxHeartbeats 4000000 in
theorem calls_Do (ls : Ls) (op : List UInt8) (r : Rg) (n : Int) (hs : small ls) (hl : ls.length ≤ 1099511627) (ho : op.length ≤ 140737488355328)
    (hA : valid ls r = true → (doesF ls op r n).2 = true → (apply1 ls (doesF ls op r n).1).2 = true ∧ small (apply1 ls (doesF ls op r n).1).1 ∧ (doesF ls op r n).1.2.1.length ≤ 1099511627 ∧ (doesF ls op r n).1.2.2.length ≤ 1099511627) :
    CallsR Try.prog 15 [.sl 1 (ls.map .str), .str op, aRg r, .int .i64 n] [] (.tuple [aCh (doF ls op r n).1, aPos (doF ls op r n).2.1, .bool (doF ls op r n).2.2]) [] := by
  refine callsR_of (mrg := true) (dyn := []) (CtrOK.cons ok_Valid (CtrOK.cons ok_does (CtrOK.cons ok_CApply (CtrOK.cons ok_OFirst (CtrOK.cons ok_CClamp (CtrOK.nil _)))))) mixed Try.func15 rfl (by simp [Try.ntmps15]) (by kernel_rfl) ?_
  rw [show Try.f15.results.toList = [.cell 8 35, .cell 9 27, .tmp 10] from by kernel_rfl]
  cases hv : valid ls r with
  | false =>
    have d : doF ls op r n = ((0, [], []), (0, 0), false) := by unfold doF; rw [if_neg (by simp [hv])]
    rw [d]
    obtain ⟨k, f1, f2, t1, t2⟩ := r
    simp (maxSteps := 4000000) only [↓wpA_H, ↓wpH_ret, ↓wpH_seq, ↓wpH_cond, ↓wpH_region, ↓iselH_true, bselH_false, runH_nil, runH_cons, gw, gselH_plain, cselH_bool, ↓chk, justK, noW, ↓oneK, ↓pureK, ↓heapK, envOf, ↓thenA_normal, ↓thenA_ret, ↓stepEv, opnd, Pg.look, Bool.not_false, Bool.false_eq_true, false_implies, implies_true, true_and, and_true, valV, heapV, footV, ofV, ofLeaf, retA, resK, tupA, subA, subQ, ptrsE, frzO, subF, subG, pickOf, frzE, frzC, frzL, frz0, frzH, Pg.freeze, List.foldl_nil, subOs, subEv, subV_succ, subM, subL, ldCells, objAt, ↓callT, callC, callV, callH, normArgs, normA, normC, resL, res8_eq, res_succ, resM, shiftR, shift1, AV.cells, TK.cells, AV.definite, AV.leaf, AV.leafy, putCells, lay, buildL, List.getElem?_cons_succ, List.getElem?_cons_zero, Option.getD_some, reduceCtorEq, Nat.reduceEqDiff, Nat.reduceAdd, List.nil_append, List.append_nil, List.cons_append, List.length_cons, List.length_nil, List.map_cons, List.map_nil, List.set_cons_zero, List.set_cons_succ, Nat.zero_add, ite_true, ite_false, Option.some.injEq, Option.isSome_some, AV.agg.injEq, Prod.mk.injEq, List.all_cons, List.all_nil, Bool.and_self, and_self, exists_eq_left', pickOK_nil, cInt_dec, cSl_dec, cAgg_dec, lOne_dec, lCons_dec, dec2_some, List.contains_nil, List.range'_zero, decL_str, C1by_ns, C1by_pre, C1by_r, C1by_H, optP_some, optV_some, optH_some, List.getD_cons_zero, cutL, List.drop_zero, List.drop_succ_cons, List.take_succ_cons, List.take_zero, Nat.sub_zero, Nat.le_refl, List.drop_nil, List.take_nil, Nat.zero_lt_succ, tk27, tz27, dz27, tk29, dz29, tk35, tz35, dz35, kValid, kDoes, kCApply, kOFirst, kCClamp, aCh, aRg, aPos, hv]
  | true =>
  cases hd : (doesF ls op r n).2 with
  | false =>
    have d : doF ls op r n = ((0, [], []), (0, 0), false) := by unfold doF; rw [if_neg (by simp [hd])]
    rw [d]
    obtain ⟨k, f1, f2, t1, t2⟩ := r
    simp (maxSteps := 4000000) only [↓wpA_H, ↓wpH_skip, ↓wpH_ret, ↓wpH_seq, ↓wpH_cond, ↓wpH_region, ↓iselH_true, ↓iselH_false, bselH_false, runH_nil, runH_cons, gw, gselH_plain, cselH_bool, ↓chk, justK, noW, ↓oneK, ↓pureK, ↓heapK, envOf, ↓thenA_normal, ↓thenA_ret, ↓stepEv, opnd, Pg.look, Bool.not_false, Bool.not_true, Bool.false_eq_true, false_implies, implies_true, true_and, and_true, valV, heapV, footV, ofV, ofLeaf, retA, resK, tupA, subA, subQ, ptrsE, frzO, subF, subG, pickOf, frzE, frzC, frzL, frz0, frzH, Pg.freeze, List.foldl_nil, subOs, subEv, subV_succ, subM, subL, ldCells, objAt, ↓callT, callC, callV, callH, normArgs, normA, normC, resL, res8_eq, res_succ, resM, shiftR, shift1, AV.cells, TK.cells, AV.definite, AV.leaf, AV.leafy, putCells, lay, buildL, List.getElem?_cons_succ, List.getElem?_cons_zero, Option.getD_some, reduceCtorEq, Nat.reduceEqDiff, Nat.reduceAdd, List.nil_append, List.append_nil, List.cons_append, List.length_cons, List.length_nil, List.map_cons, List.map_nil, List.set_cons_zero, List.set_cons_succ, Nat.zero_add, ite_true, ite_false, Option.some.injEq, Option.isSome_some, AV.agg.injEq, Prod.mk.injEq, List.all_cons, List.all_nil, Bool.and_self, and_self, exists_eq_left', pickOK_nil, cInt_dec, cStr_dec, cSl_dec, cAgg_dec, lOne_dec, lCons_dec, dec2_some, List.contains_nil, List.range'_zero, decL_str, C1by_ns, C1by_pre, C1by_r, C1by_H, optP_some, optV_some, optH_some, List.getD_cons_zero, cutL, List.drop_zero, List.drop_succ_cons, List.take_succ_cons, List.take_zero, Nat.sub_zero, Nat.le_refl, List.drop_nil, List.take_nil, Nat.zero_lt_succ, tk27, tz27, dz27, tk29, dz29, tk35, tz35, dz35, kValid, kDoes, kCApply, kOFirst, kCClamp, aCh, aRg, aPos, hv, hd]
    exact ⟨hs, ho⟩
  | true =>
  obtain ⟨a1, a2, a3, a4⟩ := hA hv hd
  have a5 := apply1_pos a1
  obtain ⟨v1, v2, v3⟩ := valid_line hv
  have d : doF ls op r n = ((doesF ls op r n).1, clampP (apply1 ls (doesF ls op r n).1).1 (doPos ls op r (apply1 ls (doesF ls op r n).1).1) (op == [99]), true) := by unfold doF; rw [if_pos (by simp [hv, hd])]
  rw [d]
  obtain ⟨k, f1, f2, t1, t2⟩ := r
  simp (maxSteps := 4000000) only [↓wpA_H, ↓wpH_skip, ↓wpH_ret, ↓wpH_seq, ↓wpH_cond, ↓wpH_block, ↓wpH_region, ↓iselH_false, iselH_if, bselH_false, runH_nil, runH_cons, gw, gselH_plain, gselH_if, kselH_1, cselH_bool, gkind, ↓chk, justK, noW, ↓oneK, ↓pureK, ↓heapK, envOf, ↓thenA_normal, ↓blockA_normal, ↓stepEv, opnd, Pg.look, binK, intOp, strOp, dstOf, Bool.not_true, Bool.false_eq_true, false_implies, implies_true, imp_self, true_and, and_true, pickC, pickV, unc, gof, mux, mergeK, condsL, valV, heapV, footV, binV, intV, strV, mergeable, look_stripE, ofV, ofLeaf, sameK, retA, resK, tupA, subA, subQ, ptrsE, frzO, subF, subG, pickOf, frzE, frzC, frzL, frz0, frzH, Pg.freeze, List.foldl_nil, List.foldl_cons, subOs, subEv, subV_succ, subM, subL, ldCells, objAt, ↓callT, callC, callV, callH, normArgs, normA, normC, normL, normE, resL, res8_eq, res_succ, resM, shiftR, shift1, AV.cells, TK.cells, AV.definite, AV.leaf, AV.leafy, AV.pureLeaf, AV.pureB, putCells, lay, frzAt, Op.operands, List.getElem?_toArray, List.getElem?_cons_succ, List.getElem?_cons_zero, Option.bind_some, Option.getD_some, reduceCtorEq, Nat.reduceEqDiff, Nat.reduceAdd, Nat.reduceSub, List.nil_append, List.append_nil, List.cons_append, List.length_cons, List.length_nil, List.map_cons, List.map_nil, List.set_cons_zero, List.set_cons_succ, Nat.zero_add, ite_true, ite_false, Option.some.injEq, Option.isSome_some, Prod.mk.injEq, Bool.if_false_right, Bool.if_true_left, Bool.decide_eq_true, List.all_cons, List.all_nil, Bool.and_self, and_self, Bool.not_eq_true', exists_eq_left', pickOK_nil, cInt_dec, cBool_dec, List.toList_toArray, rg1, cStr_dec, cSl_dec, cAgg_dec, lOne_dec, lCons_dec, dec2_some, List.contains_nil, beq_self_eq_true, decL_nil, decL_cons, consO_some, List.range'_zero, Nat.reducePow, decL_str, C1by_ns, C1by_pre, C1by_r, C1by_H, optP_some, optV_some, optH_some, List.getD_cons_zero, cutL, List.drop_zero, List.drop_succ_cons, List.take_succ_cons, List.take_zero, Nat.add_zero, Nat.sub_zero, Nat.reduceLeDiff, Nat.le_refl, Nat.one_mul, List.drop_nil, List.take_nil, Nat.zero_lt_succ, tk3, tk27, tz27, dz27, tk29, dz29, tk35, tz35, dz35, eb35, tk40, kValid, kDoes, kCApply, kOFirst, kCClamp, aCh, aRg, aPos, hv, hd]
  have e : (((doesF ls op (k, f1, f2, t1, t2) n).1.1, (doesF ls op (k, f1, f2, t1, t2) n).1.2.1, (doesF ls op (k, f1, f2, t1, t2) n).1.2.2) : Ch) = (doesF ls op (k, f1, f2, t1, t2) n).1 := rfl
  simp only at v1 v2 v3
  have hm : ∀ x ∈ [(((doesF ls op (k, f1, f2, t1, t2) n).1.1, (doesF ls op (k, f1, f2, t1, t2) n).1.2.1, (doesF ls op (k, f1, f2, t1, t2) n).1.2.2) : Ch)], x.2.1.length ≤ 1099511627 ∧ x.2.2.length ≤ 1099511627 := fun x hx => by
    obtain rfl := List.mem_singleton.1 hx
    exact ⟨a3, a4⟩
  have p1 : ∀ p : Int × Int, ((p.1, p.2) : Int × Int) = p := fun _ => rfl
  refine ⟨⟨hs, ho⟩, ⟨hl, hm⟩, ?_⟩
  rw [e]
  generalize (apply1 ls (doesF ls op (k, f1, f2, t1, t2) n).1).1 = now at a2 a5
  have f0 : f1 ≤ 9223372036854775807 := by omega
  refine ⟨fun h => ⟨⟨a2, a5, v1, f0⟩, a2, ?_⟩, fun h => ⟨fun h2 => ⟨a2, ?_⟩, fun h2 => ⟨fun h3 => ⟨⟨a2, a5, v1, f0⟩, a2, ?_⟩, fun h3 => ⟨a2, ?_⟩⟩⟩⟩
  · have q : doPos ls op (k, f1, f2, t1, t2) now = firstP now f1 := if_pos h
    rw [q]
    exact ⟨rfl, rfl⟩
  · have q : doPos ls op (k, f1, f2, t1, t2) now = (f1, 0) := by
      unfold doPos
      rw [if_neg (by simp [h]), if_pos h2]
    rw [q]
    exact ⟨rfl, rfl⟩
  · have q : doPos ls op (k, f1, f2, t1, t2) now = firstP now f1 := by
      unfold doPos
      rw [if_neg (by simp [h]), if_neg (by simp only [h2]; decide), if_pos h3]
    rw [q]
    exact ⟨rfl, rfl⟩
  · have q : doPos ls op (k, f1, f2, t1, t2) now = (f1, f2) := by
      unfold doPos
      rw [if_neg (by simp [h]), if_neg (by simp only [h2]; decide), if_neg (by simp only [h3]; decide)]
    rw [q]
    exact ⟨rfl, rfl⟩
end Go.Pg
namespace Go.Pg
open Go Go.Proofs

def kDo : C1 := C1.by [.sl 1 [], .id, .id, .id] (lCons cStrs (lCons cStr (lCons cRg (lOne (cInt .i64)))))
  (fun d => small d.1 ∧ d.1.length ≤ 1099511627 ∧ d.2.1.length ≤ 140737488355328 ∧ (valid d.1 d.2.2.1 = true → (doesF d.1 d.2.1 d.2.2.1 d.2.2.2).2 = true → (apply1 d.1 (doesF d.1 d.2.1 d.2.2.1 d.2.2.2).1).2 = true ∧ small (apply1 d.1 (doesF d.1 d.2.1 d.2.2.1 d.2.2.2).1).1 ∧ (doesF d.1 d.2.1 d.2.2.1 d.2.2.2).1.2.1.length ≤ 1099511627 ∧ (doesF d.1 d.2.1 d.2.2.1 d.2.2.2).1.2.2.length ≤ 1099511627))
  (fun d => .tuple [aCh (doF d.1 d.2.1 d.2.2.1 d.2.2.2).1, aPos (doF d.1 d.2.1 d.2.2.1 d.2.2.2).2.1, .bool (doF d.1 d.2.1 d.2.2.1 d.2.2.2).2.2]) (fun _ => [])
theorem ok_Do : C1OK Try.prog 15 kDo := C1OK.by (by kernel_rfl) (fun d h => calls_Do d.1 d.2.1 d.2.2.1 d.2.2.2 h.1 h.2.1 h.2.2.1 h.2.2.2) (fun _ => rfl) (fun _ => rfl)
def kOText : C1 := C1.by [.sl 1 [], .id] (lCons cStrs (lOne cRg)) (fun d => small d.1) (fun d => .agg [.int .i64 d.2.1, .sl 1 ((rtext d.1 d.2).map .str)]) (fun _ => [])
theorem ok_OText : C1OK Try.prog 14 kOText := C1OK.by (by kernel_rfl) (fun d h => calls_OText d.1 d.2 h) (fun _ => rfl) (fun _ => rfl)

theorem small_ex2 (a b : List UInt8) (ha : a.length ≤ 100) (hb : b.length ≤ 100) : small [a, b] := ⟨by show 2 ≤ _; decide, fun i => by match i with
  | 0 => show a.length ≤ _; omega
  | 1 => show b.length ≤ _; omega
  | i + 2 => simp⟩
theorem small_ex1 (a : List UInt8) (ha : a.length ≤ 100) : small [a] := ⟨by show 1 ≤ _; decide, fun i => by match i with
  | 0 => show a.length ≤ _; omega
  | i + 1 => simp⟩

theorem ex_d1 : doesF [[97, 98], [32, 32, 99]] [100] (0, 0, 0, 0, 1) 1 = ((0, [[97, 98]], [[98]]), true) := by decide +kernel
theorem ex_d2 : doesF [[97, 98], [32, 32, 99]] [100] (1, 0, 0, 0, 0) 1 = ((0, [[97, 98]], []), true) := by decide +kernel
theorem ex_d3 : doesF [[97, 98], [32, 32, 99]] [122, 122] (0, 0, 0, 0, 0) 1 = ((0, [], []), false) := by decide +kernel
theorem ex_a1 : apply1 [[97, 98], [32, 32, 99]] (0, [[97, 98]], [[98]]) = ([[98], [32, 32, 99]], true) := by decide +kernel
theorem ex_a2 : apply1 [[97, 98], [32, 32, 99]] (0, [[97, 98]], []) = ([[32, 32, 99]], true) := by decide +kernel
theorem ex_f1 : doF [[97, 98], [32, 32, 99]] [100] (0, 0, 0, 0, 1) 1 = ((0, [[97, 98]], [[98]]), (0, 0), true) := by decide +kernel
theorem ex_f2 : doF [[97, 98], [32, 32, 99]] [100] (1, 0, 0, 0, 0) 1 = ((0, [[97, 98]], []), (0, 2), true) := by decide +kernel
theorem ex_f3 : doF [[97, 98], [32, 32, 99]] [122, 122] (0, 0, 0, 0, 0) 1 = ((0, [], []), (0, 0), false) := by decide +kernel
theorem ex_t : rtext [[97, 98], [32, 32, 99]] (1, 0, 0, 0, 0) = [[97, 98]] := by decide +kernel

set_option maxRecDepth 20000 in
set_option maxHeartbeats 4000000 in
theorem calls_oknown : CallsR Try.prog 11 [] [] (.bool true) [] := by
  refine callsR_of (mrg := false) (dyn := []) (CtrOK.cons ok_Do (CtrOK.cons ok_OText (CtrOK.cons ok_Strings (CtrOK.nil _)))) mixed Try.func11 rfl (by simp [Try.ntmps11]) (by kernel_rfl) ?_
  rw [show Try.f11.results.toList = [.tmp 0] from by kernel_rfl]
  simp (maxSteps := 4000000) only [↓wpA_H, ↓wpH_ret, ↓wpH_seq, ↓wpH_region, ↓iselH_true, ↓iselH_false, iselH_if, bselH_false, runH_nil, runH_cons, ↓fixG, setG, gw, gselH_plain, gselH_if, kselH_2, gkind, ↓chk, justK, noW, ↓oneK, ↓pureK, ↓heapK, envOf, ↓thenA_normal, ↓stepEv, opnd, Pg.look, binK, intOp, cellsEq, leafEq, dstOf, Bool.and_true, Bool.not_false, Bool.not_true, Bool.false_eq_true, Bool.true_eq_false, false_implies, implies_true, true_and, and_true, pickC, pickV, unc, gof, mux, valV, heapV, footV, binV, intV, mergeable, ofV, ofLeaf, retA, resK, tupA, subA, subQ, ptrsE, frzO, subF, subG, pickOf, frzE, frzC, frz0, frzH, Pg.freeze, List.foldl_nil, List.foldl_cons, subOs, subEv, subV_succ, subM, slen, ldCells, objAt, ↓callT, callC, callV, callH, normArgs, normA, normC, resL, res8_eq, res_succ, resM, shiftR, shift1, AV.cells, TK.cells, AV.definite, AV.leaf, AV.leafy, AV.pureLeaf, AV.pureB, putCells, lay, buildL, frzAt, List.getElem?_toArray, List.getElem?_cons_succ, List.getElem?_cons_zero, Option.bind_some, Option.getD_some, reduceCtorEq, Nat.reduceEqDiff, Nat.reduceAdd, List.nil_append, List.append_nil, List.cons_append, List.length_cons, List.length_nil, List.map_cons, List.map_nil, List.set_cons_zero, List.set_cons_succ, Nat.zero_add, ite_true, ite_false, Option.some.injEq, Option.isSome_some, AV.int.injEq, AV.agg.injEq, Prod.mk.injEq, List.all_cons, List.all_nil, Bool.and_self, and_self, Bool.not_eq_true', exists_eq_left', pickOK_nil, List.length_map, cInt_dec, rg1, rg2, cStr_dec, cSl_dec, cAgg_dec, lOne_dec, lCons_dec, dec2_some, List.contains_nil, beq_self_eq_true, decL_nil, decL_cons, consO_some, List.range'_zero, Nat.reducePow, decL_str, C1by_ns, C1by_pre, C1by_r, C1by_H, optP_some, optV_some, optH_some, List.getD_cons_zero, cutL, List.drop_zero, List.drop_succ_cons, List.take_succ_cons, List.take_zero, Nat.add_zero, Nat.sub_zero, Nat.reduceLeDiff, Nat.le_refl, Nat.mul_one, List.drop_nil, List.take_nil, Nat.zero_lt_succ, tk3, eb9, tk22, tk27, tz27, dz27, eq27, tk29, tz29, tk32, tz32, dz32, tk35, tz35, dz35, kDo, kOText, kStrings, aCh, aPos]
  have s0 := small_ex2 [97, 98] [32, 32, 99] (by decide) (by decide)
  have s1 := small_ex2 [98] [32, 32, 99] (by decide) (by decide)
  have s2 := small_ex1 [32, 32, 99] (by decide)
  rw [ex_d1, ex_d2, ex_d3, ex_f1, ex_f2, ex_f3, ex_t]
  simp only [ex_a1, ex_a2]
  refine ⟨⟨s0, fun _ _ => ⟨trivial, s1, by decide, by decide⟩⟩, ⟨s0, fun _ _ => ⟨trivial, s2, by decide, by decide⟩⟩, ⟨s0, fun _ h => by cases h⟩, s0, ?_⟩
  simp
end Go.Pg
namespace Go.Pg
open Go Go.Proofs

def kOKnown : C1 := C1.by [] lNil (fun _ => True) (fun _ => .bool true) (fun _ => [])
theorem ok_oknown : C1OK Try.prog 11 kOKnown := C1OK.by (by kernel_rfl) (fun _ _ => calls_oknown) (fun _ => rfl) (fun _ => rfl)

/-- A letter's case, up or down, twice is once. -/
theorem caseU_nat : ∀ n, n < 256 → caseB true false (caseB true false (UInt8.ofNat n)) = caseB true false (UInt8.ofNat n) ∧ smallB (caseB true false (UInt8.ofNat n)).toNat = false := by decide +kernel
theorem caseL_nat : ∀ n, n < 256 → caseB false true (caseB false true (UInt8.ofNat n)) = caseB false true (UInt8.ofNat n) ∧ capB (caseB false true (UInt8.ofNat n)).toNat = false := by decide +kernel
theorem caseU_twice (x : UInt8) : caseB true false (caseB true false x) = caseB true false x ∧ smallB (caseB true false x).toNat = false := by
  have := caseU_nat x.toNat x.toNat_lt
  rwa [UInt8.ofNat_toNat] at this
theorem caseL_twice (x : UInt8) : caseB false true (caseB false true x) = caseB false true x ∧ capB (caseB false true x).toNat = false := by
  have := caseL_nat x.toNat x.toNat_lt
  rwa [UInt8.ofNat_toNat] at this
end Go.Pg
namespace Go.Pg
open Go Go.Proofs

theorem cut_mid (ls : Ls) (a b : Nat) (h : a ≤ b) : ls.take a ++ cutL ls a b ++ ls.drop b = ls := by
  unfold cutL
  have e1 : ls.take a ++ (ls.drop a).take (b - a) = ls.take b := by
    have := List.take_add (l := ls) (i := a) (j := b - a)
    rw [show a + (b - a) = b by omega] at this
    exact this.symm
  rw [e1, List.take_append_drop]

theorem nowL_take (ls : Ls) (f t : Int) (G : Int → List UInt8) (h0 : 0 ≤ f) (h1 : f ≤ t) (h2 : t < ls.length) : (nowL ls f t G).take f.toNat = ls.take f.toNat := by
  unfold nowL
  have hl : (ls.take f.toNat).length = f.toNat := by rw [List.length_take]; omega
  rw [List.append_assoc, List.take_left' hl]
theorem nowL_drop (ls : Ls) (f t : Int) (G : Int → List UInt8) (h0 : 0 ≤ f) (h1 : f ≤ t) (h2 : t < ls.length) : (nowL ls f t G).drop (t + 1).toNat = ls.drop (t + 1).toNat := by
  unfold nowL
  have n2 := eachL_length f t G
  have hl : (ls.take f.toNat ++ eachL f t G).length = (t + 1).toNat := by rw [List.length_append, List.length_take, n2]; omega
  rw [List.drop_left' hl]
theorem eachL_self (ls : Ls) (f t : Int) (h0 : 0 ≤ f) (h1 : f ≤ t) (h2 : t < ls.length) : eachL f t (fun i => ls.getD i.toNat []) = cutL ls f.toNat (t + 1).toNat :=
  eachL_back ls f t _ h0 h1 h2 (fun _ _ _ => rfl)

theorem nowL_undo (ls : Ls) (f t : Int) (G : Int → List UInt8) (h0 : 0 ≤ f) (h1 : f ≤ t) (h2 : t < ls.length) :
    applyL (nowL ls f t G) [(f, cutL (nowL ls f t G) f.toNat (t + 1).toNat, cutL ls f.toNat (t + 1).toNat)] = (ls, true) := by
  have hn := nowL_length ls f t G h0 h1 h2
  have := applyL_now (nowL ls f t G) f t (fun i => ls.getD i.toNat []) h0 h1 (by omega)
  rw [eachL_self ls f t h0 h1 h2] at this
  rw [this]
  congr 1
  have e : nowL (nowL ls f t G) f t (fun i => ls.getD i.toNat []) = (nowL ls f t G).take f.toNat ++ eachL f t (fun i => ls.getD i.toNat []) ++ (nowL ls f t G).drop (t + 1).toNat := rfl
  rw [e, nowL_take ls f t G h0 h1 h2, nowL_drop ls f t G h0 h1 h2, eachL_self ls f t h0 h1 h2]
  exact cut_mid ls _ _ (by omega)

theorem apply1_of {ls now : Ls} {x : Ch} (h : applyL ls [x] = (now, true)) : apply1 ls x = (now, true) := by
  rw [applyL1] at h
  cases hb : (apply1 ls x).2 with
  | true =>
    rw [hb] at h
    simp only [if_true] at h
    exact Prod.ext (by simpa using congrArg Prod.fst h) hb
  | false =>
    rw [hb] at h
    cases congrArg Prod.snd h

theorem shift_fro (ls : Ls) (f t k : Int) (hf : fits 40 1200 ls) (h0 : 0 ≤ f) (h1 : f ≤ t) (h2 : t < ls.length) (k1 : 1 ≤ k) (k2 : k ≤ 3) :
    ∃ O N now M : Ls, shift ls f t k false = ((f, O, N), true) ∧ apply1 ls (f, O, N) = (now, true) ∧ shift now f t k true = ((f, M, O), true) ∧ apply1 now (f, M, O) = (ls, true) ∧ fits 40 1300 now ∧ O.length ≤ 40 ∧ N.length ≤ 40 ∧ M.length ≤ 40 ∧ now.length = ls.length := by
  have hl := hf.1
  have hk : min k 1024 = k := by omega
  have ap := applyL_now ls f t (fun i => shiftS (ls.getD i.toNat []) k false) h0 h1 h2
  have hG := fun i a b => nowL_getD ls f t (fun i => shiftS (ls.getD i.toNat []) k false) h0 h2 i a b
  have hn := nowL_length ls f t (fun i => shiftS (ls.getD i.toNat []) k false) h0 h1 h2
  have ft : fits 40 1300 (nowL ls f t (fun i => shiftS (ls.getD i.toNat []) k false)) := nowL_fits hf f t _ h0 h1 h2 (by omega) (fun i _ _ => by
    have := shiftS_len (ls.getD i.toNat []) k (by omega) k2
    have := fits_getD hf i.toNat
    omega)
  have n1 := cutLs_length ls f t h0 h1 h2
  have n2 := eachL_length f t (fun i => shiftS (ls.getD i.toNat []) k false)
  have n3 := cutLs_length (nowL ls f t (fun i => shiftS (ls.getD i.toNat []) k false)) f t h0 h1 (by omega)
  refine ⟨_, _, _, cutL (nowL ls f t (fun i => shiftS (ls.getD i.toNat []) k false)) f.toNat (t + 1).toNat, ?_, apply1_of ap, ?_, apply1_of (nowL_undo ls f t _ h0 h1 h2), ft, by omega, by omega, by omega, hn⟩
  · unfold shift
    rw [hk, if_neg (by simp only [Bool.or_eq_true, decide_eq_true_eq]; omega)]
  · unfold shift
    rw [hk, if_neg (by simp only [Bool.or_eq_true, decide_eq_true_eq, hn]; omega)]
    have := eachL_back ls f t (fun i => shiftS ((nowL ls f t (fun i => shiftS (ls.getD i.toNat []) k false)).getD i.toNat []) k true) h0 h1 h2 (fun i a b => by
      simp only [hG i a b]
      exact shift_twice _ k)
    rw [this]

theorem firstC_range (s : List UInt8) : 0 ≤ firstC s ∧ firstC s ≤ max ((s.length : Int) - 1) 0 := by
  unfold firstC
  have := tw_le s
  split <;> omega
theorem clamp_first (ls : Ls) (l : Int) (h0 : 0 ≤ l) (h1 : l < ls.length) : clampP ls (firstP ls l) false = (l, firstC (ls.getD l.toNat [])) := by
  have e : firstP ls l = (l, firstC (ls.getD l.toNat [])) := by
    unfold firstP
    rw [show min l ((ls.length : Int) - 1) = l by omega]
  rw [e]
  obtain ⟨a, b⟩ := firstC_range (ls.getD l.toNat [])
  unfold clampP
  rw [if_neg (by omega)]
  simp only [Bool.false_eq_true, if_false]
  rw [show min (max l 0) ((ls.length : Int) - 1) = l by omega]
  congr 1
  omega

theorem does_shift (ls : Ls) (r : Rg) (k : Int) (left : Bool) : doesF ls (if left = true then [60] else [62]) r k = shift ls r.2.1 r.2.2.2.1 k left := by
  unfold doesF
  cases left
  · rw [if_neg (by decide), if_neg (by decide), if_pos (by decide)]; rfl
  · rw [if_neg (by decide), if_neg (by decide), if_pos (by decide)]; rfl
theorem do_shift {ls now : Ls} {r : Rg} {k : Int} {left : Bool} {x : Ch} (hv : valid ls r = true) (e : shift ls r.2.1 r.2.2.2.1 k left = (x, true)) (e2 : apply1 ls x = (now, true)) (hn : now.length = ls.length) :
    doesF ls (if left = true then [60] else [62]) r k = (x, true) ∧ doF ls (if left = true then [60] else [62]) r k = (x, (r.2.1, firstC (now.getD r.2.1.toNat [])), true) := by
  obtain ⟨v1, v2, v3⟩ := valid_line hv
  have d := does_shift ls r k left
  rw [e] at d
  refine ⟨d, ?_⟩
  unfold doF
  rw [d, if_pos (by simp [hv])]
  simp only [e2]
  have p : doPos ls (if left = true then [60] else [62]) r now = firstP now r.2.1 := by
    unfold doPos
    rw [if_pos (by cases left <;> decide)]
  have c : ((if left = true then [60] else [62] : List UInt8) == [99]) = false := by cases left <;> decide
  rw [p, c, clamp_first now r.2.1 v1 (by omega)]
end Go.Pg
namespace Go.Pg
open Go Go.Proofs

set_option maxRecDepth 20000 in
set_option maxHeartbeats 4000000 in
theorem calls_OpsShifts (ls : Ls) (a b c d n : Int) (hs : ∀ i, (ls.getD i []).length ≤ 140737488355328) (ha : 0 ≤ a ∧ a < 65536) (hb : 0 ≤ b ∧ b < 65536) (hc : 0 ≤ c ∧ c < 65536) (hd : 0 ≤ d ∧ d < 65536) (hn : 0 ≤ n ∧ n < 256) :
    CallsR Try.prog 4 [.sl 1 (ls.map .str), .int .u16 a, .int .u16 b, .int .u16 c, .int .u16 d, .int .u8 n] [] (.bool true) [] := by
  refine callsR_of (mrg := true) (dyn := []) (CtrOK.cons ok_oknown (CtrOK.cons ok_Text (CtrOK.cons ok_SRange (CtrOK.cons ok_Do (CtrOK.cons ok_Apply (CtrOK.cons ok_Strings (CtrOK.cons ok_RFirst (CtrOK.nil _)))))))) mixed Try.func4 rfl (by simp [Try.ntmps4]) (by kernel_rfl) ?_
  rw [show Try.f4.results.toList = [.tmp 12] from by kernel_rfl]
  cases ht : Pg.text ls with
  | false =>
    simp (maxSteps := 4000000) only [↓wpA_H, ↓wpH_skip, ↓wpH_ret, ↓wpH_seq, ↓wpH_cond, ↓wpH_region, ↓iselH_true, ↓iselH_false, bselH_false, runH_nil, runH_cons, gw, gselH_plain, cselH_bool, ↓chk, justK, ↓oneK, ↓pureK, envOf, ↓thenA_normal, ↓thenA_ret, ↓stepEv, opnd, Pg.look, Bool.not_false, Bool.not_true, Bool.false_eq_true, false_implies, implies_true, imp_self, true_and, and_true, valV, heapV, footV, ofV, ofLeaf, retA, resK, tupA, subA, subQ, ptrsE, frzO, subF, subG, pickOf, frzE, frzC, frz0, frzH, Pg.freeze, List.foldl_nil, subOs, subEv, subV_succ, subM, ↓callT, callC, callV, callH, normArgs, normA, normC, resL, res8_eq, res_succ, resM, shiftR, shift1, reduceCtorEq, Nat.reduceEqDiff, Nat.reduceAdd, List.nil_append, List.append_nil, List.length_nil, List.map_cons, List.map_nil, Nat.zero_add, ite_true, ite_false, Prod.mk.injEq, and_self, pickOK_nil, cSl_dec, lNil_dec, lOne_dec, List.contains_nil, List.range'_zero, decL_str, C1by_ns, C1by_pre, C1by_r, C1by_H, optP_some, optV_some, optH_some, kOKnown, kText, ht]
    exact hs
  | true =>
    have hft := fits_text ht
    obtain ⟨hl0, hl1, hl2⟩ := few_of_text ht
    have hsm : small ls := fits_small hft (by omega) (by omega)
    have hfw : few ls := ⟨by omega, fun i => by have := hl2 i; omega⟩
    have hv := srange_valid ls 1 a b c d hl0 hc.1 hd.1
    generalize hr : srange ls 1 a b c d = r at hv
    have hv' := hv
    obtain ⟨v1, v2, v3⟩ := valid_line hv
    have hm : n.tmod 3 = n % 3 := Int.tmod_eq_emod_of_nonneg hn.1
    have w1 : IntKind.i64.wrap (n.tmod 3) = n.tmod 3 := wrap64 (by omega) (by omega)
    have w2 : IntKind.i64.wrap (n.tmod 3 + 1) = n.tmod 3 + 1 := wrap64 (by omega) (by omega)
    obtain ⟨O, N, now, M, e1, e2, e3, e4, e5, e6, e7, e8, e9⟩ := shift_fro ls r.2.1 r.2.2.2.1 (n.tmod 3 + 1) hft v1 v2 v3 (by omega) (by omega)
    have hvn : r.1 = 1 → valid now r = true := fun h => by
      simp only [valid, e9, h]
      simp only [valid, h] at hv'
      exact hv'
    have hr1 : r.1 = 1 := by rw [← hr]; rfl
    obtain ⟨f1, g1⟩ := do_shift (left := false) hv e1 e2 e9
    obtain ⟨f2, g2⟩ := do_shift (left := true) (hvn hr1) e3 e4 e9.symm
    rw [if_neg (by decide)] at f1 g1
    rw [if_pos rfl] at f2 g2
    have ap1 : applyL ls [(r.2.1, O, N)] = (now, true) := by rw [applyL1, e2]; rfl
    have ap2 : applyL now [(r.2.1, M, O)] = (ls, true) := by rw [applyL1, e4]; rfl
    obtain ⟨k, p1, p2, q1, q2⟩ := r
    simp only at v1 v2 v3 e1 e2 e3 e4 f1 g1 f2 g2 ap1 ap2
    have smn : small now := fits_small e5 (by omega) (by omega)
    have nf := fits_getD e5 p1.toNat
    have lf := fits_getD hft p1.toNat
    have m1 : ∀ x : Ch, x ∈ [(p1, O, N)] → x.2.1.length ≤ 1048576 ∧ x.2.2.length ≤ 1048576 := fun x hx => by
      obtain rfl := List.mem_singleton.1 hx
      exact ⟨by show O.length ≤ _; omega, by show N.length ≤ _; omega⟩
    have m2 : ∀ x : Ch, x ∈ [(p1, M, O)] → x.2.1.length ≤ 1048576 ∧ x.2.2.length ≤ 1048576 := fun x hx => by
      obtain rfl := List.mem_singleton.1 hx
      exact ⟨by show M.length ≤ _; omega, by show O.length ≤ _; omega⟩
    simp (maxSteps := 4000000) only [↓wpA_H, ↓wpH_skip, ↓wpH_ret, ↓wpH_seq, ↓wpH_cond, ↓wpH_region, ↓iselH_false, bselH_false, runH_nil, runH_cons, gw, gselH_plain, gselH_if, kselH_1, cselH_bool, gkind, ↓chk, justK, noW, ↓oneK, ↓pureK, ↓heapK, envOf, ↓thenA_normal, ↓stepEv, opnd, Pg.look, binK, intOp, cellsEq, leafEq, dstOf, Bool.not_false, Bool.not_true, Bool.false_eq_true, Bool.true_eq_false, false_implies, implies_true, true_and, and_true, forall_const, pickC, pickV, unc, gof, mux, mergeK, condsL, valV, heapV, footV, binV, intV, mergeable, look_stripE, ofV, ofLeaf, sameK, retA, resK, tupA, subA, subQ, ptrsE, frzO, subF, subG, pickOf, frzE, frzC, frz0, frzH, Pg.freeze, List.foldl_nil, List.foldl_cons, subOs, subEv, subV_succ, subM, ldCells, objAt, ↓callT, callC, callV, callH, normArgs, normA, normC, normL, normE, resL, res8_eq, res_succ, resM, shiftR, shift1, AV.cells, TK.cells, AV.definite, AV.leaf, AV.leafy, AV.pureLeaf, AV.pureB, putCells, lay, buildL, frzAt, Op.operands, Call.operands, Array.toList_append, List.getElem?_toArray, List.getElem?_cons_succ, List.getElem?_cons_zero, Option.bind_some, Option.getD_some, reduceCtorEq, Nat.reduceEqDiff, Nat.reduceAdd, List.nil_append, List.append_nil, List.cons_append, List.length_cons, List.length_nil, List.map_cons, List.map_nil, List.set_cons_zero, List.set_cons_succ, Nat.zero_add, ite_true, ite_false, Option.some.injEq, Option.isSome_some, AV.agg.injEq, Prod.mk.injEq, ne_eq, not_false_eq_true, List.all_cons, List.all_nil, Bool.and_self, and_self, exists_eq_left', pickOK_nil, List.length_map, cInt_dec, List.toList_toArray, rg1, Int.reduceLE, Int.reduceLT, cStr_dec, cSl_dec, cAgg_dec, lNil_dec, lOne_dec, lCons_dec, dec2_some, List.contains_nil, beq_self_eq_true, decL_nil, decL_cons, consO_some, List.range'_zero, Nat.reducePow, decL_str, C1by_ns, C1by_pre, C1by_r, C1by_H, optP_some, optV_some, optH_some, getD_str, List.getD_cons_zero, cutL, List.drop_zero, List.drop_succ_cons, List.take_succ_cons, List.take_zero, Nat.add_zero, Nat.sub_zero, Nat.reduceLeDiff, Nat.le_refl, Nat.one_mul, List.drop_nil, List.take_nil, Nat.zero_lt_succ, tk3, tk5, tk9, dz9, tk22, tk27, tz27, dz27, eq27, tk29, tz29, dz29, tk35, tz35, dz35, eb35, tk40, kOKnown, kText, kSRange, kDo, kApply, kStrings, kFirst, ht, hr, aRg, aCh, aPos, w1, w2, f1, g1, f2, g2, ap1, ap2]
    refine ⟨hs, ⟨hl0, hfw, ha, hb, hc, hd⟩, by decide, ⟨hsm, by omega, fun _ => ⟨by rw [e2], by rw [e2]; exact smn, by omega, by omega⟩⟩, ⟨by omega, m1⟩, ⟨v1, by omega⟩, by omega, ⟨smn, by omega, fun _ => ⟨by rw [e4], by rw [e4]; exact hsm, by omega, by omega⟩⟩, ⟨by omega, m2⟩, by omega, ⟨v1, by omega⟩, by omega⟩
end Go.Pg
