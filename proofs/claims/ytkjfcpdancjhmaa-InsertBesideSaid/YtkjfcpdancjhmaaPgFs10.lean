/- Keys are typed, one by one; the chapter's example. -/
import Derived.Test.YtkjfcpdancjhmaaPgFs6
import Derived.Test.YtkjfcpdancjhmaaPgFs8
import Derived.Test.YtkjfcpdancjhmaaPgFs9
namespace Go.Pg
open Go Go.Proofs

abbrev lPos : CdL (Int × Int) := lCons (cInt .i64) (lOne (cInt .i64))
abbrev lTyp : CdL (Ls × (Int × Int) × (Int × Int) × Int × UInt8) := lCons cStrs (lCons (cAgg lPos) (lCons (cAgg lPos) (lCons (cInt .i64) (lOne cByte))))
def aTyped (t : Typed) : AV := .tuple [aCh t.1, aPos t.2.1, .bool t.2.2]
def kTyp : C1 := C1.by [.sl 1 [], .id, .id, .id, .id] lTyp (fun d => small d.1) (fun d => aTyped (typ d.1 d.2.1 d.2.2.1 d.2.2.2.1 d.2.2.2.2)) (fun _ => [])
theorem ok_Type : C1OK Try.prog 18 kTyp := C1OK.by (by kernel_rfl) (fun d h => calls_Type d.1 d.2.1.1 d.2.1.2 d.2.2.1.1 d.2.2.1.2 d.2.2.2.1 d.2.2.2.2 h) (fun _ => rfl) (fun _ => rfl)
theorem ok_RType : C1OK Try.prog 19 kTyp := C1OK.by (by kernel_rfl) (fun d h => calls_RType d.1 d.2.1.1 d.2.1.2 d.2.2.1.1 d.2.2.1.2 d.2.2.2.1 d.2.2.2.2 h) (fun _ => rfl) (fun _ => rfl)

theorem known1 : typ [[97, 98]] (0, 1) (0, 1) 1 120 = ((0, [[97, 98]], [[97, 120, 98]]), (0, 2), true) := by decide
theorem known2 : typ [[97, 98]] (0, 1) (0, 1) 1 8 = nothing := by decide
theorem known3 : typ [[97, 98]] (0, 1) (0, 0) 2 13 = ((0, [[97, 98]], [[97], [98]]), (1, 0), true) := by decide
theorem known4 : net [97, 8, 98] = [98] := by decide

set_option maxRecDepth 20000 in
set_option maxHeartbeats 4000000 in
theorem calls_known : CallsR Try.prog 15 [] [] (.bool true) [] := by
  refine callsR_of (mrg := false) (dyn := []) (CtrOK.cons ok_Type (CtrOK.cons ok_Strings (CtrOK.cons ok_Net (CtrOK.nil _)))) mixed Try.func15 rfl (by simp [Try.ntmps15]) (by kernel_rfl) ?_
  rw [show Try.f15.results.toList = [.tmp 0] from by kernel_rfl]
  simp (maxSteps := 4000000) only [↓wpA_H, ↓wpH_ret, ↓wpH_seq, ↓wpH_region, ↓iselH_true, bselH_false, runH_nil, runH_cons, ↓fixG, setG, gw, gselH_plain, gselH_if, kselH_2, gkind, ↓chk, justK, noW, ↓oneK, ↓pureK, ↓heapK, envOf, ↓thenA_normal, ↓stepEv, opnd, Pg.look, binK, intOp, strOp, cellsEq, leafEq, dstOf, Bool.and_true, Bool.not_false, Bool.not_true, Bool.false_eq_true, Bool.true_eq_false, false_implies, implies_true, true_and, and_true, pickC, pickV, unc, gof, mux, valV, heapV, footV, binV, intV, strV, mergeable, ofV, ofLeaf, retA, resK, tupA, subA, subQ, ptrsE, frzO, subF, subG, pickOf, frzE, frzC, frz0, frzH, Pg.freeze, List.foldl_nil, List.foldl_cons, subOs, subEv, subV, slen, srcV, srcL, ldCells, objAt, ↓callT, callC, callV, callH, normArgs, normA, normC, resL, res, shiftR, shift1, AV.cells, TK.cells, AV.definite, AV.leaf, AV.leafy, AV.pureLeaf, AV.pureB, putCells, lay, buildL, frzAt, List.getElem?_toArray, List.getElem?_cons_succ, List.getElem?_cons_zero, Option.bind_some, Option.getD_some, reduceCtorEq, Nat.reduceEqDiff, Nat.reduceAdd, List.nil_append, List.append_nil, List.cons_append, List.length_cons, List.length_nil, List.map_cons, List.map_nil, List.set_cons_zero, List.set_cons_succ, Nat.zero_add, Int.reduceToNat, ite_true, ite_false, Option.some.injEq, Option.isSome_some, AV.int.injEq, AV.str.injEq, AV.agg.injEq, Prod.mk.injEq, List.all_cons, List.all_nil, Bool.and_self, and_self, exists_eq_left', pickOK_nil, cInt_dec, rg1, rg3, cByte_lit, Int.reduceLE, Int.reduceLT, UInt8.reduceOfNat, bytesOf_ofBytes, cStr_dec, cSl_dec, cAgg_dec, lOne_dec, lCons_dec, dec2_some, List.contains_nil, beq_self_eq_true, decL_nil, decL_cons, consO_some, Int.cast_ofNat_Int, List.range'_zero, Nat.reducePow, C1by_ns, C1by_pre, C1by_r, C1by_H, optP_some, optV_some, optH_some, List.getD_cons_zero, cutL, List.drop_zero, List.drop_succ_cons, List.take_succ_cons, List.take_zero, Nat.sub_zero, Nat.reduceLeDiff, Nat.le_refl, Nat.mul_one, List.drop_nil, List.take_nil, Nat.zero_lt_succ, tk3, tk5, eb5, tk9, eb9, tk22, tk24, tz24, dz24, eq24, tk31, tk33, tz33, dz33, kTyp, kStrings, kNet, aTyped, aCh, aPos, known1, known2, known3, known4, nothing]
  have hs : small [[97, 98]] := small_one _ (by decide)
  exact hs

def kKnown : C1 := C1.by [] lNil (fun _ => True) (fun _ => .bool true) (fun _ => [])
theorem ok_known : C1OK Try.prog 15 kKnown := C1OK.by (by kernel_rfl) (fun _ _ => calls_known) (fun _ => rfl) (fun _ => rfl)
end Go.Pg
