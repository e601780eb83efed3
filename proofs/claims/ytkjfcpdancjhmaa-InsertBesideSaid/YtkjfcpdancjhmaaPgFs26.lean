/- A text comes into any lines at any column as the document says, or not at all. -/
import Derived.Test.YtkjfcpdancjhmaaPgFs25
namespace Go.Pg
open Go Go.Proofs

theorem rl3 : List.range 3 = [0, 1, 2] := by decide

def a3 (p : Int × Int × Int) : AV := .agg [.int .i64 p.1, .int .i64 p.2.1, .int .i64 p.2.2]
theorem getD_a3 (l : List (Int × Int × Int)) (i : Nat) : (l.map a3).getD i (.agg [.int .i64 0, .int .i64 0, .int .i64 0]) = a3 (l.getD i (0, 0, 0)) := getD_map a3 l i (0, 0, 0)
theorem pureB_a3 (l : List (Int × Int × Int)) : (l.map a3).all AV.pureB = true := by simp [a3, AV.pureB, AV.cells, AV.pureLeaf]

theorem beside_len (ls : Ls) (a b col : Int) (x : List UInt8) (fill : Bool) : (beside ls a b col x fill).1.2.1.length ≤ ls.length ∧ (beside ls a b col x fill).1.2.2.length ≤ ls.length := by
  unfold beside
  split
  · exact ⟨by simp, by simp⟩
  · simp only [cutL, List.length_map, List.length_take, List.length_drop]; omega

theorem size_pos : ∀ (ls : Ls), 0 ≤ size ls ∧ (0 < ls.length → 0 < size ls)
  | [] => ⟨by simp [size], by simp⟩
  | s :: ls => by
    have := size_pos ls
    have h : size (s :: ls) = s.length + 1 + size ls := by simp [size]
    rw [h]
    omega

set_option maxRecDepth 20000 in
set_option maxHeartbeats 4000000 in
theorem calls_InsertBeside (ls : Ls) (a b col : Int) (x : List UInt8) (fill : Bool) (hs : ∀ i, (ls.getD i []).length ≤ 140737488355328) (hx : x.length ≤ 140737488351232)
    (ha : -9223372036854775808 ≤ a ∧ a ≤ 9223372036854775807) (hb : -9223372036854775808 ≤ b ∧ b ≤ 9223372036854775807) :
    CallsR Try.prog 14 [.sl 1 (ls.map .str), .int .i64 a, .int .i64 b, .int .i64 col, .str x, .bool fill] [] (.bool true) [] := by
  refine callsR_of (mrg := true) (dyn := []) (CtrOK.cons ok_known (CtrOK.cons ok_Text (CtrOK.cons ok_HPlace (CtrOK.cons ok_Beside (CtrOK.cons ok_RBeside (CtrOK.cons ok_Change (CtrOK.cons ok_RSize (CtrOK.nil _)))))))) mixed Try.func14 rfl (by simp [Try.ntmps14]) (by kernel_rfl) ?_
  rw [show Try.f14.results.toList = [.tmp 12] from by kernel_rfl]
  cases ht : text ls with
  | false =>
    simp (maxSteps := 4000000) only [↓wpA_H, ↓wpH_skip, ↓wpH_ret, ↓wpH_seq, ↓wpH_cond, ↓wpH_region, ↓iselH_true, ↓iselH_false, bselH_false, runH_nil, runH_cons, gw, gselH_plain, gselH_if, kselH_1, cselH_bool, gkind, ↓chk, justK, ↓oneK, ↓pureK, envOf, ↓thenA_normal, ↓thenA_ret, ↓stepEv, opnd, Pg.look, binK, intOp, dstOf, Bool.not_false, Bool.not_true, Bool.false_eq_true, Bool.true_eq_false, false_implies, implies_true, imp_self, true_and, and_true, pickC, pickV, unc, gof, mux, mergeK, condsL, valV, heapV, footV, binV, intV, mergeable, look_stripE, ofV, ofLeaf, sameK, retA, resK, tupA, subA, subQ, ptrsE, frzO, subF, subG, pickOf, frzE, frzC, frz0, frzH, Pg.freeze, List.foldl_nil, subOs, subEv, subV, objAt, ↓callT, callC, callV, callH, normArgs, normA, normC, resL, res, shiftR, shift1, Op.operands, Call.operands, Array.toList_append, List.getElem?_toArray, List.getElem?_cons_succ, List.getElem?_cons_zero, List.getElem?_nil, Option.bind_some, reduceCtorEq, Nat.reduceEqDiff, Nat.reduceAdd, List.nil_append, List.append_nil, List.length_nil, List.map_cons, List.map_nil, Nat.zero_add, ite_true, ite_false, Prod.mk.injEq, Bool.and_self, and_self, pickOK_nil, List.toList_toArray, cSl_dec, lNil_dec, lOne_dec, List.contains_nil, List.range'_zero, decL_str, C1by_ns, C1by_pre, C1by_r, C1by_H, optP_some, optV_some, optH_some, tk9, kKnown, kText, ht]
    exact hs
  | true =>
    have hft := fits_text ht
    obtain ⟨hl0, hl1, hl2⟩ := few_of_text ht
    have hsm : small ls := fits_small hft (by omega) (by omega)
    simp (maxSteps := 4000000) only [↓wpA_H, ↓wpH_skip, ↓wpH_ret, ↓wpH_seq, ↓wpH_cond, ↓wpH_block, ↓wpH_loop, ↓wpH_region, ↓iselH_false, iselH_if, bselH_false, runH_nil, runH_cons, gw, gselH_plain, gselH_if, kselH_1, cselH_bool, gkind, ↓chk, justK, noW, ↓oneK, ↓pureK, ↓heapK, envOf, ↓thenA_normal, ↓thenA_ret, ↓stepEv, opnd, Pg.look, binK, intOp, dstOf, Bool.not_false, Bool.not_true, Bool.false_eq_true, false_implies, implies_true, true_and, and_true, pickC, pickV, unc, gof, mux, mergeK, condsL, valV, heapV, footV, binV, intV, mergeable, look_stripE, ofV, ofLeaf, sameK, retA, resK, tupA, subA, subQ, ptrsE, frzO, subF, subG, pickOf, frzE, frzC, frz0, frzH, Pg.freeze, List.foldl_nil, subOs, subEv, subV, slen, objAt, ↓callT, callC, callV, callH, normArgs, normA, normC, resL, res, shiftR, shift1, AV.cells, AV.definite, lay, buildL, arrPlaces, foldInts, Op.operands, Call.operands, Array.toList_append, List.getElem?_toArray, List.getElem?_cons_succ, List.getElem?_cons_zero, List.getElem?_nil, Option.bind_some, Option.getD_some, reduceCtorEq, Nat.reduceEqDiff, Nat.reduceAdd, Nat.reduceMul, List.nil_append, List.append_nil, List.cons_append, List.length_cons, List.length_nil, List.map_cons, List.map_nil, Nat.zero_add, ite_true, ite_false, Option.some.injEq, Option.isSome_some, AV.int.injEq, AV.agg.injEq, Prod.mk.injEq, decide_eq_true_eq, decide_eq_false_iff_not, Int.not_lt, ne_eq, List.all_cons, List.all_nil, Bool.and_self, and_self, exists_eq_left', pickOK_nil, List.length_map, cInt_dec, List.toList_toArray, cSl_dec, lNil_dec, lOne_dec, lCons_dec, dec2_some, List.contains_nil, beq_self_eq_true, Int.cast_ofNat_Int, List.range'_zero, Nat.reducePow, decL_str, C1by_ns, C1by_pre, C1by_r, C1by_H, optP_some, optV_some, optH_some, List.drop_zero, List.drop_succ_cons, List.take_succ_cons, List.take_zero, Nat.reduceLeDiff, Nat.le_refl, Nat.mul_one, List.drop_nil, tk9, tk22, tk69, tz69, eb69, tk70, kKnown, kText, kHPlace, kBeside, kChange, kRSize, aCh, ht, rl3]
    refine ⟨hs, fun h50 => ⟨by omega, by omega, by omega, by omega, ?_⟩⟩
    obtain ⟨L, eL⟩ : ∃ L : List (Int × Int × Int), L = [(a, b, col), (min (a % ls.length) (b % ls.length), max (a % ls.length) (b % ls.length), col.tmod 40), (a % ls.length, b % ls.length, col.tmod 5000)] := ⟨_, rfl⟩
    have n3 : L.length = 3 := by rw [eL]; rfl
    refine loopH_intro (α := Nat) (fun i => ([(0, .sl 1 (ls.map .str)), (4, .str x), (5, .bool fill), (12, .bool false), (57, .own 0 3 3), (58, .int .i64 3), (59, .int .i64 i)], [.arr 69 3 (L.map a3)])) (fun i => i ≤ 3) (fun i => 3 - i) 0 (by omega) ?_ ?_
    · simp (maxSteps := 4000000) only [Pg.look, true_and, and_true, subA, subQ, ptrsE, pairsO, frzO, subF, subG, pickOf, assocN, pairsE, pairsC, pairs0, frzE, frzC, frz0, frzH, Pg.freeze, List.foldl_nil, subOs, subO, subEv, subV, List.getElem?_cons_zero, reduceCtorEq, Nat.reduceEqDiff, List.nil_append, List.append_nil, ite_true, ite_false, and_self, pickOK_one, Int.cast_ofNat_Int, Nat.lt_irrefl]
      exact subX_eq (by rw [eL]; rfl) (by rw [eL]; rfl)
    intro i hi
    by_cases hi2 : i < 3
    · have hct : decide ((i : Int) < 3) = true := decide_eq_true (by omega)
      simp (maxSteps := 4000000) only [↓wpA_H, ↓wpH_skip, ↓wpH_seq, ↓wpH_cond, ↓wpH_block, ↓wpH_region, ↓iselH_true, ↓iselH_false, bselH_false, runH_nil, runH_cons, gw, gselH_plain, gselH_if, kselH_1, cselH_bool, gkind, ↓chk, justK, noW, ↓oneK, ↓pureK, ↓heapK, ↓thenA_normal, ↓blockA_normal, ↓stepEv, opnd, Pg.look, binK, intOp, dstOf, Bool.not_false, Bool.not_true, Bool.false_eq_true, false_implies, implies_true, true_and, and_true, forall_const, pickC, pickV, unc, gof, mux, mergeK, condsL, valV, heapV, footV, binV, intV, mergeable, look_stripE, ofV, ofLeaf, sameK, subA, subQ, ptrsE, pairsO, frzO, subF, subG, pickOf, assocN, pairsE, pairsC, pairs0, frzE, frzC, frz0, frzH, Pg.freeze, List.foldl_nil, subOs, subO, subEv, subV, ldCells, objAt, ↓callT, callC, callV, callH, normArgs, normA, normC, normL, resL, res, shiftR, shift1, AV.cells, TK.cells, AV.definite, AV.leaf, AV.leafy, putCells, lay, Op.operands, Call.operands, Array.toList_append, List.getElem?_toArray, List.getElem?_cons_succ, List.getElem?_cons_zero, Option.bind_some, Option.getD_some, reduceCtorEq, Nat.reduceEqDiff, Nat.reduceAdd, List.nil_append, List.append_nil, List.cons_append, List.length_cons, List.length_nil, List.map_cons, List.map_nil, List.set_cons_zero, List.set_cons_succ, Nat.zero_add, Int.reduceToNat, ite_true, ite_false, Option.some.injEq, Prod.mk.injEq, List.all_cons, List.all_nil, Bool.and_self, and_self, exists_eq_left', pickOK_one, List.length_map, cInt_dec, cBool_dec, List.toList_toArray, Int.reduceLE, Int.reduceLT, cStr_dec, cSl_dec, cAgg_dec, lOne_dec, lCons_dec, dec2_some, List.contains_nil, beq_self_eq_true, Int.cast_ofNat_Int, List.range'_zero, decL_str, C1by_ns, C1by_pre, C1by_r, C1by_H, optP_some, optV_some, optH_some, Int.toNat_natCast, List.getD_cons_zero, cutL, List.drop_zero, List.drop_succ_cons, List.take_succ_cons, List.take_zero, Nat.add_zero, Nat.sub_zero, Nat.le_refl, Nat.lt_irrefl, Nat.mul_one, List.drop_nil, List.take_nil, Nat.zero_lt_succ, tk3, tk4, tk33, tz33, dz33, tk69, tz69, dz69, tk70, kKnown, kText, kHPlace, kBeside, kChange, kRSize, aCh, getD_a3, a3, n3, hct]
      have hbl := beside_len ls (L.getD i (0, 0, 0)).1 (L.getD i (0, 0, 0)).2.1 (L.getD i (0, 0, 0)).2.2 x fill
      exact ⟨by omega, by omega, ⟨hsm, by omega⟩, ⟨hsm, by omega⟩, ⟨by omega, by omega, by omega, by omega⟩, i + 1, by omega, by omega, subX_eq rfl (pureB_a3 _), by rw [wrap64 (by omega) (by omega)]; rfl⟩
    · have hcf : decide ((i : Int) < 3) = false := decide_eq_false (by omega)
      have hz := (size_pos ls).2 hl0
      have hz2 : decide (size ls > 0) = true := decide_eq_true hz
      simp (maxSteps := 4000000) only [↓wpA_H, ↓wpH_ret, ↓wpH_exit, ↓wpH_seq, ↓wpH_cond, ↓wpH_region, ↓iselH_false, bselH_false, runH_nil, runH_cons, gw, gselH_plain, cselH_bool, ↓chk, justK, ↓oneK, ↓pureK, ↓thenA_normal, ↓thenA_exit, ↓blockA_exit, ↓stepEv, opnd, Pg.look, binK, intOp, Bool.false_eq_true, false_implies, implies_true, true_and, and_true, valV, heapV, footV, binV, intV, ofV, ofLeaf, retA, resK, tupA, subA, subQ, ptrsE, frzO, subF, subG, pickOf, frzE, frzC, frz0, frzH, Pg.freeze, List.foldl_nil, subOs, subEv, subV, objAt, ↓callT, callC, callV, callH, normArgs, normA, normC, resL, res, shiftR, shift1, reduceCtorEq, Nat.reduceEqDiff, List.nil_append, List.append_nil, List.cons_append, List.length_cons, List.length_nil, List.map_cons, List.map_nil, Nat.zero_add, ite_true, ite_false, Prod.mk.injEq, and_self, pickOK_nil, cSl_dec, lOne_dec, lCons_dec, List.contains_nil, List.range'_zero, decL_str, C1by_ns, C1by_pre, C1by_r, C1by_H, optP_some, optV_some, optH_some, kKnown, kText, kHPlace, kBeside, kChange, kRSize, aCh, ht, hcf, hz2]
      exact ⟨by omega, fun j => by have := hl2 j; omega⟩
end Go.Pg
