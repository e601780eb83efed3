/- Any motion by words leads where the document says. -/
import Derived.Test.YtnnhelhadcfbcaaPgFx5
namespace Go.Pg
open Go Go.Proofs

theorem getD_ints8 (k : IntKind) (l : List Int) (i : Nat) : (l.map (AV.int k)).getD i (.int k 0) = .int k (l.getD i 0) := getD_map (AV.int k) l i 0
theorem pureB_ints8 (k : IntKind) (l : List Int) : (l.map (AV.int k)).all AV.pureB = true := by simp [AV.pureB, AV.cells, AV.pureLeaf]
theorem fits8 {ls : Ls} (h : text ls = true) : fits 65536 65536 ls := by
  obtain ⟨h0, h1, h2⟩ := few_of_text h
  refine ⟨by omega, fun s hs => ?_⟩
  obtain ⟨i, hi, rfl⟩ := List.getElem_of_mem hs
  have := h2 i
  rw [List.getD_eq_getElem?_getD, List.getElem?_eq_getElem hi] at this
  have h3 : ls[i].length ≤ 1200 := this
  omega
theorem eq_self_bool (b : Bool) : (b == b) = true := by cases b <;> rfl

set_option maxRecDepth 40000 in
set_option maxHeartbeats 8000000 in
theorem calls_WordsMove (ls : Ls) (r1 r2 : Int) (a b : Int) (n : Int) (big flag : Bool) (hs : ∀ i, (ls.getD i []).length ≤ 140737488355328)
    (ha : 0 ≤ a ∧ a < 65536) (hb : 0 ≤ b ∧ b < 65536) (hn : -9223372036854775808 ≤ n ∧ n < 9223372036854775808) :
    CallsR Try.prog 7 [.sl 1 (ls.map .str), .agg [.int .i64 r1, .int .i64 r2], .int .u16 a, .int .u16 b, .int .i64 n, .bool big, .bool flag] [] (.bool true) [] := by
  refine callsR_of (mrg := true) (dyn := []) (CtrOK.cons ok_known8 (CtrOK.cons ok_Text (CtrOK.cons ok_SPlace (CtrOK.cons ok_Next (CtrOK.cons ok_RNext (CtrOK.cons ok_WBack (CtrOK.cons ok_RBack (CtrOK.cons ok_Tail (CtrOK.cons ok_RTail (CtrOK.cons ok_WBackTail (CtrOK.cons ok_RBackTail (CtrOK.cons ok_same8 (CtrOK.nil _))))))))))))) mixed Try.func7 rfl (by simp [Try.ntmps7]) (by kernel_rfl) ?_
  rw [show Try.f7.results.toList = [.tmp 14] from by kernel_rfl]
  cases ht : text ls with
  | false =>
    simp (maxSteps := 4000000) only [↓wpA_H, ↓wpH_skip, ↓wpH_ret, ↓wpH_seq, ↓wpH_cond, ↓wpH_region, ↓iselH_true, ↓iselH_false, bselH_false, runH_nil, runH_cons, gw, gselH_plain, cselH_bool, ↓chk, justK, noW, ↓oneK, ↓pureK, ↓heapK, envOf, ↓thenA_normal, ↓thenA_ret, ↓stepEv, opnd, Pg.look, Bool.not_false, Bool.not_true, Bool.false_eq_true, false_implies, implies_true, imp_self, true_and, and_true, valV, heapV, footV, ofV, ofLeaf, retA, resK, tupA, subA, subQ, ptrsE, frzO, subF, subG, pickOf, frzE, frzC, frz0, frzH, Pg.freeze, List.foldl_nil, subOs, subEv, subV_succ, subM, ↓callT, callC, callV, callH, normArgs, normA, normC, resL, res8_eq, res_succ, resM, shiftR, shift1, AV.cells, AV.definite, reduceCtorEq, Nat.reduceEqDiff, Nat.reduceAdd, List.nil_append, List.append_nil, List.cons_append, List.length_cons, List.length_nil, List.map_cons, List.map_nil, Nat.zero_add, ite_true, ite_false, Prod.mk.injEq, and_self, pickOK_nil, cSl_dec, lNil_dec, lOne_dec, List.contains_nil, List.range'_zero, decL_str, C1by_ns, C1by_pre, C1by_r, C1by_H, optP_some, optV_some, optH_some, C1by_it, kKnown8, kText, ht]
    exact hs
  | true =>
    have hft := fits8 ht
    obtain ⟨hl0, hl1, hl2⟩ := few_of_text ht
    have hsm : small ls := fits_small hft (by omega) (by omega)
    cases hpp : splace ls a b with | mk p1 p2
    simp (maxSteps := 4000000) only [↓wpA_H, ↓wpH_skip, ↓wpH_seq, ↓wpH_cond, ↓wpH_block, ↓wpH_loop, ↓wpH_region, ↓iselH_false, bselH_false, runH_nil, runH_cons, gw, gselH_plain, cselH_bool, ↓chk, justK, noW, ↓oneK, ↓pureK, ↓heapK, envOf, ↓thenA_normal, ↓stepEv, opnd, Pg.look, Bool.not_true, Bool.false_eq_true, false_implies, implies_true, imp_self, true_and, and_true, valV, heapV, footV, ofV, ofLeaf, Pg.freeze, List.foldl_nil, slen, ldCells, objAt, ↓callT, callC, callV, callH, normArgs, normA, normC, resL, res8_eq, res_succ, resM, shiftR, shift1, AV.cells, TK.cells, AV.definite, List.getElem?_cons_zero, Option.getD_some, reduceCtorEq, Nat.reduceEqDiff, Nat.reduceAdd, Nat.reduceMul, List.nil_append, List.append_nil, List.cons_append, List.length_cons, List.length_nil, List.map_cons, List.map_nil, Nat.zero_add, ite_true, ite_false, Option.some.injEq, Option.isSome_some, AV.int.injEq, Prod.mk.injEq, List.all_cons, List.all_nil, Bool.and_self, and_self, exists_eq_left', cInt_dec, rg2, cSl_dec, lNil_dec, lOne_dec, lCons_dec, dec2_some, List.contains_nil, beq_self_eq_true, Int.cast_ofNat_Int, List.range'_zero, Nat.reducePow, decL_str, C1by_ns, C1by_pre, C1by_r, C1by_H, optP_some, optV_some, optH_some, List.getD_cons_zero, cutL, List.drop_zero, List.take_succ_cons, Nat.sub_zero, Nat.reduceLeDiff, Nat.le_refl, List.take_nil, Nat.zero_lt_succ, C1by_it, tk25, tk36, dz36, eb36, kKnown8, kText, kSPlace, aPos, ht, hpp]
    obtain ⟨L1, e1⟩ : ∃ L : List (Int × Int), L = [(r1, r2), (p1, p2)] := ⟨_, rfl⟩
    obtain ⟨L2, e2⟩ : ∃ L : List Int, L = [n, n.tmod 9, 1] := ⟨_, rfl⟩
    have n1 : L1.length = 2 := by rw [e1]; rfl
    have n2 : L2.length = 3 := by rw [e2]; rfl
    have hL2 : ∀ j, L2.getD j 0 ≤ 9223372036854775807 := by
      intro j
      have := Int.tmod_lt_of_pos n (show (0 : Int) < 9 by omega)
      rw [e2]
      rcases j with _ | _ | _ | j
      · show n ≤ _; omega
      · show n.tmod 9 ≤ _; omega
      · show (1 : Int) ≤ _; omega
      · show (0 : Int) ≤ _; omega
    refine ⟨hs, ⟨hl0, hsm, ha, hb⟩, ?_⟩
    refine loopH_intro (α := Nat) (fun i => ([(0, .sl 1 (ls.map .str)), (4, .int .i64 n), (5, .bool big), (6, .bool flag), (33, .own 0 2 2), (34, .int .i64 2), (35, .int .i64 i)], [.arr 36 2 (L1.map aPos)])) (fun i => i ≤ 2) (fun i => 2 - i) 0 (by omega) ?_ ?_
    · simp (maxSteps := 4000000) only [Pg.look, true_and, and_true, subA, subQ, ptrsE, pairsO, frzO, subF, subG, pickOf, assocN, pairsE, pairsC, pairs0, frzE, frzC, frz0, frzH, Pg.freeze, List.foldl_nil, subOs, subO, subEv, subV_succ, subM, List.getElem?_cons_succ, List.getElem?_cons_zero, reduceCtorEq, Nat.reduceEqDiff, List.nil_append, List.append_nil, ite_true, ite_false, and_self, pickOK_one, Int.cast_ofNat_Int, Nat.lt_irrefl]
      exact subX_eq (by rw [e1]; rfl) (pureB_posL _)
    intro i hi
    by_cases h1 : i < 2
    · have hct : decide ((i : Int) < 2) = true := decide_eq_true (by omega)
      simp (maxSteps := 4000000) only [↓wpA_H, ↓wpH_skip, ↓wpH_seq, ↓wpH_cond, ↓wpH_block, ↓wpH_loop, ↓wpH_region, ↓iselH_true, bselH_false, runH_nil, runH_cons, gw, gselH_plain, cselH_bool, ↓chk, justK, noW, ↓oneK, ↓pureK, ↓heapK, ↓thenA_normal, ↓stepEv, opnd, Pg.look, binK, intOp, Bool.false_eq_true, implies_true, true_and, and_true, valV, heapV, footV, binV, intV, ofV, ofLeaf, slen, ldCells, objAt, AV.cells, TK.cells, AV.definite, AV.leaf, AV.leafy, putCells, lay, List.getElem?_cons_succ, List.getElem?_cons_zero, Option.getD_some, reduceCtorEq, Nat.reduceEqDiff, Nat.reduceAdd, List.nil_append, List.append_nil, List.cons_append, List.length_cons, List.length_nil, List.map_cons, List.map_nil, List.set_cons_zero, List.set_cons_succ, Nat.zero_add, ite_true, ite_false, Option.some.injEq, Option.isSome_some, AV.int.injEq, ne_eq, List.all_cons, List.all_nil, Bool.and_self, and_self, exists_eq_left', List.length_map, rg3, List.contains_nil, beq_self_eq_true, Int.cast_ofNat_Int, Nat.reducePow, Int.toNat_natCast, List.getD_cons_zero, cutL, List.drop_zero, List.drop_succ_cons, List.take_succ_cons, List.take_zero, Nat.sub_zero, Nat.reduceLeDiff, Nat.le_refl, Nat.mul_one, List.drop_nil, List.take_nil, Nat.zero_lt_succ, eb3, tk25, tk36, tz36, dz36, tk46, kKnown8, kText, kSPlace, kNext, kTail, kBackS, kBackE, kSame8, aMove, aMv, aPos_def, getD_pos, n1, hct]
      refine ⟨by omega, h1, by decide, ?_⟩
      refine loopH_intro (α := Nat) (fun j => ([(0, .sl 1 (ls.map .str)), (4, .int .i64 n), (5, .bool big), (6, .bool flag), (33, .own 0 2 2), (34, .int .i64 2), (35, .int .i64 i), (16, .ptr 1 2 1 0 0), (42, .own 2 1 3), (43, .int .i64 3), (44, .int .i64 j)], [.arr 36 2 (L1.map aPos), .arr 36 2 [.agg [.int .i64 (L1.getD i (0, 0)).1, .int .i64 (L1.getD i (0, 0)).2]], .arr 3 1 (L2.map (.int .i64))])) (fun j => j ≤ 3) (fun j => 3 - j) 0 (by omega) ?_ ?_
      · simp (maxSteps := 4000000) only [Pg.look, true_and, and_true, subA, subQ, ptrsE, pairsO, frzO, subF, subG, pickOf, assocN, pairsE, pairsC, pairsL, pairs0, frzE, frzC, frzL, frz0, frzH, Pg.freeze, List.foldl_nil, subOs, subO, subEv, subV_succ, subM, List.getElem?_cons_succ, List.getElem?_cons_zero, reduceCtorEq, Nat.reduceEqDiff, Nat.reduceAdd, List.nil_append, List.append_nil, List.cons_append, Nat.zero_add, ite_true, ite_false, and_self, Int.cast_ofNat_Int, Nat.lt_irrefl, Nat.not_lt_zero]
        exact ⟨by decide, subX_eq rfl (pureB_posL _), subX_eq rfl rfl, subX_eq (by rw [e2]; rfl) (pureB_ints8 _ _)⟩
      intro j hj
      have hm := hL2 j
      by_cases h2 : j < 3
      · have hct2 : decide ((j : Int) < 3) = true := decide_eq_true (by omega)
        simp (maxSteps := 4000000) only [↓wpA_H, ↓wpH_skip, ↓wpH_seq, ↓wpH_cond, ↓wpH_block, ↓wpH_region, ↓iselH_true, ↓iselH_false, bselH_false, runH_nil, runH_cons, gw, gselH_plain, cselH_bool, ↓chk, justK, noW, ↓oneK, ↓pureK, ↓heapK, ↓thenA_normal, ↓blockA_normal, ↓stepEv, opnd, Pg.look, binK, intOp, Bool.not_true, Bool.false_eq_true, false_implies, implies_true, true_and, and_true, valV, heapV, footV, binV, intV, ofV, ofLeaf, subA, subQ, ptrsE, pairsO, frzO, subF, subG, pickOf, assocN, pairsE, pairsC, pairsL, pairs0, frzE, frzC, frzL, frz0, frzH, Pg.freeze, List.foldl_nil, subOs, subO, subEv, subV_succ, subM, ldCells, objAt, ↓callT, callC, callV, callH, normArgs, normA, normC, resL, res8_eq, res_succ, resM, shiftR, shift1, AV.cells, TK.cells, AV.definite, AV.leaf, AV.leafy, putCells, lay, List.getElem?_cons_succ, List.getElem?_cons_zero, Option.getD_some, reduceCtorEq, Nat.reduceEqDiff, Nat.reduceAdd, List.nil_append, List.append_nil, List.cons_append, List.length_cons, List.length_nil, List.map_cons, List.map_nil, List.set_cons_zero, List.set_cons_succ, Nat.zero_add, ite_true, ite_false, Option.some.injEq, Prod.mk.injEq, List.all_cons, List.all_nil, Bool.and_self, and_self, exists_eq_left', List.length_map, cInt_dec, cBool_dec, cSl_dec, cAgg_dec, lOne_dec, lCons_dec, dec2_some, List.contains_nil, beq_self_eq_true, Int.cast_ofNat_Int, List.range'_zero, decL_str, C1by_ns, C1by_pre, C1by_r, C1by_H, optP_some, optV_some, optH_some, Int.toNat_natCast, List.getD_cons_zero, cutL, List.drop_zero, List.drop_succ_cons, List.take_succ_cons, List.take_zero, Nat.sub_zero, Nat.le_refl, Nat.lt_irrefl, List.drop_nil, List.take_nil, Nat.not_lt_zero, Nat.zero_lt_succ, C1by_it, tk3, dz3, tk36, dz36, tk39, tz39, dz39, tk46, kKnown8, kText, kSPlace, kNext, kTail, kBackS, kBackE, kSame8, mvEq_self, aMove, aMv, aPos_def, getD_ints8, n2, hct2]
        exact ⟨⟨by omega, by omega⟩, h2, ⟨hft, hm⟩, ⟨hft, hm⟩, hft, hft, ⟨hft, hm⟩, ⟨hft, hm⟩, hft, hft, j + 1, by omega, by omega, by decide, ⟨subX_eq rfl (pureB_posL _), subX_eq rfl rfl, subX_eq rfl (pureB_ints8 _ _)⟩, by rw [wrap64 (by omega) (by omega)]; rfl⟩
      · have hcf2 : decide ((j : Int) < 3) = false := decide_eq_false (by omega)
        simp (maxSteps := 4000000) only [↓wpA_H, ↓wpH_ret, ↓wpH_exit, ↓wpH_seq, ↓wpH_cond, ↓wpH_region, ↓iselH_false, bselH_false, runH_nil, runH_cons, gw, gselH_plain, cselH_bool, ↓chk, justK, ↓oneK, ↓pureK, ↓thenA_normal, ↓thenA_exit, ↓blockA_normal, ↓blockA_exit, ↓stepEv, opnd, Pg.look, binK, intOp, Bool.false_eq_true, implies_true, true_and, and_true, valV, heapV, footV, binV, intV, ofV, ofLeaf, retA, resK, tupA, subA, subQ, ptrsE, pairsO, frzO, subF, subG, pickOf, assocN, pairsE, pairsC, pairs0, frzE, frzC, frz0, frzH, Pg.freeze, List.foldl_nil, subOs, subO, subEv, subV_succ, subM, List.getElem?_cons_zero, reduceCtorEq, Nat.reduceEqDiff, List.nil_append, List.append_nil, List.length_nil, ite_true, ite_false, and_self, pickOK_nil, pickOK_one, List.contains_nil, Nat.lt_irrefl, kKnown8, kText, kSPlace, kNext, kTail, kBackS, kBackE, kSame8, aMove, aMv, aPos_def, hcf2]
        exact ⟨i + 1, by omega, by omega, subX_eq rfl (pureB_posL _), by rw [wrap64 (by omega) (by omega)]; rfl⟩
    · have hcf : decide ((i : Int) < 2) = false := decide_eq_false (by omega)
      simp (maxSteps := 4000000) only [↓wpA_H, ↓wpH_ret, ↓wpH_exit, ↓wpH_seq, ↓wpH_cond, ↓wpH_region, ↓iselH_false, bselH_false, runH_nil, runH_cons, gw, gselH_plain, cselH_bool, ↓chk, justK, ↓oneK, ↓pureK, ↓thenA_normal, ↓thenA_exit, ↓blockA_exit, ↓stepEv, opnd, Pg.look, binK, intOp, Bool.false_eq_true, implies_true, valV, heapV, footV, binV, intV, ofV, ofLeaf, retA, resK, tupA, subA, subQ, ptrsE, frzO, subF, subG, pickOf, frzE, frzC, frz0, frzH, Pg.freeze, List.foldl_nil, subOs, subEv, subV_succ, subM, reduceCtorEq, Nat.reduceEqDiff, List.append_nil, List.length_nil, ite_true, ite_false, and_self, pickOK_nil, List.contains_nil, kKnown8, kText, kSPlace, kNext, kTail, kBackS, kBackE, kSame8, aMove, aMv, aPos_def, hcf]
end Go.Pg
