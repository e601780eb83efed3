/- Lines are joined as the document says, from any line, by any count, or not at all, and where the last one was put on. -/
import Derived.Test.YtefihnkbelhneaaDoorPgFs48
import Derived.Test.YtefihnkbelhneaaDoorPgFs23
namespace Go.Pg
open Go Go.Proofs

theorem foldl_len (ls : Ls) (l n : Int) : (join ls l n).1.2.1.length ≤ ls.length ∧ (join ls l n).1.2.2.length ≤ 1 := by
  unfold join
  split
  · simp
  · simp only [cutL, List.length_take, List.length_drop, List.length_cons, List.length_nil]; omega

set_option maxRecDepth 20000 in
set_option maxHeartbeats 4000000 in
theorem calls_EditJoins (ls : Ls) (l n : Int) (hs : ∀ i, (ls.getD i []).length ≤ 140737488355328) (hl : -9223372036854775808 ≤ l ∧ l ≤ 9223372036854775807) :
    CallsR Tryd.prog 4 [.sl 1 (ls.map .str), .int .i64 l, .int .i64 n] [] (.bool true) [] := by
  refine callsR_of (mrg := true) (dyn := []) (CtrOK.cons ok_eknown (CtrOK.cons ok_Text (CtrOK.cons ok_HPlace (CtrOK.cons ok_Join (CtrOK.cons ok_RJoin (CtrOK.cons ok_esame (CtrOK.nil _))))))) mixed Tryd.func4 rfl (by simp [Tryd.ntmps4]) (by kernel_rfl) ?_
  rw [show Tryd.f4.results.toList = [.tmp 6] from by kernel_rfl]
  cases ht : Pg.text ls with
  | false =>
    simp (maxSteps := 4000000) only [↓wpA_H, ↓wpH_skip, ↓wpH_ret, ↓wpH_seq, ↓wpH_cond, ↓wpH_region, ↓iselH_true, ↓iselH_false, bselH_false, runH_nil, runH_cons, gw, gselH_plain, cselH_bool, ↓chk, justK, ↓oneK, ↓pureK, envOf, ↓thenA_normal, ↓thenA_ret, ↓stepEv, opnd, Pg.look, Bool.not_false, Bool.not_true, Bool.false_eq_true, false_implies, implies_true, imp_self, true_and, and_true, valV, heapV, footV, ofV, ofLeaf, retA, resK, tupA, subA, subQ, ptrsE, frzO, subF, subG, pickOf, frzE, frzC, frz0, frzH, Pg.freeze, List.foldl_nil, subOs, subEv, subV_succ, subM, ↓callT, callC, callV, callH, normArgs, normA, normC, resL, res8_eq, res_succ, resM, shiftR, shift1, reduceCtorEq, Nat.reduceEqDiff, Nat.reduceAdd, List.nil_append, List.append_nil, List.length_nil, List.map_cons, List.map_nil, Nat.zero_add, ite_true, ite_false, Prod.mk.injEq, and_self, pickOK_nil, cSl_dec, lNil_dec, lOne_dec, List.contains_nil, List.range'_zero, decL_str, C1by_ns, C1by_pre, C1by_r, C1by_H, optP_some, optV_some, optH_some, kEKnown, kText, ht]
    exact hs
  | true =>
    have hft := fits_text ht
    obtain ⟨hl0, hl1, hl2⟩ := few_of_text ht
    have hfw : few ls := ⟨by omega, fun i => by have := hl2 i; omega⟩
    have m1 := Int.emod_nonneg l (b := ls.length) (by omega)
    have m2 := Int.emod_lt_of_pos l (b := ls.length) (by omega)
    obtain ⟨p, hp⟩ : ∃ p, l % (ls.length : Int) = p := ⟨_, rfl⟩
    rw [hp] at m1 m2
    simp (maxSteps := 4000000) only [↓wpA_H, ↓wpH_skip, ↓wpH_seq, ↓wpH_cond, ↓wpH_block, ↓wpH_loop, ↓wpH_region, ↓iselH_false, bselH_false, runH_nil, runH_cons, gw, gselH_plain, cselH_bool, ↓chk, justK, noW, ↓oneK, ↓pureK, ↓heapK, envOf, ↓thenA_normal, ↓stepEv, opnd, Pg.look, Bool.not_true, Bool.false_eq_true, false_implies, implies_true, imp_self, true_and, and_true, valV, heapV, footV, ofV, ofLeaf, Pg.freeze, List.foldl_nil, slen, ↓callT, callC, callV, callH, normArgs, normA, normC, resL, res8_eq, res_succ, resM, shiftR, shift1, AV.cells, AV.definite, Option.getD_some, reduceCtorEq, Nat.reduceEqDiff, Nat.reduceAdd, List.nil_append, List.append_nil, List.length_cons, List.length_nil, List.map_cons, List.map_nil, Nat.zero_add, ite_true, ite_false, Option.some.injEq, Option.isSome_some, AV.int.injEq, Prod.mk.injEq, List.all_cons, List.all_nil, Bool.and_self, and_self, exists_eq_left', List.length_map, cInt_dec, rg2, cSl_dec, lNil_dec, lOne_dec, lCons_dec, dec2_some, List.contains_nil, beq_self_eq_true, Int.cast_ofNat_Int, List.range'_zero, Nat.reducePow, decL_str, C1by_ns, C1by_pre, C1by_r, C1by_H, optP_some, optV_some, optH_some, Nat.reduceLeDiff, Nat.mul_one, eb3, tk22, tk35, kEKnown, kText, kHPlace, ht, hp]
    obtain ⟨L, eL⟩ : ∃ L : List Int, L = [l, p] := ⟨_, rfl⟩
    have n2 : L.length = 2 := by rw [eL]; rfl
    obtain ⟨K, eK⟩ : ∃ K : List Int, K = [n, n.tmod 6, 2] := ⟨_, rfl⟩
    have n3 : K.length = 3 := by rw [eK]; rfl
    have hLb : ∀ i, -9223372036854775808 ≤ L.getD i 0 ∧ L.getD i 0 ≤ 9223372036854775807 := fun i => by
      rw [eL]
      match i with
      | 0 => exact hl
      | 1 => show -9223372036854775808 ≤ p ∧ p ≤ 9223372036854775807; omega
      | i + 2 => simp
    refine ⟨hs, ⟨by omega, by omega, hl⟩, ?_⟩
    refine loopH_intro (α := Nat) (fun i => ([(0, .sl 1 (ls.map .str)), (2, .int .i64 n), (6, .bool false), (27, .own 0 1 2), (28, .int .i64 2), (29, .int .i64 i)], [.arr 3 1 (L.map aInt)])) (fun i => i ≤ 2) (fun i => 2 - i) 0 (by omega) ?_ ?_
    · simp (maxSteps := 4000000) only [Pg.look, true_and, and_true, subA, subQ, ptrsE, pairsO, frzO, subF, subG, pickOf, assocN, pairsE, pairsC, pairs0, frzE, frzC, frz0, frzH, Pg.freeze, List.foldl_nil, subOs, subO, subEv, subV_succ, subM, List.getElem?_cons_zero, reduceCtorEq, Nat.reduceEqDiff, List.nil_append, List.append_nil, ite_true, ite_false, and_self, pickOK_one, Int.cast_ofNat_Int, Nat.lt_irrefl]
      exact subX_eq (by rw [eL]; rfl) (pureB_ints _)
    intro i hi
    by_cases hi2 : i < 2
    · have hct : decide ((i : Int) < 2) = true := decide_eq_true (by omega)
      have hq0 := hLb i
      generalize hq : L.getD i 0 = q at hq0
      simp (maxSteps := 4000000) only [↓wpA_H, ↓wpH_skip, ↓wpH_seq, ↓wpH_cond, ↓wpH_block, ↓wpH_loop, ↓wpH_region, ↓iselH_true, bselH_false, runH_nil, runH_cons, gw, gselH_plain, cselH_bool, ↓chk, justK, noW, ↓oneK, ↓pureK, ↓heapK, ↓thenA_normal, ↓stepEv, opnd, Pg.look, binK, intOp, Bool.false_eq_true, implies_true, true_and, and_true, valV, heapV, footV, binV, intV, ofV, ofLeaf, slen, ldCells, objAt, AV.cells, TK.cells, AV.definite, List.getElem?_cons_zero, Option.getD_some, reduceCtorEq, Nat.reduceEqDiff, List.nil_append, List.cons_append, List.length_cons, List.length_nil, List.map_cons, List.map_nil, Nat.zero_add, ite_true, ite_false, Option.some.injEq, Option.isSome_some, AV.int.injEq, ne_eq, List.all_cons, List.all_nil, Bool.and_self, and_self, exists_eq_left', List.length_map, rg3, List.contains_nil, beq_self_eq_true, Int.cast_ofNat_Int, Nat.reducePow, Int.toNat_natCast, Nat.reduceLeDiff, Nat.mul_one, tk3, dz3, eb3, tk35, getD_int, n2, hct, hq]
      refine ⟨by omega, hi2, by decide, ?_⟩
      refine loopH_intro (α := Nat) (fun j => ([(0, .sl 1 (ls.map .str)), (2, .int .i64 n), (6, .bool false), (8, .int .i64 q), (27, .own 0 1 2), (28, .int .i64 2), (29, .int .i64 i), (36, .own 1 1 3), (37, .int .i64 3), (38, .int .i64 j)], [.arr 3 1 (L.map aInt), .arr 3 1 (K.map aInt)])) (fun j => j ≤ 3) (fun j => 3 - j) 0 (by omega) ?_ ?_
      · simp (maxSteps := 4000000) only [Pg.look, true_and, and_true, subA, subQ, ptrsE, pairsO, frzO, subF, subG, pickOf, assocN, pairsE, pairsC, pairs0, frzE, frzC, frz0, frzH, Pg.freeze, List.foldl_nil, subOs, subO, subEv, subV_succ, subM, List.getElem?_cons_succ, List.getElem?_cons_zero, reduceCtorEq, Nat.reduceEqDiff, List.nil_append, List.append_nil, List.cons_append, Nat.zero_add, ite_true, ite_false, and_self, Int.cast_ofNat_Int, Nat.lt_irrefl, Nat.not_lt_zero]
        exact ⟨rfl, subX_eq rfl (pureB_ints _), subX_eq (by rw [eK]; rfl) (pureB_ints _)⟩
      intro j hj
      by_cases hj2 : j < 3
      · have hct2 : decide ((j : Int) < 3) = true := decide_eq_true (by omega)
        have hjl := foldl_len ls q (K.getD j 0)
        simp (maxSteps := 4000000) only [↓wpA_H, ↓wpH_skip, ↓wpH_seq, ↓wpH_cond, ↓wpH_block, ↓wpH_region, ↓iselH_true, ↓iselH_false, bselH_false, runH_nil, runH_cons, gw, gselH_plain, gselH_if, kselH_1, cselH_bool, gkind, ↓chk, justK, noW, ↓oneK, ↓pureK, ↓heapK, ↓thenA_normal, ↓blockA_normal, ↓stepEv, opnd, Pg.look, binK, intOp, dstOf, Bool.not_false, Bool.not_true, Bool.false_eq_true, false_implies, implies_true, true_and, and_true, pickC, pickV, unc, gof, mux, mergeK, condsL, valV, heapV, footV, binV, intV, mergeable, look_stripE, ofV, ofLeaf, sameK, subA, subQ, ptrsE, pairsO, frzO, subF, subG, pickOf, assocN, pairsE, pairsC, pairs0, frzE, frzC, frz0, frzH, Pg.freeze, List.foldl_nil, subOs, subO, subEv, subV_succ, subM, ldCells, objAt, ↓callT, callC, callV, callH, normArgs, normA, normC, normL, resL, res8_eq, res_succ, resM, shiftR, shift1, AV.cells, TK.cells, AV.definite, AV.leaf, AV.leafy, putCells, lay, Op.operands, List.getElem?_toArray, List.getElem?_cons_succ, List.getElem?_cons_zero, Option.bind_some, Option.getD_some, reduceCtorEq, Nat.reduceEqDiff, Nat.reduceAdd, List.nil_append, List.append_nil, List.cons_append, List.length_cons, List.length_nil, List.map_cons, List.map_nil, List.set_cons_zero, List.set_cons_succ, Nat.zero_add, ite_true, ite_false, Option.some.injEq, Prod.mk.injEq, List.all_cons, List.all_nil, Bool.and_self, and_self, exists_eq_left', List.length_map, cInt_dec, cBool_dec, List.toList_toArray, cSl_dec, cAgg_dec, lOne_dec, lCons_dec, dec2_some, List.contains_nil, beq_self_eq_true, Int.cast_ofNat_Int, List.range'_zero, bne_self_eq_false, decL_str, C1by_ns, C1by_pre, C1by_r, C1by_H, optP_some, optV_some, optH_some, Int.toNat_natCast, List.getD_cons_zero, cutL, List.drop_zero, List.drop_succ_cons, List.take_succ_cons, List.take_zero, Nat.sub_zero, Nat.le_refl, Nat.lt_irrefl, List.drop_nil, List.take_nil, Nat.not_lt_zero, Nat.zero_lt_succ, tk3, dz3, tk31, tz31, dz31, tk35, kJoin, kESame, getD_int, aCh, n3, hct2]
        exact ⟨by omega, hj2, ⟨hfw, hq0⟩, ⟨hfw, hq0⟩, by omega, j + 1, by omega, by omega, rfl, ⟨subX_eq rfl (pureB_ints _), subX_eq rfl (pureB_ints _)⟩, by rw [wrap64 (by omega) (by omega)]; rfl⟩
      · have hcf2 : decide ((j : Int) < 3) = false := decide_eq_false (by omega)
        simp (maxSteps := 4000000) only [↓wpA_H, ↓wpH_ret, ↓wpH_exit, ↓wpH_seq, ↓wpH_cond, ↓wpH_region, ↓iselH_false, bselH_false, runH_nil, runH_cons, gw, gselH_plain, cselH_bool, ↓chk, justK, ↓oneK, ↓pureK, ↓thenA_normal, ↓thenA_exit, ↓blockA_normal, ↓blockA_exit, ↓stepEv, opnd, Pg.look, binK, intOp, Bool.false_eq_true, implies_true, true_and, and_true, valV, heapV, footV, binV, intV, ofV, ofLeaf, retA, resK, tupA, subA, subQ, ptrsE, pairsO, frzO, subF, subG, pickOf, assocN, pairsE, pairsC, pairs0, frzE, frzC, frz0, frzH, Pg.freeze, List.foldl_nil, subOs, subO, subEv, subV_succ, subM, List.getElem?_cons_zero, reduceCtorEq, Nat.reduceEqDiff, List.nil_append, List.append_nil, List.length_nil, ite_true, ite_false, and_self, pickOK_nil, pickOK_one, List.contains_nil, Nat.lt_irrefl, hcf2]
        exact ⟨i + 1, by omega, by omega, subX_eq rfl (pureB_ints _), by rw [wrap64 (by omega) (by omega)]; rfl⟩
    · have hcf : decide ((i : Int) < 2) = false := decide_eq_false (by omega)
      simp (maxSteps := 4000000) only [↓wpA_H, ↓wpH_ret, ↓wpH_exit, ↓wpH_seq, ↓wpH_cond, ↓wpH_region, ↓iselH_false, bselH_false, runH_nil, runH_cons, gw, gselH_plain, cselH_bool, ↓chk, justK, ↓oneK, ↓pureK, ↓thenA_normal, ↓thenA_exit, ↓blockA_exit, ↓stepEv, opnd, Pg.look, binK, intOp, Bool.false_eq_true, implies_true, valV, heapV, footV, binV, intV, ofV, ofLeaf, retA, resK, tupA, subA, subQ, ptrsE, frzO, subF, subG, pickOf, frzE, frzC, frz0, frzH, Pg.freeze, List.foldl_nil, subOs, subEv, subV_succ, subM, reduceCtorEq, Nat.reduceEqDiff, List.append_nil, List.length_nil, ite_true, ite_false, and_self, pickOK_nil, List.contains_nil, hcf]
end Go.Pg
