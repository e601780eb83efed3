/- Sorting of bytes: the heap. Sorting of bytes: heap sort; a row turned round. Sorting of bytes: the partitions. Sorting of bytes: what equals the pivot is set aside. Sorting of bytes: the pivot; is it sorted already? Bytes are sorted; the marks' names. -/
import Derived.Test.YtohpkjpipihdoaaPgFx2
import Derived.Test.YtohpkjpipihdoaaPgShf
import Derived.Test.YtohpkjpipihdoaaPgLib
namespace Go.Pg
open Go Go.Proofs

set_option maxRecDepth 20000 in
set_option maxHeartbeats 4000000 in
theorem calls_sift (l : List UInt8) (lo hi first : Nat) (hb : first + hi ≤ l.length) (hlo : lo ≤ 1000) (hl : l.length ≤ 1000) :
    CallsR Try.prog 80 [.own 0 1 l.length, .int .i64 lo, .int .i64 hi, .int .i64 first] [.arr 5 1 (ofBytes l)] (.tuple []) [.arr 5 1 (ofBytes (siftD hi first lo l))] := by
  refine callsR_of (mrg := true) (dyn := []) (CtrOK.cons ok_Less (CtrOK.nil _)) mixed Try.func80 rfl (by simp [Try.ntmps80]) (by kernel_rfl) ?_
  rw [show Try.f80.results.toList = [] from by kernel_rfl]
  simp (maxSteps := 4000000) only [↓wpA_H, ↓wpH_seq, ↓wpH_block, ↓wpH_loop, ↓wpH_region, bselH_false, runH_nil, runH_cons, gw, gselH_plain, ↓chk, justK, ↓oneK, ↓pureK, envOf, ↓thenA_normal, ↓stepEv, opnd, Pg.look, Bool.false_eq_true, implies_true, true_and, valV, heapV, footV, Nat.reduceAdd, reduceCtorEq, Nat.reduceEqDiff, Nat.reduceAdd, List.length_cons, List.length_nil, Nat.zero_add, ite_true, ite_false, and_self, List.contains_nil, regH_none, isNext, nextF, nextG, selC_false, kLess]
  refine loopH_intro (α := Nat × List UInt8) (fun x => ([(8, .int .i64 x.1), (0, .own 0 1 l.length), (2, .int .i64 hi), (3, .int .i64 first)], [.arr 5 1 (ofBytes x.2)])) (fun x => x.2.length = l.length ∧ x.1 ≤ 1000 ∧ siftD hi first x.1 x.2 = siftD hi first lo l) (fun x => hi - x.1) (lo, l) ⟨rfl, hlo, rfl⟩ ?_ ?_
  · simp (maxSteps := 4000000) only [Pg.look, true_and, and_true, alives, aliveO, nxtQ, hdS, pairsA, frzA, closeQ_nil, closeQ_succ, diagQ_zero, diagQ_succ, subA, subQ, ptrsE, pairsO, frzO, subF, subG, pickOf, assocN, pairsE, pairsC, pairs0, frzE, frzC, frz0, frzH, Pg.freeze, List.foldl_nil, subOs, subO, subEv, subV_succ, subM, List.getElem?_cons_zero, reduceCtorEq, Nat.reduceEqDiff, List.nil_append, List.append_nil, ite_true, ite_false, and_self, pureB_bytes, Nat.zero_lt_succ]
    exact ⟨by decide, subX_eq rfl (pureB_bytes _)⟩
  rintro ⟨r, m⟩ ⟨hm, hr, hS⟩
  have hm : m.length = l.length := hm
  have hr : r ≤ 1000 := hr
  have hS : siftD hi first r m = siftD hi first lo l := hS
  have wA : IntKind.i64.wrap (2 * (r : Int)) = ((2 * r : Nat) : Int) := by rw [wrap64 (by omega) (by omega)]; omega
  have wB : IntKind.i64.wrap (((2 * r : Nat) : Int) + 1) = ((2 * r + 1 : Nat) : Int) := by rw [wrap64 (by omega) (by omega)]; omega
  have wC : IntKind.i64.wrap (((2 * r + 1 : Nat) : Int) + 1) = ((2 * r + 1 + 1 : Nat) : Int) := by rw [wrap64 (by omega) (by omega)]; omega
  by_cases h1 : 2 * r + 1 < hi
  · have hc1 : decide (((2 * r + 1 : Nat) : Int) ≥ (hi : Int)) = false := decide_eq_false (by omega)
    have wD : IntKind.i64.wrap ((first : Int) + ((2 * r + 1 : Nat) : Int)) = ((first + (2 * r + 1) : Nat) : Int) := by rw [wrap64 (by omega) (by omega)]; omega
    have wE : IntKind.i64.wrap (((first + (2 * r + 1) : Nat) : Int) + 1) = ((first + (2 * r + 1) + 1 : Nat) : Int) := by rw [wrap64 (by omega) (by omega)]; omega
    have wF : IntKind.i64.wrap ((first : Int) + (r : Int)) = ((first + r : Nat) : Int) := by rw [wrap64 (by omega) (by omega)]; omega
    have hgo := siftD_go (first := first) (l := m) h1
    by_cases h2 : 2 * r + 1 + 1 < hi
    · have hc2 : decide (((2 * r + 1 + 1 : Nat) : Int) < (hi : Int)) = true := decide_eq_true (by omega)
      have wG : IntKind.i64.wrap ((first : Int) + ((2 * r + 1 + 1 : Nat) : Int)) = ((first + (2 * r + 1 + 1) : Nat) : Int) := by rw [wrap64 (by omega) (by omega)]; omega
      cases hL1 : ltB (m.getD (first + (2 * r + 1)) 0) (m.getD (first + (2 * r + 1) + 1) 0) with
      | true =>
        have hch : chD hi first r m = 2 * r + 1 + 1 := if_pos (by rw [hL1]; simp; omega)
        rw [hch] at hgo
        cases hL2 : ltB (m.getD (first + r) 0) (m.getD (first + (2 * r + 1 + 1)) 0) with
        | true =>
          rw [hL2, if_pos rfl] at hgo
          simp (maxSteps := 4000000) only [↓wpA_H, ↓wpH_skip, ↓wpH_seq, ↓wpH_cond, ↓wpH_block, ↓wpH_region, ↓iselH_true, ↓iselH_false, bselH_false, runH_nil, runH_cons, gw, gselH_plain, gselH_if, kselH_1, cselH_bool, gkind, ↓chk, justK, noW, ↓oneK, ↓pureK, ↓heapK, ↓thenA_normal, ↓blockA_normal, ↓stepEv, opnd, Pg.look, binK, intOp, dstOf, Bool.not_true, Bool.false_eq_true, Bool.true_eq_false, implies_true, true_and, and_true, forall_const, pickC, pickV, unc, gof, mux, mergeK, condsL, valV, heapV, footV, binV, intV, alives, aliveO, nxtQ, hdS, pairsA, frzA, closeQ_nil, closeQ_succ, diagQ_zero, diagQ_succ, mergeable, look_stripE, ofV, ofLeaf, sameK, subA, subQ, ptrsE, pairsO, frzO, subF, subG, pickOf, assocN, pairsE, pairsC, pairs0, frzE, frzC, frz0, frzH, Pg.freeze, List.foldl_nil, subOs, subO, subEv, subV_succ, subM, ldCells, objAt, ↓callT, callC, callV, callH, normArgs, normA, resL, res8_eq, res_succ, resM, shiftR, shift1, AV.cells, TK.cells, AV.leaf, AV.leafy, putCells, Op.operands, Call.operands, Array.toList_append, List.getElem?_toArray, List.getElem?_cons_succ, List.getElem?_cons_zero, Option.bind_some, Option.getD_some, reduceCtorEq, Nat.reduceEqDiff, List.nil_append, List.append_nil, List.cons_append, List.length_cons, List.length_nil, List.map_cons, List.map_nil, List.set_cons_zero, Nat.zero_add, ite_true, ite_false, Option.some.injEq, Option.isSome_none, List.all_cons, List.all_nil, Bool.and_self, and_self, exists_eq_left', List.toList_toArray, length_ofBytes, getD_ofBytes, set_ofBytes, cByte_dec, lOne_dec, lCons_dec, dec2_some, List.length_set, pureB_bytes, List.contains_nil, List.range'_zero, C1by_ns, C1by_pre, C1by_r, C1by_H, optP_some, optV_some, optH_some, Int.toNat_natCast, Nat.le_refl, Nat.zero_lt_succ, C1by_it, regH_none, isNext, nextF, nextG, selC_true, selC_false, pureC, ↓msel, muC, ↓callP, C1by_mu, tk5, dz5, tk32, kLess, hc1, hc2, wA, wB, wC, wD, wE, wF, wG, hL1, hL2]
          repeat (first | refine And.intro ⟨by omega, by omega⟩ ?_ | refine And.intro (by omega) ?_)
          exact ⟨(2 * r + 1 + 1, swpL m (first + r) (first + (2 * r + 1 + 1))), ⟨by rw [swpL_len]; exact hm, by omega, by rw [← hS, hgo]⟩, by omega, by decide, subX_eq rfl (pureB_bytes _), rfl⟩
        | false =>
          rw [hL2, if_neg (by simp)] at hgo
          simp (maxSteps := 4000000) only [↓wpA_H, ↓wpH_skip, ↓wpH_ret, ↓wpH_seq, ↓wpH_cond, ↓wpH_block, ↓wpH_region, ↓iselH_true, ↓iselH_false, bselH_false, runH_nil, runH_cons, gw, gselH_plain, gselH_if, kselH_1, cselH_bool, gkind, ↓chk, justK, noW, ↓oneK, ↓pureK, ↓heapK, ↓thenA_normal, ↓thenA_ret, ↓blockA_ret, ↓stepEv, opnd, Pg.look, binK, intOp, dstOf, Bool.not_false, Bool.not_true, Bool.false_eq_true, Bool.true_eq_false, implies_true, true_and, and_true, forall_const, pickC, pickV, unc, gof, mux, mergeK, condsL, valV, heapV, footV, binV, intV, alives, aliveO, nxtQ, hdS, pairsA, frzA, closeQ_nil, closeQ_succ, diagQ_zero, diagQ_succ, mergeable, look_stripE, ofV, ofLeaf, sameK, retA, resK, tupA, subA, subQ, ptrsE, pairsO, frzO, subF, subG, pickOf, assocN, pairsE, pairsC, pairsL, frzE, frzC, frzL, frzH, Pg.freeze, List.foldl_nil, subOs, subO, subEv, subV_succ, subM, subL, ldCells, objAt, ↓callT, callC, callV, callH, normArgs, normA, resL, res8_eq, res_succ, resM, shiftR, shift1, AV.cells, TK.cells, Op.operands, Call.operands, Array.toList_append, List.getElem?_toArray, List.getElem?_cons_succ, List.getElem?_cons_zero, Option.bind_some, Option.getD_some, reduceCtorEq, Nat.reduceEqDiff, List.nil_append, List.append_nil, List.cons_append, List.length_cons, List.length_nil, List.map_cons, List.map_nil, Nat.zero_add, ite_true, ite_false, Option.some.injEq, Option.isSome_none, Bool.and_self, and_self, exists_eq_left', List.toList_toArray, length_ofBytes, getD_ofBytes, cByte_dec, lOne_dec, lCons_dec, dec2_some, pureB_bytes, List.contains_nil, List.range'_zero, C1by_ns, C1by_pre, C1by_r, C1by_H, optP_some, optV_some, optH_some, Int.toNat_natCast, Nat.zero_lt_succ, C1by_it, regH_none, isNext, nextF, nextG, selC_true, selC_false, pureC, ↓msel, muC, ↓callP, C1by_mu, tk5, dz5, tk32, kLess, hc1, hc2, wA, wB, wC, wD, wE, wF, wG, hL1, hL2]
          repeat (first | refine And.intro ⟨by omega, by omega⟩ ?_ | refine And.intro (by omega) ?_)
          rw [← hS, hgo]
          exact ⟨by decide, subX_eq rfl (pureB_bytes _)⟩
      | false =>
        have hch : chD hi first r m = 2 * r + 1 := if_neg (by rw [hL1]; simp)
        rw [hch] at hgo
        cases hL2 : ltB (m.getD (first + r) 0) (m.getD (first + (2 * r + 1)) 0) with
        | true =>
          rw [hL2, if_pos rfl] at hgo
          simp (maxSteps := 4000000) only [↓wpA_H, ↓wpH_skip, ↓wpH_seq, ↓wpH_cond, ↓wpH_block, ↓wpH_region, ↓iselH_false, bselH_false, runH_nil, runH_cons, gw, gselH_plain, gselH_if, kselH_1, cselH_bool, gkind, ↓chk, justK, noW, ↓oneK, ↓pureK, ↓heapK, ↓thenA_normal, ↓blockA_normal, ↓stepEv, opnd, Pg.look, binK, intOp, dstOf, Bool.not_true, Bool.false_eq_true, Bool.true_eq_false, implies_true, true_and, and_true, forall_const, pickC, pickV, unc, gof, mux, mergeK, condsL, valV, heapV, footV, binV, intV, alives, aliveO, nxtQ, hdS, pairsA, frzA, closeQ_nil, closeQ_succ, diagQ_zero, diagQ_succ, mergeable, look_stripE, ofV, ofLeaf, sameK, subA, subQ, ptrsE, pairsO, frzO, subF, subG, pickOf, assocN, pairsE, pairsC, pairs0, frzE, frzC, frz0, frzH, Pg.freeze, List.foldl_nil, subOs, subO, subEv, subV_succ, subM, ldCells, objAt, ↓callT, callC, callV, callH, normArgs, normA, resL, res8_eq, res_succ, resM, shiftR, shift1, AV.cells, TK.cells, AV.leaf, AV.leafy, putCells, Op.operands, Call.operands, Array.toList_append, List.getElem?_toArray, List.getElem?_cons_succ, List.getElem?_cons_zero, Option.bind_some, Option.getD_some, reduceCtorEq, Nat.reduceEqDiff, List.nil_append, List.append_nil, List.cons_append, List.length_cons, List.length_nil, List.map_cons, List.map_nil, List.set_cons_zero, Nat.zero_add, ite_true, ite_false, Option.some.injEq, Option.isSome_none, List.all_cons, List.all_nil, Bool.and_self, and_self, exists_eq_left', List.toList_toArray, length_ofBytes, getD_ofBytes, set_ofBytes, cByte_dec, lOne_dec, lCons_dec, dec2_some, List.length_set, pureB_bytes, List.contains_nil, List.range'_zero, C1by_ns, C1by_pre, C1by_r, C1by_H, optP_some, optV_some, optH_some, Int.toNat_natCast, Nat.le_refl, Nat.zero_lt_succ, C1by_it, regH_none, isNext, nextF, nextG, selC_true, selC_false, pureC, ↓msel, muC, ↓callP, C1by_mu, tk5, dz5, tk32, kLess, hc1, hc2, wA, wB, wC, wD, wE, wF, hL1, hL2]
          repeat (first | refine And.intro ⟨by omega, by omega⟩ ?_ | refine And.intro (by omega) ?_)
          exact ⟨(2 * r + 1, swpL m (first + r) (first + (2 * r + 1))), ⟨by rw [swpL_len]; exact hm, by omega, by rw [← hS, hgo]⟩, by omega, by decide, subX_eq rfl (pureB_bytes _), rfl⟩
        | false =>
          rw [hL2, if_neg (by simp)] at hgo
          simp (maxSteps := 4000000) only [↓wpA_H, ↓wpH_skip, ↓wpH_ret, ↓wpH_seq, ↓wpH_cond, ↓wpH_block, ↓wpH_region, ↓iselH_true, ↓iselH_false, bselH_false, runH_nil, runH_cons, gw, gselH_plain, gselH_if, kselH_1, cselH_bool, gkind, ↓chk, justK, noW, ↓oneK, ↓pureK, ↓heapK, ↓thenA_normal, ↓thenA_ret, ↓blockA_ret, ↓stepEv, opnd, Pg.look, binK, intOp, dstOf, Bool.not_false, Bool.not_true, Bool.false_eq_true, Bool.true_eq_false, implies_true, true_and, and_true, forall_const, pickC, pickV, unc, gof, mux, mergeK, condsL, valV, heapV, footV, binV, intV, alives, aliveO, nxtQ, hdS, pairsA, frzA, closeQ_nil, closeQ_succ, diagQ_zero, diagQ_succ, mergeable, look_stripE, ofV, ofLeaf, sameK, retA, resK, tupA, subA, subQ, ptrsE, pairsO, frzO, subF, subG, pickOf, assocN, pairsE, pairsC, pairsL, frzE, frzC, frzL, frzH, Pg.freeze, List.foldl_nil, subOs, subO, subEv, subV_succ, subM, subL, ldCells, objAt, ↓callT, callC, callV, callH, normArgs, normA, resL, res8_eq, res_succ, resM, shiftR, shift1, AV.cells, TK.cells, Op.operands, Call.operands, Array.toList_append, List.getElem?_toArray, List.getElem?_cons_succ, List.getElem?_cons_zero, Option.bind_some, Option.getD_some, reduceCtorEq, Nat.reduceEqDiff, List.nil_append, List.append_nil, List.cons_append, List.length_cons, List.length_nil, List.map_cons, List.map_nil, Nat.zero_add, ite_true, ite_false, Option.some.injEq, Option.isSome_none, Bool.and_self, and_self, exists_eq_left', List.toList_toArray, length_ofBytes, getD_ofBytes, cByte_dec, lOne_dec, lCons_dec, dec2_some, pureB_bytes, List.contains_nil, List.range'_zero, C1by_ns, C1by_pre, C1by_r, C1by_H, optP_some, optV_some, optH_some, Int.toNat_natCast, Nat.zero_lt_succ, C1by_it, regH_none, isNext, nextF, nextG, selC_true, selC_false, pureC, ↓msel, muC, ↓callP, C1by_mu, tk5, dz5, tk32, kLess, hc1, hc2, wA, wB, wC, wD, wE, wF, hL1, hL2]
          repeat (first | refine And.intro ⟨by omega, by omega⟩ ?_ | refine And.intro (by omega) ?_)
          rw [← hS, hgo]
          exact ⟨by decide, subX_eq rfl (pureB_bytes _)⟩
    · have hc2 : decide (((2 * r + 1 + 1 : Nat) : Int) < (hi : Int)) = false := decide_eq_false (by omega)
      have hch : chD hi first r m = 2 * r + 1 := if_neg (by simp; omega)
      rw [hch] at hgo
      cases hL2 : ltB (m.getD (first + r) 0) (m.getD (first + (2 * r + 1)) 0) with
      | true =>
        rw [hL2, if_pos rfl] at hgo
        simp (maxSteps := 4000000) only [↓wpA_H, ↓wpH_skip, ↓wpH_seq, ↓wpH_cond, ↓wpH_block, ↓wpH_region, ↓iselH_false, bselH_false, runH_nil, runH_cons, gw, gselH_plain, gselH_if, kselH_1, cselH_bool, gkind, ↓chk, justK, noW, ↓oneK, ↓pureK, ↓heapK, ↓thenA_normal, ↓blockA_normal, ↓stepEv, opnd, Pg.look, binK, intOp, dstOf, Bool.not_false, Bool.not_true, Bool.false_eq_true, false_implies, implies_true, imp_self, true_and, and_true, pickC, pickV, unc, gof, mux, mergeK, condsL, valV, heapV, footV, binV, intV, alives, aliveO, nxtQ, hdS, pairsA, frzA, closeQ_nil, closeQ_succ, diagQ_zero, diagQ_succ, mergeable, look_stripE, ofV, ofLeaf, sameK, subA, subQ, ptrsE, pairsO, frzO, subF, subG, pickOf, assocN, pairsE, pairsC, pairs0, frzE, frzC, frz0, frzH, Pg.freeze, List.foldl_nil, subOs, subO, subEv, subV_succ, subM, ldCells, objAt, ↓callT, callC, callV, callH, normArgs, normA, resL, res8_eq, res_succ, resM, shiftR, shift1, AV.cells, TK.cells, AV.leaf, AV.leafy, putCells, Op.operands, Call.operands, Array.toList_append, List.getElem?_toArray, List.getElem?_cons_succ, List.getElem?_cons_zero, Option.bind_some, Option.getD_some, reduceCtorEq, Nat.reduceEqDiff, List.nil_append, List.append_nil, List.cons_append, List.length_cons, List.length_nil, List.map_cons, List.map_nil, List.set_cons_zero, Nat.zero_add, ite_true, ite_false, Option.some.injEq, Option.isSome_none, List.all_cons, List.all_nil, Bool.and_self, and_self, exists_eq_left', List.toList_toArray, length_ofBytes, getD_ofBytes, set_ofBytes, cByte_dec, lOne_dec, lCons_dec, dec2_some, List.length_set, pureB_bytes, List.contains_nil, List.range'_zero, C1by_ns, C1by_pre, C1by_r, C1by_H, optP_some, optV_some, optH_some, Int.toNat_natCast, Nat.le_refl, Nat.zero_lt_succ, C1by_it, regH_none, isNext, nextF, nextG, selC_true, selC_false, pureC, ↓msel, muC, ↓callP, C1by_mu, tk5, dz5, tk32, kLess, hc1, hc2, wA, wB, wC, wD, wE, wF, hL2]
        repeat (first | refine And.intro ⟨by omega, by omega⟩ ?_ | refine And.intro (by omega) ?_)
        exact ⟨(2 * r + 1, swpL m (first + r) (first + (2 * r + 1))), ⟨by rw [swpL_len]; exact hm, by omega, by rw [← hS, hgo]⟩, by omega, by decide, subX_eq rfl (pureB_bytes _), rfl⟩
      | false =>
        rw [hL2, if_neg (by simp)] at hgo
        simp (maxSteps := 4000000) only [↓wpA_H, ↓wpH_skip, ↓wpH_ret, ↓wpH_seq, ↓wpH_cond, ↓wpH_block, ↓wpH_region, ↓iselH_true, ↓iselH_false, bselH_false, runH_nil, runH_cons, gw, gselH_plain, gselH_if, kselH_1, cselH_bool, gkind, ↓chk, justK, noW, ↓oneK, ↓pureK, ↓heapK, ↓thenA_normal, ↓thenA_ret, ↓blockA_ret, ↓stepEv, opnd, Pg.look, binK, intOp, dstOf, Bool.not_false, Bool.false_eq_true, false_implies, implies_true, imp_self, true_and, and_true, pickC, pickV, unc, gof, mux, mergeK, condsL, valV, heapV, footV, binV, intV, alives, aliveO, nxtQ, hdS, pairsA, frzA, closeQ_nil, closeQ_succ, diagQ_zero, diagQ_succ, mergeable, look_stripE, ofV, ofLeaf, sameK, retA, resK, tupA, subA, subQ, ptrsE, pairsO, frzO, subF, subG, pickOf, assocN, pairsE, pairsC, pairsL, frzE, frzC, frzL, frzH, Pg.freeze, List.foldl_nil, subOs, subO, subEv, subV_succ, subM, subL, ldCells, objAt, ↓callT, callC, callV, callH, normArgs, normA, resL, res8_eq, res_succ, resM, shiftR, shift1, AV.cells, TK.cells, Op.operands, Call.operands, Array.toList_append, List.getElem?_toArray, List.getElem?_cons_succ, List.getElem?_cons_zero, Option.bind_some, Option.getD_some, reduceCtorEq, Nat.reduceEqDiff, List.nil_append, List.append_nil, List.cons_append, List.length_cons, List.length_nil, List.map_cons, List.map_nil, Nat.zero_add, ite_true, ite_false, Option.some.injEq, Option.isSome_none, Bool.and_self, and_self, exists_eq_left', List.toList_toArray, length_ofBytes, getD_ofBytes, cByte_dec, lOne_dec, lCons_dec, dec2_some, pureB_bytes, List.contains_nil, List.range'_zero, C1by_ns, C1by_pre, C1by_r, C1by_H, optP_some, optV_some, optH_some, Int.toNat_natCast, Nat.zero_lt_succ, C1by_it, regH_none, isNext, nextF, nextG, selC_true, selC_false, pureC, ↓msel, muC, ↓callP, C1by_mu, tk5, dz5, tk32, kLess, hc1, hc2, wA, wB, wC, wD, wE, wF, hL2]
        repeat (first | refine And.intro ⟨by omega, by omega⟩ ?_ | refine And.intro (by omega) ?_)
        rw [← hS, hgo]
        exact ⟨by decide, subX_eq rfl (pureB_bytes _)⟩
  · have hc1 : decide (((2 * r + 1 : Nat) : Int) ≥ (hi : Int)) = true := decide_eq_true (by omega)
    simp (maxSteps := 4000000) only [↓wpA_H, ↓wpH_exit, ↓wpH_seq, ↓wpH_cond, ↓wpH_block, ↓wpH_region, ↓iselH_true, bselH_false, runH_nil, runH_cons, gw, gselH_plain, cselH_bool, ↓chk, justK, ↓oneK, ↓pureK, ↓thenA_normal, ↓thenA_exit, ↓blockA_exit, ↓stepEv, opnd, Pg.look, binK, intOp, Bool.false_eq_true, implies_true, true_and, and_true, valV, heapV, footV, binV, intV, alives, aliveO, nxtQ, hdS, pairsA, frzA, closeQ_nil, closeQ_succ, diagQ_zero, diagQ_succ, ofV, ofLeaf, retA, resK, tupA, subA, subQ, ptrsE, pairsO, frzO, subF, subG, pickOf, assocN, pairsE, pairsC, pairsL, pairs0, frzE, frzC, frzL, frz0, frzH, Pg.freeze, List.foldl_nil, subOs, subO, subEv, subV_succ, subM, subL, List.getElem?_cons_zero, reduceCtorEq, Nat.reduceEqDiff, List.nil_append, List.append_nil, List.length_cons, List.length_nil, Nat.zero_add, ite_true, ite_false, and_self, pureB_bytes, List.contains_nil, Nat.zero_lt_succ, regH_none, isNext, nextF, nextG, selC_false, kLess, hc1, wA, wB]
    rw [← hS, siftD_end (by omega)]
    exact ⟨by decide, subX_eq rfl (pureB_bytes _)⟩
def kSift : C1 := C1.mby (hCons hBys (hCons (hP .id (cInt .i64)) (hCons (hP .id (cInt .i64)) (hCons (hP .id (cInt .i64)) hNil)))) (fun d => 0 ≤ d.2.1 ∧ d.2.1 ≤ 1000 ∧ 0 ≤ d.2.2.1 ∧ 0 ≤ d.2.2.2.1 ∧ d.2.2.2.1 + d.2.2.1 ≤ d.1.length ∧ d.1.length ≤ 1000) (fun _ => .tuple []) (fun d => [.arr 5 1 (ofBytes (siftD d.2.2.1.toNat d.2.2.2.1.toNat d.2.1.toNat d.1))])
theorem ok_sift : C1OK Try.prog 80 kSift := C1OK.mby (by kernel_rfl) (fun d h => by
  obtain ⟨l, lo, hi, first, u⟩ := d
  obtain ⟨h1, h2, h3, h4, h5, h6⟩ := h
  have h1 : 0 ≤ lo := h1
  have h2 : lo ≤ 1000 := h2
  have h3 : 0 ≤ hi := h3
  have h4 : 0 ≤ first := h4
  have h5 : first + hi ≤ l.length := h5
  have h6 : l.length ≤ 1000 := h6
  have := calls_sift l lo.toNat hi.toNat first.toNat (by omega) (by omega) h6
  rw [show ((lo.toNat : Nat) : Int) = lo by omega, show ((hi.toNat : Nat) : Int) = hi by omega, show ((first.toNat : Nat) : Int) = first by omega] at this
  exact this) (fun _ _ => Nat.le_refl _)
end Go.Pg
namespace Go.Pg
open Go Go.Proofs

theorem tdiv_half (n : Nat) : ((n : Int) - 1).tdiv 2 = (((n - 1) / 2 : Nat) : Int) := by
  cases n with
  | zero => rfl
  | succ n =>
    rw [show (((n + 1 : Nat) : Int) - 1) = (n : Int) by omega, Nat.add_sub_cancel]
    rfl

set_option maxRecDepth 20000 in
set_option maxHeartbeats 4000000 in
theorem calls_heap (l : List UInt8) (a b : Nat) (hab : a ≤ b) (hb : b ≤ l.length) (hl : l.length ≤ 1000) :
    CallsR Try.prog 70 [.own 0 1 l.length, .int .i64 a, .int .i64 b] [.arr 5 1 (ofBytes l)] (.tuple []) [.arr 5 1 (ofBytes (heapS a b l))] := by
  refine callsR_of (mrg := true) (dyn := []) (CtrOK.cons ok_sift (CtrOK.nil _)) mixed Try.func70 rfl (by simp [Try.ntmps70]) (by kernel_rfl) ?_
  rw [show Try.f70.results.toList = [] from by kernel_rfl]
  obtain ⟨n, rfl⟩ : ∃ n, b = a + n := ⟨b - a, by omega⟩
  have hS := heapS_eq a (a + n) l
  rw [Nat.add_sub_cancel_left] at hS
  have w0 : IntKind.i64.wrap (((a + n : Nat) : Int) - (a : Int)) = (n : Int) := by rw [wrap64 (by omega) (by omega)]; omega
  have w1 : IntKind.i64.wrap ((n : Int) - 1) = (n : Int) - 1 := wrap64 (by omega) (by omega)
  have w2 : IntKind.i64.wrap (((n : Int) - 1).tdiv 2) = (((n - 1) / 2 + 1 : Nat) : Int) - 1 := by rw [tdiv_half, wrap64 (by omega) (by omega)]; omega
  simp (maxSteps := 4000000) only [↓wpA_H, ↓wpH_seq, ↓wpH_block, ↓wpH_loop, ↓wpH_region, bselH_false, runH_nil, runH_cons, gw, gselH_plain, ↓chk, justK, ↓oneK, ↓pureK, envOf, ↓thenA_normal, ↓stepEv, opnd, Pg.look, binK, intOp, Bool.false_eq_true, implies_true, true_and, and_true, valV, heapV, footV, binV, intV, Nat.reduceAdd, ofV, ofLeaf, reduceCtorEq, Nat.reduceEqDiff, Nat.reduceAdd, List.length_cons, List.length_nil, Nat.zero_add, ite_true, ite_false, ne_eq, and_self, List.contains_nil, regH_none, isNext, nextF, nextG, selC_false, kSift, w0, w1, w2]
  refine ⟨by decide, ?_⟩
  refine loopH_intro (α := Nat × List UInt8) (fun x => ([(9, .int .i64 ((x.1 : Int) - 1)), (8, .int .i64 n), (7, .int .i64 0), (6, .int .i64 a), (0, .own 0 1 l.length)], [.arr 5 1 (ofBytes x.2)])) (fun x => x.2.length = l.length ∧ x.1 ≤ (n - 1) / 2 + 1 ∧ hBuild n a x.1 x.2 = hBuild n a ((n - 1) / 2 + 1) l) (fun x => x.1) ((n - 1) / 2 + 1, l) ⟨rfl, Nat.le_refl _, rfl⟩ ?_ ?_
  · simp (maxSteps := 4000000) only [Pg.look, true_and, and_true, alives, aliveO, nxtQ, hdS, pairsA, frzA, closeQ_nil, closeQ_succ, diagQ_zero, diagQ_succ, subA, subQ, ptrsE, pairsO, frzO, subF, subG, pickOf, assocN, pairsE, pairsC, pairs0, frzE, frzC, frz0, frzH, Pg.freeze, List.foldl_nil, subOs, subO, subEv, subV_succ, subM, List.getElem?_cons_zero, reduceCtorEq, Nat.reduceEqDiff, List.nil_append, List.append_nil, ite_true, ite_false, and_self, pureB_bytes, Nat.zero_lt_succ]
    exact ⟨by decide, subX_eq rfl (pureB_bytes _)⟩
  rintro ⟨k, m⟩ ⟨hm, hk, hB⟩
  have hm : m.length = l.length := hm
  have hk : k ≤ (n - 1) / 2 + 1 := hk
  have hB : hBuild n a k m = hBuild n a ((n - 1) / 2 + 1) l := hB
  cases k with
  | succ j =>
    have e1 : (((j + 1 : Nat) : Int) - 1) = (j : Int) := by omega
    have hc : decide ((j : Int) ≥ 0) = true := decide_eq_true (by omega)
    have w3 : IntKind.i64.wrap ((j : Int) - 1) = (j : Int) - 1 := wrap64 (by omega) (by omega)
    simp (maxSteps := 4000000) only [↓wpA_H, ↓wpH_skip, ↓wpH_seq, ↓wpH_cond, ↓wpH_block, ↓wpH_region, ↓iselH_true, bselH_false, runH_nil, runH_cons, gw, gselH_plain, cselH_bool, ↓chk, justK, ↓oneK, ↓pureK, ↓thenA_normal, ↓blockA_normal, ↓stepEv, opnd, Pg.look, binK, intOp, Bool.not_false, Bool.false_eq_true, implies_true, true_and, and_true, valV, heapV, footV, binV, intV, alives, aliveO, nxtQ, hdS, pairsA, frzA, closeQ_nil, closeQ_succ, diagQ_zero, diagQ_succ, ofV, ofLeaf, subA, subQ, ptrsE, pairsO, frzO, subF, subG, pickOf, assocN, pairsE, pairsC, pairs0, frzE, frzC, frz0, frzH, Pg.freeze, List.foldl_nil, subOs, subO, subEv, subV_succ, subM, ↓callT, normA, res8_eq, res_succ, resM, List.getElem?_cons_zero, reduceCtorEq, Nat.reduceEqDiff, List.nil_append, List.append_nil, List.length_cons, List.length_nil, List.map_cons, List.map_nil, List.set_cons_zero, Nat.zero_add, ite_true, ite_false, List.all_cons, List.all_nil, Bool.and_self, and_self, cInt_dec, length_ofBytes, decL_byte, pureB_bytes, List.contains_nil, List.range'_zero, Int.toNat_natCast, Nat.sub_self, Nat.zero_lt_succ, regH_none, isNext, nextF, nextG, selC_false, ↓msel, muC, ↓callU, ↓callUV, ↓callUH, ↓callUF, C1mby_mu, runM_eq, mkM_some, hNil_dec, hCons_dec, app3_some, hP_dec, hP1_some, hP2_some, hO1_some, hO2_arr, hOwn_dec, pickF, nodupB, somes, fresh, gids, putO, ren, renL, renO, kSift, e1, hc, w3, hm, renL_bytes]
    refine ⟨⟨by omega, by omega, by omega, by omega⟩, (j, siftD n a j m), ⟨by rw [siftD_length]; exact hm, by omega, by rw [← hBuild_succ]; exact hB⟩, by omega, by decide, subX_eq rfl (pureB_bytes _), rfl⟩
  | zero =>
    rw [hBuild_zero] at hB
    have hc : decide ((0 : Int) - 1 ≥ 0) = false := rfl
    have hm0 := hm
    simp (maxSteps := 4000000) only [↓wpA_H, ↓wpH_exit, ↓wpH_seq, ↓wpH_cond, ↓wpH_block, ↓wpH_loop, ↓wpH_region, ↓iselH_false, bselH_false, runH_nil, runH_cons, gw, gselH_plain, cselH_bool, ↓chk, justK, ↓oneK, ↓pureK, ↓thenA_normal, ↓thenA_exit, ↓blockA_exit, ↓stepEv, opnd, Pg.look, binK, intOp, Bool.false_eq_true, implies_true, true_and, valV, heapV, footV, binV, intV, ofV, ofLeaf, retA, reduceCtorEq, Nat.reduceEqDiff, List.length_cons, List.length_nil, Nat.zero_add, ite_true, ite_false, and_self, List.contains_nil, Int.cast_ofNat_Int, regH_none, isNext, nextF, nextG, selC_false, kSift, hc, w1]
    refine loopH_intro (α := Nat × List UInt8) (fun x => ([(10, .int .i64 ((x.1 : Int) - 1)), (7, .int .i64 0), (6, .int .i64 a), (0, .own 0 1 l.length)], [.arr 5 1 (ofBytes x.2)])) (fun x => x.2.length = l.length ∧ x.1 ≤ n ∧ hPop a x.1 x.2 = heapS a (a + n) l) (fun x => x.1) (n, m) ⟨hm0, Nat.le_refl _, by rw [hS, ← hB]⟩ ?_ ?_
    · simp (maxSteps := 4000000) only [Pg.look, true_and, and_true, alives, aliveO, nxtQ, hdS, pairsA, frzA, closeQ_nil, closeQ_succ, diagQ_zero, diagQ_succ, subA, subQ, ptrsE, pairsO, frzO, subF, subG, pickOf, assocN, pairsE, pairsC, pairs0, frzE, frzC, frz0, frzH, Pg.freeze, List.foldl_nil, subOs, subO, subEv, subV_succ, subM, List.getElem?_cons_zero, reduceCtorEq, Nat.reduceEqDiff, List.nil_append, List.append_nil, ite_true, ite_false, and_self, pureB_bytes, Nat.zero_lt_succ]
      exact ⟨by decide, subX_eq rfl (pureB_bytes _)⟩
    rintro ⟨i, q⟩ ⟨hq, hi, hP⟩
    have hq : q.length = l.length := hq
    have hi : i ≤ n := hi
    have hP : hPop a i q = heapS a (a + n) l := hP
    cases i with
    | succ j =>
      rw [hPop_succ] at hP
      have e1 : (((j + 1 : Nat) : Int) - 1) = (j : Int) := by omega
      have hc : decide ((j : Int) ≥ 0) = true := decide_eq_true (by omega)
      have w3 : IntKind.i64.wrap ((j : Int) - 1) = (j : Int) - 1 := wrap64 (by omega) (by omega)
      have w4 : IntKind.i64.wrap ((a : Int) + (j : Int)) = ((a + j : Nat) : Int) := by rw [wrap64 (by omega) (by omega)]; omega
      have hsw : (q.set a (q.getD (a + j) 0)).set (a + j) (q.getD a 0) = swpL q a (a + j) := rfl
      simp (maxSteps := 4000000) only [↓wpA_H, ↓wpH_skip, ↓wpH_seq, ↓wpH_cond, ↓wpH_block, ↓wpH_region, ↓iselH_true, bselH_false, runH_nil, runH_cons, gw, gselH_plain, cselH_bool, ↓chk, justK, noW, ↓oneK, ↓pureK, ↓heapK, ↓thenA_normal, ↓blockA_normal, ↓stepEv, opnd, Pg.look, binK, intOp, Bool.not_false, Bool.false_eq_true, implies_true, true_and, and_true, valV, heapV, footV, binV, intV, alives, aliveO, nxtQ, hdS, pairsA, frzA, closeQ_nil, closeQ_succ, diagQ_zero, diagQ_succ, ofV, ofLeaf, subA, subQ, ptrsE, pairsO, frzO, subF, subG, pickOf, assocN, pairsE, pairsC, pairs0, frzE, frzC, frz0, frzH, Pg.freeze, List.foldl_nil, subOs, subO, subEv, subV_succ, subM, ldCells, objAt, ↓callT, normA, res8_eq, res_succ, resM, AV.cells, TK.cells, AV.leaf, AV.leafy, putCells, List.getElem?_cons_zero, Option.getD_some, reduceCtorEq, Nat.reduceEqDiff, List.nil_append, List.append_nil, List.length_cons, List.length_nil, List.map_cons, List.map_nil, List.set_cons_zero, Nat.zero_add, Int.reduceToNat, ite_true, ite_false, Option.some.injEq, Option.isSome_some, List.all_cons, List.all_nil, Bool.and_self, and_self, exists_eq_left', cInt_dec, length_ofBytes, getD_ofBytes, set_ofBytes, Int.reduceLE, decL_byte, List.length_set, pureB_bytes, List.contains_nil, List.range'_zero, Int.toNat_natCast, Nat.sub_self, Nat.le_refl, Nat.zero_lt_succ, regH_none, isNext, nextF, nextG, selC_true, selC_false, pureC, ↓msel, muC, ↓callU, ↓callUV, ↓callUH, ↓callUF, C1mby_mu, runM_eq, mkM_some, hNil_dec, hCons_dec, app3_some, hP_dec, hP1_some, hP2_some, hO1_some, hO2_arr, hOwn_dec, pickF, nodupB, somes, fresh, gids, putO, ren, renL, renO, tk5, dz5, tk32, kSift, e1, hc, w3, w4, hsw, swpL_len, hq, renL_bytes]
      repeat (first | refine And.intro ⟨by omega, by omega⟩ ?_ | refine And.intro ⟨by omega, by omega, by omega⟩ ?_ | refine And.intro ⟨by omega, by omega, by omega, by omega⟩ ?_ | refine And.intro (by omega) ?_)
      exact ⟨(j, siftD j a 0 (swpL q a (a + j))), ⟨by rw [siftD_length, swpL_len]; exact hq, by omega, hP⟩, by omega, by decide, subX_eq rfl (pureB_bytes _), rfl⟩
    | zero =>
      rw [hPop_zero] at hP
      have hc : decide ((0 : Int) - 1 ≥ 0) = false := rfl
      simp (maxSteps := 4000000) only [↓wpA_H, ↓wpH_exit, ↓wpH_seq, ↓wpH_cond, ↓wpH_region, ↓iselH_false, bselH_false, runH_nil, runH_cons, gw, gselH_plain, cselH_bool, ↓chk, justK, ↓oneK, ↓pureK, ↓thenA_normal, ↓thenA_exit, ↓blockA_exit, ↓stepEv, opnd, Pg.look, binK, intOp, Bool.false_eq_true, implies_true, true_and, and_true, valV, heapV, footV, binV, intV, alives, aliveO, nxtQ, hdS, pairsA, frzA, closeQ_nil, closeQ_succ, diagQ_zero, diagQ_succ, ofV, ofLeaf, retA, resK, tupA, subA, subQ, ptrsE, pairsO, frzO, subF, subG, pickOf, assocN, pairsE, pairsC, pairsL, frzE, frzC, frzL, frzH, Pg.freeze, List.foldl_nil, subOs, subO, subEv, subV_succ, subM, subL, List.getElem?_cons_zero, reduceCtorEq, Nat.reduceEqDiff, List.nil_append, List.append_nil, List.length_cons, List.length_nil, Nat.zero_add, ite_true, ite_false, and_self, pureB_bytes, List.contains_nil, Int.cast_ofNat_Int, Nat.zero_lt_succ, regH_none, isNext, nextF, nextG, selC_false, kSift, hc]
      rw [hP]
      exact ⟨by decide, subX_eq rfl (pureB_bytes _)⟩
abbrev hAB : HL (List UInt8 × Int × Int × Unit) := hCons hBys (hCons (hP .id (cInt .i64)) (hCons (hP .id (cInt .i64)) hNil))
def kHeap : C1 := C1.mby hAB (fun d => 0 ≤ d.2.1 ∧ d.2.1 ≤ d.2.2.1 ∧ d.2.2.1 ≤ d.1.length ∧ d.1.length ≤ 1000) (fun _ => .tuple []) (fun d => [.arr 5 1 (ofBytes (heapS d.2.1.toNat d.2.2.1.toNat d.1))])
theorem ok_heap : C1OK Try.prog 70 kHeap := C1OK.mby (by kernel_rfl) (fun d h => by
  obtain ⟨l, a, b, u⟩ := d
  obtain ⟨h1, h2, h3, h4⟩ := h
  have h1 : 0 ≤ a := h1
  have h2 : a ≤ b := h2
  have h3 : b ≤ l.length := h3
  have h4 : l.length ≤ 1000 := h4
  have := calls_heap l a.toNat b.toNat (by omega) (by omega) h4
  rw [show ((a.toNat : Nat) : Int) = a by omega, show ((b.toNat : Nat) : Int) = b by omega] at this
  exact this) (fun _ _ => Nat.le_refl _)
end Go.Pg
namespace Go.Pg
open Go Go.Proofs

theorem scanU_yes {p : UInt8 → Bool} {l : List UInt8} {j i : Nat} (h : i ≤ j) (hp : p (l.getD i 0) = true) : scanU p l j (i + 1) = scanU p l j i := by
  rw [scanU_eq p l j i, if_pos (by rw [hp, decide_eq_true h]; rfl)]
theorem scanU_no {p : UInt8 → Bool} {l : List UInt8} {j i : Nat} (h : ¬ (i ≤ j ∧ p (l.getD i 0) = true)) : scanU p l j i = i := by
  rw [scanU_eq, if_neg (by simpa using h)]
theorem scanN_yes {p : UInt8 → Bool} {l : List UInt8} {j i : Nat} (h : i ≤ j + 1) (hp : p (l.getD (j + 1) 0) = true) : scanN p l i j = scanN p l i (j + 1) := by
  rw [scanN_succ, if_pos (by rw [hp, decide_eq_true h]; rfl)]
theorem scanN_no {p : UInt8 → Bool} {l : List UInt8} {j i : Nat} (h : ¬ (i ≤ j ∧ p (l.getD j 0) = true)) : scanN p l i j = j := by
  cases j with
  | zero => rfl
  | succ j => rw [scanN_succ, if_neg (by simpa using h)]

set_option maxRecDepth 20000 in
set_option maxHeartbeats 4000000 in
theorem calls_part (l : List UInt8) (a b pv : Nat) (hap : a ≤ pv) (hpb : pv < b) (hb : b ≤ l.length) (hl : l.length ≤ 1000) :
    CallsR Try.prog 77 [.own 0 1 l.length, .int .i64 a, .int .i64 b, .int .i64 pv] [.arr 5 1 (ofBytes l)]
      (.tuple [.int .i64 (part a b pv l).1, .bool (part a b pv l).2.1]) [.arr 5 1 (ofBytes (part a b pv l).2.2)] := by
  refine callsR_of (mrg := true) (dyn := []) (CtrOK.cons ok_Less (CtrOK.nil _)) mixed Try.func77 rfl (by simp [Try.ntmps77]) (by kernel_rfl) ?_
  rw [show Try.f77.results.toList = [.tmp 8, .tmp 9] from by kernel_rfl]
  have w0 : IntKind.i64.wrap ((a : Int) + 1) = ((a + 1 : Nat) : Int) := by rw [wrap64 (by omega) (by omega)]; omega
  have w1 : IntKind.i64.wrap ((b : Int) - 1) = ((b - 1 : Nat) : Int) := by rw [wrap64 (by omega) (by omega)]; omega
  have hsw : ∀ (q : List UInt8) (i j : Nat), (q.set i (q.getD j 0)).set j (q.getD i 0) = swpL q i j := fun _ _ _ => rfl
  simp (maxSteps := 4000000) only [↓wpA_H, ↓wpH_seq, ↓wpH_block, ↓wpH_loop, ↓wpH_region, bselH_false, runH_nil, runH_cons, gw, gselH_plain, ↓chk, justK, noW, ↓oneK, ↓pureK, ↓heapK, envOf, ↓thenA_normal, ↓stepEv, opnd, Pg.look, binK, intOp, Bool.false_eq_true, implies_true, true_and, and_true, valV, heapV, footV, binV, intV, Nat.reduceAdd, ofV, ofLeaf, ldCells, objAt, AV.cells, TK.cells, AV.leaf, AV.leafy, putCells, List.getElem?_cons_zero, Option.getD_some, reduceCtorEq, Nat.reduceEqDiff, Nat.reduceAdd, List.length_cons, List.length_nil, List.set_cons_zero, Nat.zero_add, ite_true, ite_false, Option.some.injEq, Option.isSome_none, List.all_cons, List.all_nil, Bool.and_self, and_self, exists_eq_left', length_ofBytes, getD_ofBytes, set_ofBytes, List.length_set, List.contains_nil, Int.toNat_natCast, Nat.le_refl, Nat.zero_lt_succ, regH_none, isNext, nextF, nextG, selC_true, selC_false, pureC, C1by_mu, tk5, dz5, tk32, kLess, w0, w1, hsw]
  repeat (first | refine And.intro ⟨by omega, by omega⟩ ?_ | refine And.intro (by omega) ?_)
  obtain ⟨m, hmd⟩ : ∃ m, m = swpL l a pv := ⟨_, rfl⟩
  have hm : m.length = l.length := by rw [hmd, swpL_len]
  rw [← hmd]
  obtain ⟨I, hI⟩ : ∃ I, I = scanU (pU a m) m (b - 1) (a + 1) := ⟨_, rfl⟩
  have hI1 : a + 1 ≤ I := by rw [hI]; exact scanU_ge _ _ _ _
  have hI2 : I ≤ b := by have := scanU_le (pU a m) m (b - 1) _ (a + 1) (Nat.le_refl _) (by omega); omega
  obtain ⟨J, hJ⟩ : ∃ J, J = scanN (pD a m) m I (b - 1) := ⟨_, rfl⟩
  have hJ1 : J ≤ b - 1 := by rw [hJ]; exact scanN_le _ _ _ _
  have hJ2 : I ≤ J + 1 := by rw [hJ]; exact scanN_ge _ _ _ _ (by omega)
  have hP := part_eq a b pv l m I J hmd hI hJ
  refine loopH_intro (α := Nat) (fun i => ([(10, .int .i64 i), (11, .int .i64 (b - 1 : Nat)), (0, .own 0 1 l.length), (1, .int .i64 a)], [.arr 5 1 (ofBytes m)]))
    (fun i => a + 1 ≤ i ∧ i ≤ b ∧ scanU (pU a m) m (b - 1) i = I) (fun i => b - i) (a + 1) ⟨Nat.le_refl _, by omega, hI.symm⟩ ?_ ?_
  · simp (maxSteps := 4000000) only [Pg.look, true_and, and_true, alives, aliveO, nxtQ, hdS, pairsA, frzA, closeQ_nil, closeQ_succ, diagQ_zero, diagQ_succ, subA, subQ, ptrsE, pairsO, frzO, subF, subG, pickOf, assocN, pairsE, pairsC, pairs0, frzE, frzC, frz0, frzH, Pg.freeze, List.foldl_nil, subOs, subO, subEv, subV_succ, subM, List.getElem?_cons_zero, reduceCtorEq, Nat.reduceEqDiff, List.nil_append, List.append_nil, ite_true, ite_false, and_self, pureB_bytes, Nat.zero_lt_succ]
    exact ⟨by decide, subX_eq rfl (pureB_bytes _)⟩
  rintro i ⟨hi1, hi2, hi3⟩
  have hi1 : a + 1 ≤ i := hi1
  have hi2 : i ≤ b := hi2
  have hi3 : scanU (pU a m) m (b - 1) i = I := hi3
  simp (maxSteps := 4000000) only [↓wpA_H, ↓wpH_skip, ↓wpH_exit, ↓wpH_seq, ↓wpH_cond, ↓wpH_block, ↓wpH_loop, ↓wpH_region, iselH_if, bselH_false, runH_nil, runH_cons, gw, gselH_plain, gselH_if, kselH_1, cselH_bool, gkind, ↓chk, justK, noW, ↓oneK, ↓pureK, ↓heapK, ↓thenA_normal, ↓thenA_exit, ↓blockA_normal, ↓blockA_exit, ↓stepEv, opnd, Pg.look, binK, intOp, dstOf, Bool.false_eq_true, implies_true, imp_self, true_and, and_true, pickC, pickV, unc, gof, mux, mergeK, condsL, valV, heapV, footV, binV, intV, alives, aliveO, nxtQ, hdS, pairsA, frzA, closeQ_nil, closeQ_succ, diagQ_zero, diagQ_succ, mergeable, look_stripE, ofV, ofLeaf, sameK, retA, subA, subQ, ptrsE, pairsO, frzO, subF, subG, pickOf, assocN, pairsE, pairsC, pairs0, frzE, frzC, frz0, frzH, Pg.freeze, List.foldl_nil, subOs, subO, subEv, subV_succ, subM, ldCells, objAt, ↓callT, callC, callV, normArgs, normA, resL, res8_eq, res_succ, resM, shiftR, shift1, AV.cells, TK.cells, Op.operands, Call.operands, Array.toList_append, List.getElem?_toArray, List.getElem?_cons_succ, List.getElem?_cons_zero, Option.bind_some, Option.getD_some, reduceCtorEq, Nat.reduceEqDiff, List.nil_append, List.append_nil, List.cons_append, List.length_cons, List.length_nil, List.map_cons, List.map_nil, Nat.zero_add, ite_true, ite_false, Option.some.injEq, Option.isSome_none, Bool.if_false_right, decide_eq_true_eq, decide_eq_false_iff_not, Int.not_le, Bool.and_self, and_self, exists_eq_left', List.toList_toArray, length_ofBytes, getD_ofBytes, cByte_dec, lOne_dec, lCons_dec, dec2_some, pureB_bytes, List.contains_nil, List.range'_zero, C1by_ns, C1by_pre, C1by_r, C1by_H, optP_some, optV_some, optH_some, Int.toNat_natCast, Nat.zero_lt_succ, C1by_it, regH_none, isNext, nextF, nextG, selC_true, selC_false, pureC, ↓msel, muC, ↓callP, C1by_mu, tk5, dz5, tk32, kLess]
  refine ⟨fun h => ⟨h, by omega, by omega⟩, fun h => ⟨h, hm, by omega⟩, fun h => ⟨h, by omega, by omega⟩, fun h => ⟨h, hm, by omega⟩, fun h => ?_, fun h => ?_⟩
  · simp only [Bool.and_eq_true, decide_eq_true_eq] at h
    exact ⟨i + 1, ⟨by omega, by omega, by rw [← hi3]; exact scanU_yes (by omega) h.2⟩, by omega, by decide, subX_eq rfl (pureB_bytes _), by rw [wrap64 (by omega) (by omega)]; rfl⟩
  obtain rfl : i = I := by
    rw [← hi3, scanU_no]
    rintro ⟨h1, h2⟩
    have h2 : ltB (m.getD i 0) (m.getD a 0) = true := h2
    rw [h2, Bool.and_true, decide_eq_false_iff_not] at h
    omega
  refine loopH_intro (α := Nat) (fun j => ([(10, .int .i64 i), (11, .int .i64 j), (0, .own 0 1 l.length), (1, .int .i64 a)], [.arr 5 1 (ofBytes m)]))
    (fun j => a ≤ j ∧ j ≤ b - 1 ∧ scanN (pD a m) m i j = J) (fun j => j) (b - 1) ⟨by omega, Nat.le_refl _, hJ.symm⟩ ?_ ?_
  · simp (maxSteps := 4000000) only [Pg.look, true_and, and_true, alives, aliveO, nxtQ, hdS, pairsA, frzA, closeQ_nil, closeQ_succ, diagQ_zero, diagQ_succ, subA, subQ, ptrsE, pairsO, frzO, subF, subG, pickOf, assocN, pairsE, pairsC, pairs0, frzE, frzC, frz0, frzH, Pg.freeze, List.foldl_nil, subOs, subO, subEv, subV_succ, subM, List.getElem?_cons_zero, reduceCtorEq, Nat.reduceEqDiff, List.nil_append, List.append_nil, ite_true, ite_false, and_self, pureB_bytes, Nat.zero_lt_succ]
    exact ⟨by decide, subX_eq rfl (pureB_bytes _)⟩
  rintro j ⟨hj1, hj2, hj3⟩
  have hj1 : a ≤ j := hj1
  have hj2 : j ≤ b - 1 := hj2
  have hj3 : scanN (pD a m) m i j = J := hj3
  simp (maxSteps := 4000000) only [↓wpA_H, ↓wpH_skip, ↓wpH_ret, ↓wpH_exit, ↓wpH_seq, ↓wpH_cond, ↓wpH_block, ↓wpH_loop, ↓wpH_region, iselH_if, bselH_false, runH_nil, runH_cons, gw, gselH_plain, gselH_if, kselH_1, cselH_bool, gkind, ↓chk, justK, noW, ↓oneK, ↓pureK, ↓heapK, ↓thenA_normal, ↓thenA_ret, ↓thenA_exit, ↓blockA_normal, ↓blockA_exit, ↓stepEv, opnd, Pg.look, binK, intOp, dstOf, Bool.false_eq_true, implies_true, imp_self, true_and, and_true, pickC, pickV, unc, gof, mux, mergeK, condsL, valV, heapV, footV, binV, intV, alives, aliveO, nxtQ, hdS, pairsA, frzA, closeQ_nil, closeQ_succ, diagQ_zero, diagQ_succ, mergeable, look_stripE, ofV, ofLeaf, sameK, retA, resK, tupA, subA, subQ, ptrsE, pairsO, frzO, subF, subG, pickOf, assocN, pairsE, pairsC, pairsL, pairs0, frzE, frzC, frzL, frz0, frzH, Pg.freeze, List.foldl_nil, subOs, subO, subEv, subV_succ, subM, subL, ldCells, objAt, ↓callT, callC, callV, normArgs, normA, resL, res8_eq, res_succ, resM, shiftR, shift1, AV.cells, TK.cells, AV.leaf, AV.leafy, putCells, Op.operands, Call.operands, Array.toList_append, List.getElem?_toArray, List.getElem?_cons_succ, List.getElem?_cons_zero, Option.bind_some, Option.getD_some, reduceCtorEq, Nat.reduceEqDiff, List.nil_append, List.append_nil, List.cons_append, List.length_cons, List.length_nil, List.map_cons, List.map_nil, List.set_cons_zero, Nat.zero_add, ite_true, ite_false, Option.some.injEq, Option.isSome_none, Bool.if_false_right, decide_eq_true_eq, decide_eq_false_iff_not, Int.not_le, Int.not_lt, List.all_cons, List.all_nil, Bool.and_self, and_self, exists_eq_left', List.toList_toArray, length_ofBytes, getD_ofBytes, set_ofBytes, cByte_dec, lOne_dec, lCons_dec, dec2_some, List.length_set, pureB_bytes, List.contains_nil, List.range'_zero, C1by_ns, C1by_pre, C1by_r, C1by_H, optP_some, optV_some, optH_some, Int.toNat_natCast, Nat.le_refl, Nat.zero_lt_succ, C1by_it, regH_none, isNext, nextF, nextG, selC_true, selC_false, pureC, ↓msel, muC, ↓callP, C1by_mu, tk5, dz5, tk32, kLess]
  refine ⟨fun h => ⟨h, by omega, by omega⟩, fun h => ⟨h, hm, by omega⟩, fun h => ⟨h, by omega, by omega⟩, fun h => ⟨h, hm, by omega⟩, fun h => ?_, fun h => ?_⟩
  · simp only [Bool.and_eq_true, decide_eq_true_eq] at h
    obtain ⟨k, rfl⟩ : ∃ k, j = k + 1 := ⟨j - 1, by omega⟩
    exact ⟨k, ⟨by omega, by omega, by rw [← hj3]; exact scanN_yes (by omega) h.2⟩, by omega, by decide, subX_eq rfl (pureB_bytes _), by rw [wrap64 (by omega) (by omega)]; omega⟩
  obtain rfl : j = J := by
    rw [← hj3, scanN_no]
    rintro ⟨h1, h2⟩
    have h2 : (!ltB (m.getD j 0) (m.getD a 0)) = true := h2
    rw [h2, Bool.and_true, decide_eq_false_iff_not] at h
    omega
  refine ⟨fun hc => ?_, fun hc => ?_⟩
  · rw [if_pos (by omega)] at hP
    repeat (first | refine And.intro ⟨by omega, by omega⟩ ?_ | refine And.intro (by omega) ?_)
    rw [hP]
    exact ⟨by decide, subX_eq rfl (pureB_bytes _), rfl, rfl⟩
  rw [if_neg (by omega)] at hP
  obtain ⟨k, rfl⟩ : ∃ k, j = k + 1 := ⟨j - 1, by omega⟩
  have w2 : IntKind.i64.wrap ((i : Int) + 1) = ((i + 1 : Nat) : Int) := by rw [wrap64 (by omega) (by omega)]; omega
  have w3 : IntKind.i64.wrap (((k + 1 : Nat) : Int) - 1) = (k : Int) := by rw [wrap64 (by omega) (by omega)]; omega
  rw [Nat.add_sub_cancel] at hP
  repeat (first | refine And.intro ⟨by omega, by omega⟩ ?_ | refine And.intro (by omega) ?_)
  refine loopH_intro (α := Nat × Nat × List UInt8) (fun x => ([(10, .int .i64 x.1), (11, .int .i64 x.2.1), (0, .own 0 1 l.length), (1, .int .i64 a)], [.arr 5 1 (ofBytes x.2.2)]))
    (fun x => x.2.2.length = l.length ∧ a + 1 ≤ x.1 ∧ x.1 ≤ b + 1 ∧ a ≤ x.2.1 ∧ x.2.1 ≤ b - 1 ∧ partL a x.1 x.2.1 x.2.2 = partL a (i + 1) k (swpL m i (k + 1))) (fun x => x.2.1 + 1 - x.1) (i + 1, k, swpL m i (k + 1)) ⟨by rw [swpL_len]; exact hm, by show a + 1 ≤ i + 1; omega, by show i + 1 ≤ b + 1; omega, by show a ≤ k; omega, by show k ≤ b - 1; omega, rfl⟩ ?_ ?_
  · simp (maxSteps := 4000000) only [Pg.look, true_and, and_true, alives, aliveO, nxtQ, hdS, pairsA, frzA, closeQ_nil, closeQ_succ, diagQ_zero, diagQ_succ, subA, subQ, ptrsE, pairsO, frzO, subF, subG, pickOf, assocN, pairsE, pairsC, pairs0, frzE, frzC, frz0, frzH, Pg.freeze, List.foldl_nil, subOs, subO, subEv, subV_succ, subM, List.getElem?_cons_zero, reduceCtorEq, Nat.reduceEqDiff, List.nil_append, List.append_nil, ite_true, ite_false, and_self, pureB_bytes, Nat.zero_lt_succ, w2, w3]
    exact ⟨by decide, subX_eq rfl (pureB_bytes _)⟩
  rintro ⟨i1, j1, q⟩ ⟨hq, g1, g2, g3, g4, g5⟩
  have hq : q.length = l.length := hq
  have g1 : a + 1 ≤ i1 := g1
  have g2 : i1 ≤ b + 1 := g2
  have g3 : a ≤ j1 := g3
  have g4 : j1 ≤ b - 1 := g4
  have g5 : partL a i1 j1 q = partL a (i + 1) k (swpL m i (k + 1)) := g5
  rw [← g5] at hP
  clear hI hI1 hI2 hJ hJ1 hJ2 hi1 hi2 hi3 hj1 hj2 hj3 hc w2 w3 h
  rw [partL_eq] at hP g5
  obtain ⟨I, hI⟩ : ∃ I, I = scanU (pU a q) q j1 i1 := ⟨_, rfl⟩
  have hI1 : i1 ≤ I := by rw [hI]; exact scanU_ge _ _ _ _
  rw [← hI] at hP g5
  obtain ⟨J, hJ⟩ : ∃ J, J = scanN (pD a q) q I j1 := ⟨_, rfl⟩
  have hJ1 : J ≤ j1 := by rw [hJ]; exact scanN_le _ _ _ _
  rw [← hJ] at hP g5
  simp (maxSteps := 4000000) only [↓wpA_H, ↓wpH_seq, ↓wpH_block, ↓wpH_loop]
  refine loopH_intro (α := Nat) (fun i => ([(10, .int .i64 i), (11, .int .i64 j1), (0, .own 0 1 l.length), (1, .int .i64 a)], [.arr 5 1 (ofBytes q)]))
    (fun i => i1 ≤ i ∧ i ≤ b + 1 ∧ scanU (pU a q) q j1 i = I) (fun i => b - i) i1 ⟨Nat.le_refl _, g2, hI.symm⟩ ?_ ?_
  · simp (maxSteps := 4000000) only [Pg.look, true_and, and_true, alives, aliveO, nxtQ, hdS, pairsA, frzA, closeQ_nil, closeQ_succ, diagQ_zero, diagQ_succ, subA, subQ, ptrsE, pairsO, frzO, subF, subG, pickOf, assocN, pairsE, pairsC, pairs0, frzE, frzC, frz0, frzH, Pg.freeze, List.foldl_nil, subOs, subO, subEv, subV_succ, subM, List.getElem?_cons_zero, reduceCtorEq, Nat.reduceEqDiff, List.nil_append, List.append_nil, ite_true, ite_false, and_self, pureB_bytes, Nat.zero_lt_succ]
    exact ⟨by decide, subX_eq rfl (pureB_bytes _)⟩
  rintro i2 ⟨hi1, hi2, hi3⟩
  have hi1 : i1 ≤ i2 := hi1
  have hi2 : i2 ≤ b + 1 := hi2
  have hi3 : scanU (pU a q) q j1 i2 = I := hi3
  simp (maxSteps := 4000000) only [↓wpA_H, ↓wpH_skip, ↓wpH_ret, ↓wpH_exit, ↓wpH_seq, ↓wpH_cond, ↓wpH_block, ↓wpH_loop, ↓wpH_region, iselH_if, bselH_false, runH_nil, runH_cons, gw, gselH_plain, gselH_if, kselH_1, cselH_bool, gkind, ↓chk, justK, noW, ↓oneK, ↓pureK, ↓heapK, ↓thenA_normal, ↓thenA_exit, ↓blockA_normal, ↓blockA_exit, ↓stepEv, opnd, Pg.look, binK, intOp, dstOf, Bool.false_eq_true, implies_true, imp_self, true_and, and_true, pickC, pickV, unc, gof, mux, mergeK, condsL, valV, heapV, footV, binV, intV, alives, aliveO, nxtQ, hdS, pairsA, frzA, closeQ_nil, closeQ_succ, diagQ_zero, diagQ_succ, mergeable, look_stripE, ofV, ofLeaf, sameK, retA, resK, tupA, subA, subQ, ptrsE, pairsO, frzO, subF, subG, pickOf, assocN, pairsE, pairsC, pairsL, pairs0, frzE, frzC, frzL, frz0, frzH, Pg.freeze, List.foldl_nil, subOs, subO, subEv, subV_succ, subM, subL, ldCells, objAt, ↓callT, callC, callV, normArgs, normA, resL, res8_eq, res_succ, resM, shiftR, shift1, AV.cells, TK.cells, AV.leaf, AV.leafy, putCells, Op.operands, Call.operands, Array.toList_append, List.getElem?_toArray, List.getElem?_cons_succ, List.getElem?_cons_zero, Option.bind_some, Option.getD_some, reduceCtorEq, Nat.reduceEqDiff, List.nil_append, List.append_nil, List.cons_append, List.length_cons, List.length_nil, List.map_cons, List.map_nil, List.set_cons_zero, Nat.zero_add, ite_true, ite_false, Option.some.injEq, Option.isSome_none, Bool.if_false_right, decide_eq_true_eq, decide_eq_false_iff_not, Int.not_le, List.all_cons, List.all_nil, Bool.and_self, and_self, exists_eq_left', List.toList_toArray, length_ofBytes, getD_ofBytes, set_ofBytes, cByte_dec, lOne_dec, lCons_dec, dec2_some, List.length_set, pureB_bytes, List.contains_nil, List.range'_zero, C1by_ns, C1by_pre, C1by_r, C1by_H, optP_some, optV_some, optH_some, Int.toNat_natCast, Nat.le_refl, Nat.zero_lt_succ, C1by_it, regH_none, isNext, nextF, nextG, selC_true, selC_false, pureC, ↓msel, muC, ↓callP, C1by_mu, tk5, dz5, tk32, kLess]
  refine ⟨fun h => ⟨h, by omega, by omega⟩, fun h => ⟨h, hq, by omega⟩, fun h => ⟨h, by omega, by omega⟩, fun h => ⟨h, hq, by omega⟩, fun h => ?_, fun h => ?_⟩
  · simp only [Bool.and_eq_true, decide_eq_true_eq] at h
    exact ⟨i2 + 1, ⟨by omega, by omega, by rw [← hi3]; exact scanU_yes (by omega) h.2⟩, by omega, by decide, subX_eq rfl (pureB_bytes _), by rw [wrap64 (by omega) (by omega)]; rfl⟩
  obtain rfl : i2 = I := by
    rw [← hi3, scanU_no]
    rintro ⟨h1, h2⟩
    have h2 : ltB (q.getD i2 0) (q.getD a 0) = true := h2
    rw [h2, Bool.and_true, decide_eq_false_iff_not] at h
    omega
  refine loopH_intro (α := Nat) (fun j => ([(10, .int .i64 i2), (11, .int .i64 j), (0, .own 0 1 l.length), (1, .int .i64 a)], [.arr 5 1 (ofBytes q)]))
    (fun j => a ≤ j ∧ j ≤ j1 ∧ scanN (pD a q) q i2 j = J) (fun j => j) j1 ⟨g3, Nat.le_refl _, hJ.symm⟩ ?_ ?_
  · simp (maxSteps := 4000000) only [Pg.look, true_and, and_true, alives, aliveO, nxtQ, hdS, pairsA, frzA, closeQ_nil, closeQ_succ, diagQ_zero, diagQ_succ, subA, subQ, ptrsE, pairsO, frzO, subF, subG, pickOf, assocN, pairsE, pairsC, pairs0, frzE, frzC, frz0, frzH, Pg.freeze, List.foldl_nil, subOs, subO, subEv, subV_succ, subM, List.getElem?_cons_zero, reduceCtorEq, Nat.reduceEqDiff, List.nil_append, List.append_nil, ite_true, ite_false, and_self, pureB_bytes, Nat.zero_lt_succ]
    exact ⟨by decide, subX_eq rfl (pureB_bytes _)⟩
  rintro j2 ⟨hj1, hj2, hj3⟩
  have hj1 : a ≤ j2 := hj1
  have hj2 : j2 ≤ j1 := hj2
  have hj3 : scanN (pD a q) q i2 j2 = J := hj3
  simp (maxSteps := 4000000) only [↓wpA_H, ↓wpH_skip, ↓wpH_ret, ↓wpH_exit, ↓wpH_seq, ↓wpH_cond, ↓wpH_block, ↓wpH_region, iselH_if, bselH_false, runH_nil, runH_cons, gw, gselH_plain, gselH_if, kselH_1, cselH_bool, gkind, ↓chk, justK, noW, ↓oneK, ↓pureK, ↓heapK, ↓thenA_normal, ↓thenA_exit, ↓blockA_normal, ↓blockA_exit, ↓stepEv, opnd, Pg.look, binK, intOp, dstOf, Bool.false_eq_true, implies_true, imp_self, true_and, and_true, pickC, pickV, unc, gof, mux, mergeK, condsL, valV, heapV, footV, binV, intV, alives, aliveO, nxtQ, hdS, pairsA, frzA, closeQ_nil, closeQ_succ, diagQ_zero, diagQ_succ, mergeable, look_stripE, ofV, ofLeaf, sameK, retA, resK, tupA, subA, subQ, ptrsE, pairsO, frzO, subF, subG, pickOf, assocN, pairsE, pairsC, pairsL, pairs0, frzE, frzC, frzL, frz0, frzH, Pg.freeze, List.foldl_nil, subOs, subO, subEv, subV_succ, subM, subL, ldCells, objAt, ↓callT, callC, callV, normArgs, normA, resL, res8_eq, res_succ, resM, shiftR, shift1, AV.cells, TK.cells, AV.leaf, AV.leafy, putCells, Op.operands, Call.operands, Array.toList_append, List.getElem?_toArray, List.getElem?_cons_succ, List.getElem?_cons_zero, Option.bind_some, Option.getD_some, reduceCtorEq, Nat.reduceEqDiff, List.nil_append, List.append_nil, List.cons_append, List.length_cons, List.length_nil, List.map_cons, List.map_nil, List.set_cons_zero, Nat.zero_add, ite_true, ite_false, Option.some.injEq, Option.isSome_none, Bool.if_false_right, decide_eq_true_eq, decide_eq_false_iff_not, Int.not_le, Int.not_lt, List.all_cons, List.all_nil, Bool.and_self, and_self, exists_eq_left', List.toList_toArray, length_ofBytes, getD_ofBytes, set_ofBytes, cByte_dec, lOne_dec, lCons_dec, dec2_some, List.length_set, pureB_bytes, List.contains_nil, List.range'_zero, C1by_ns, C1by_pre, C1by_r, C1by_H, optP_some, optV_some, optH_some, Int.toNat_natCast, Nat.le_refl, Nat.zero_lt_succ, C1by_it, regH_none, isNext, nextF, nextG, selC_true, selC_false, pureC, ↓msel, muC, ↓callP, C1by_mu, tk5, dz5, tk32, kLess]
  refine ⟨fun h => ⟨h, by omega, by omega⟩, fun h => ⟨h, hq, by omega⟩, fun h => ⟨h, by omega, by omega⟩, fun h => ⟨h, hq, by omega⟩, fun h => ?_, fun h => ?_⟩
  · simp only [Bool.and_eq_true, decide_eq_true_eq] at h
    obtain ⟨k, rfl⟩ : ∃ k, j2 = k + 1 := ⟨j2 - 1, by omega⟩
    exact ⟨k, ⟨by omega, by omega, by rw [← hj3]; exact scanN_yes (by omega) h.2⟩, by omega, by decide, subX_eq rfl (pureB_bytes _), by rw [wrap64 (by omega) (by omega)]; omega⟩
  obtain rfl : j2 = J := by
    rw [← hj3, scanN_no]
    rintro ⟨h1, h2⟩
    have h2 : (!ltB (q.getD j2 0) (q.getD a 0)) = true := h2
    rw [h2, Bool.and_true, decide_eq_false_iff_not] at h
    omega
  refine ⟨fun hc => ?_, fun hc => ?_⟩
  · rw [if_pos (by omega)] at hP
    repeat (first | refine And.intro ⟨by omega, by omega⟩ ?_ | refine And.intro (by omega) ?_)
    rw [hP]
    exact ⟨by decide, subX_eq rfl (pureB_bytes _), rfl, rfl⟩
  rw [if_neg (by omega)] at g5
  obtain ⟨k2, rfl⟩ : ∃ k, j2 = k + 1 := ⟨j2 - 1, by omega⟩
  rw [Nat.add_sub_cancel] at g5
  repeat (first | refine And.intro ⟨by omega, by omega⟩ ?_ | refine And.intro (by omega) ?_)
  exact ⟨(i2 + 1, k2, swpL q i2 (k2 + 1)), ⟨by rw [swpL_len]; exact hq, by show a + 1 ≤ i2 + 1; omega, by show i2 + 1 ≤ b + 1; omega, by show a ≤ k2; omega, by show k2 ≤ b - 1; omega, g5⟩, by show k2 + 1 - (i2 + 1) < j1 + 1 - i1; omega, by decide, subX_eq rfl (pureB_bytes _), by rw [wrap64 (by omega) (by omega)]; rfl, by rw [wrap64 (by omega) (by omega)]; show ((k2 + 1 : Nat) : Int) - 1 = (k2 : Int); omega⟩
abbrev hABP : HL (List UInt8 × Int × Int × Int × Unit) := hCons hBys (hCons (hP .id (cInt .i64)) (hCons (hP .id (cInt .i64)) (hCons (hP .id (cInt .i64)) hNil)))
abbrev preP (d : List UInt8 × Int × Int × Int × Unit) : Prop := 0 ≤ d.2.1 ∧ d.2.1 ≤ d.2.2.2.1 ∧ d.2.2.2.1 < d.2.2.1 ∧ d.2.2.1 ≤ d.1.length ∧ d.1.length ≤ 1000
def kPart : C1 := C1.mby hABP preP (fun d => .tuple [.int .i64 (part d.2.1.toNat d.2.2.1.toNat d.2.2.2.1.toNat d.1).1, .bool (part d.2.1.toNat d.2.2.1.toNat d.2.2.2.1.toNat d.1).2.1]) (fun d => [.arr 5 1 (ofBytes (part d.2.1.toNat d.2.2.1.toNat d.2.2.2.1.toNat d.1).2.2)])
theorem ok_part : C1OK Try.prog 77 kPart := C1OK.mby (by kernel_rfl) (fun d h => by
  obtain ⟨l, a, b, p, u⟩ := d
  obtain ⟨h1, h2, h3, h4, h5⟩ := h
  have h1 : 0 ≤ a := h1
  have h2 : a ≤ p := h2
  have h3 : p < b := h3
  have h4 : b ≤ l.length := h4
  have h5 : l.length ≤ 1000 := h5
  have := calls_part l a.toNat b.toNat p.toNat (by omega) (by omega) (by omega) h5
  rw [show ((a.toNat : Nat) : Int) = a by omega, show ((b.toNat : Nat) : Int) = b by omega, show ((p.toNat : Nat) : Int) = p by omega] at this
  exact this) (fun _ _ => Nat.le_refl _)
end Go.Pg
namespace Go.Pg
open Go Go.Proofs

set_option maxRecDepth 20000 in
set_option maxHeartbeats 4000000 in
theorem calls_parE (l : List UInt8) (a b pv : Nat) (hap : a ≤ pv) (hpb : pv < b) (hb : b ≤ l.length) (hl : l.length ≤ 1000) :
    CallsR Try.prog 76 [.own 0 1 l.length, .int .i64 a, .int .i64 b, .int .i64 pv] [.arr 5 1 (ofBytes l)]
      (.int .i64 (partE a b pv l).1) [.arr 5 1 (ofBytes (partE a b pv l).2)] := by
  refine callsR_of (mrg := true) (dyn := []) (CtrOK.cons ok_Less (CtrOK.nil _)) mixed Try.func76 rfl (by simp [Try.ntmps76]) (by kernel_rfl) ?_
  rw [show Try.f76.results.toList = [.tmp 8] from by kernel_rfl]
  have w0 : IntKind.i64.wrap ((a : Int) + 1) = ((a + 1 : Nat) : Int) := by rw [wrap64 (by omega) (by omega)]; omega
  have w1 : IntKind.i64.wrap ((b : Int) - 1) = ((b - 1 : Nat) : Int) := by rw [wrap64 (by omega) (by omega)]; omega
  have hsw : ∀ (q : List UInt8) (i j : Nat), (q.set i (q.getD j 0)).set j (q.getD i 0) = swpL q i j := fun _ _ _ => rfl
  simp (maxSteps := 4000000) only [↓wpA_H, ↓wpH_seq, ↓wpH_block, ↓wpH_loop, ↓wpH_region, bselH_false, runH_nil, runH_cons, gw, gselH_plain, ↓chk, justK, noW, ↓oneK, ↓pureK, ↓heapK, envOf, ↓thenA_normal, ↓stepEv, opnd, Pg.look, binK, intOp, Bool.false_eq_true, implies_true, true_and, and_true, valV, heapV, footV, binV, intV, Nat.reduceAdd, ofV, ofLeaf, ldCells, objAt, AV.cells, TK.cells, AV.leaf, AV.leafy, putCells, List.getElem?_cons_zero, Option.getD_some, reduceCtorEq, Nat.reduceEqDiff, Nat.reduceAdd, List.length_cons, List.length_nil, List.set_cons_zero, Nat.zero_add, ite_true, ite_false, Option.some.injEq, Option.isSome_none, List.all_cons, List.all_nil, Bool.and_self, and_self, exists_eq_left', length_ofBytes, getD_ofBytes, set_ofBytes, List.length_set, List.contains_nil, Int.toNat_natCast, Nat.le_refl, Nat.zero_lt_succ, regH_none, isNext, nextF, nextG, selC_true, selC_false, pureC, C1by_mu, tk5, dz5, tk32, kLess, w0, w1, hsw]
  repeat (first | refine And.intro ⟨by omega, by omega⟩ ?_ | refine And.intro (by omega) ?_)
  have hP : partE a b pv l = eqL a (a + 1) (b - 1) (swpL l a pv) := rfl
  refine loopH_intro (α := Nat × Nat × List UInt8) (fun x => ([(9, .int .i64 x.1), (10, .int .i64 x.2.1), (0, .own 0 1 l.length), (1, .int .i64 a)], [.arr 5 1 (ofBytes x.2.2)]))
    (fun x => x.2.2.length = l.length ∧ a + 1 ≤ x.1 ∧ x.1 ≤ b + 1 ∧ a ≤ x.2.1 ∧ x.2.1 ≤ b - 1 ∧ eqL a x.1 x.2.1 x.2.2 = eqL a (a + 1) (b - 1) (swpL l a pv)) (fun x => x.2.1 + 1 - x.1) (a + 1, b - 1, swpL l a pv) ⟨swpL_len _ _ _, by show a + 1 ≤ a + 1; omega, by show a + 1 ≤ b + 1; omega, by show a ≤ b - 1; omega, by show b - 1 ≤ b - 1; omega, rfl⟩ ?_ ?_
  · simp (maxSteps := 4000000) only [Pg.look, true_and, and_true, alives, aliveO, nxtQ, hdS, pairsA, frzA, closeQ_nil, closeQ_succ, diagQ_zero, diagQ_succ, subA, subQ, ptrsE, pairsO, frzO, subF, subG, pickOf, assocN, pairsE, pairsC, pairs0, frzE, frzC, frz0, frzH, Pg.freeze, List.foldl_nil, subOs, subO, subEv, subV_succ, subM, List.getElem?_cons_zero, reduceCtorEq, Nat.reduceEqDiff, List.nil_append, List.append_nil, ite_true, ite_false, and_self, pureB_bytes, Nat.zero_lt_succ]
    exact ⟨by decide, subX_eq rfl (pureB_bytes _)⟩
  rintro ⟨i1, j1, q⟩ ⟨hq, g1, g2, g3, g4, g5⟩
  have hq : q.length = l.length := hq
  have g1 : a + 1 ≤ i1 := g1
  have g2 : i1 ≤ b + 1 := g2
  have g3 : a ≤ j1 := g3
  have g4 : j1 ≤ b - 1 := g4
  have g5 : eqL a i1 j1 q = eqL a (a + 1) (b - 1) (swpL l a pv) := g5
  rw [← g5] at hP
  rw [eqL_eq] at hP g5
  obtain ⟨I, hI⟩ : ∃ I, I = scanU (qU a q) q j1 i1 := ⟨_, rfl⟩
  have hI1 : i1 ≤ I := by rw [hI]; exact scanU_ge _ _ _ _
  rw [← hI] at hP g5
  obtain ⟨J, hJ⟩ : ∃ J, J = scanN (qD a q) q I j1 := ⟨_, rfl⟩
  have hJ1 : J ≤ j1 := by rw [hJ]; exact scanN_le _ _ _ _
  rw [← hJ] at hP g5
  simp (maxSteps := 4000000) only [↓wpA_H, ↓wpH_seq, ↓wpH_block, ↓wpH_loop]
  refine loopH_intro (α := Nat) (fun i => ([(9, .int .i64 i), (10, .int .i64 j1), (0, .own 0 1 l.length), (1, .int .i64 a)], [.arr 5 1 (ofBytes q)]))
    (fun i => i1 ≤ i ∧ i ≤ b + 1 ∧ scanU (qU a q) q j1 i = I) (fun i => b - i) i1 ⟨Nat.le_refl _, g2, hI.symm⟩ ?_ ?_
  · simp (maxSteps := 4000000) only [Pg.look, true_and, and_true, alives, aliveO, nxtQ, hdS, pairsA, frzA, closeQ_nil, closeQ_succ, diagQ_zero, diagQ_succ, subA, subQ, ptrsE, pairsO, frzO, subF, subG, pickOf, assocN, pairsE, pairsC, pairs0, frzE, frzC, frz0, frzH, Pg.freeze, List.foldl_nil, subOs, subO, subEv, subV_succ, subM, List.getElem?_cons_zero, reduceCtorEq, Nat.reduceEqDiff, List.nil_append, List.append_nil, ite_true, ite_false, and_self, pureB_bytes, Nat.zero_lt_succ]
    exact ⟨by decide, subX_eq rfl (pureB_bytes _)⟩
  rintro i2 ⟨hi1, hi2, hi3⟩
  have hi1 : i1 ≤ i2 := hi1
  have hi2 : i2 ≤ b + 1 := hi2
  have hi3 : scanU (qU a q) q j1 i2 = I := hi3
  simp (maxSteps := 4000000) only [↓wpA_H, ↓wpH_skip, ↓wpH_ret, ↓wpH_exit, ↓wpH_seq, ↓wpH_cond, ↓wpH_block, ↓wpH_loop, ↓wpH_region, iselH_if, bselH_false, runH_nil, runH_cons, gw, gselH_plain, gselH_if, kselH_1, cselH_bool, gkind, ↓chk, justK, noW, ↓oneK, ↓pureK, ↓heapK, ↓thenA_normal, ↓thenA_exit, ↓blockA_normal, ↓blockA_exit, ↓stepEv, opnd, Pg.look, binK, intOp, dstOf, Bool.false_eq_true, implies_true, imp_self, true_and, and_true, pickC, pickV, unc, gof, mux, mergeK, condsL, valV, heapV, footV, binV, intV, alives, aliveO, nxtQ, hdS, pairsA, frzA, closeQ_nil, closeQ_succ, diagQ_zero, diagQ_succ, mergeable, look_stripE, ofV, ofLeaf, sameK, retA, resK, tupA, subA, subQ, ptrsE, pairsO, frzO, subF, subG, pickOf, assocN, pairsE, pairsC, pairs0, frzE, frzC, frz0, frzH, Pg.freeze, List.foldl_nil, subOs, subO, subEv, subV_succ, subM, ldCells, objAt, ↓callT, callC, callV, normArgs, normA, resL, res8_eq, res_succ, resM, shiftR, shift1, AV.cells, TK.cells, Op.operands, Call.operands, Array.toList_append, List.getElem?_toArray, List.getElem?_cons_succ, List.getElem?_cons_zero, Option.bind_some, Option.getD_some, reduceCtorEq, Nat.reduceEqDiff, List.nil_append, List.append_nil, List.cons_append, List.length_cons, List.length_nil, List.map_cons, List.map_nil, Nat.zero_add, ite_true, ite_false, Option.some.injEq, Option.isSome_none, Bool.if_false_right, decide_eq_true_eq, decide_eq_false_iff_not, Int.not_le, Bool.and_self, and_self, exists_eq_left', List.toList_toArray, length_ofBytes, getD_ofBytes, cByte_dec, lOne_dec, lCons_dec, dec2_some, pureB_bytes, List.contains_nil, List.range'_zero, C1by_ns, C1by_pre, C1by_r, C1by_H, optP_some, optV_some, optH_some, Int.toNat_natCast, Nat.zero_lt_succ, C1by_it, regH_none, isNext, nextF, nextG, selC_true, selC_false, pureC, ↓msel, muC, ↓callP, C1by_mu, tk5, dz5, tk32, kLess]
  refine ⟨fun h => ⟨h, by omega, by omega⟩, fun h => ⟨h, hq, by omega⟩, fun h => ⟨h, by omega, by omega⟩, fun h => ⟨h, hq, by omega⟩, fun h => ?_, fun h => ?_⟩
  · simp only [Bool.and_eq_true, decide_eq_true_eq] at h
    exact ⟨i2 + 1, ⟨by omega, by omega, by rw [← hi3]; exact scanU_yes (by omega) h.2⟩, by omega, by decide, subX_eq rfl (pureB_bytes _), by rw [wrap64 (by omega) (by omega)]; rfl⟩
  obtain rfl : i2 = I := by
    rw [← hi3, scanU_no]
    rintro ⟨h1, h2⟩
    have h2 : (!ltB (q.getD a 0) (q.getD i2 0)) = true := h2
    rw [h2, Bool.and_true, decide_eq_false_iff_not] at h
    omega
  refine loopH_intro (α := Nat) (fun j => ([(9, .int .i64 i2), (10, .int .i64 j), (0, .own 0 1 l.length), (1, .int .i64 a)], [.arr 5 1 (ofBytes q)]))
    (fun j => a ≤ j ∧ j ≤ j1 ∧ scanN (qD a q) q i2 j = J) (fun j => j) j1 ⟨g3, Nat.le_refl _, hJ.symm⟩ ?_ ?_
  · simp (maxSteps := 4000000) only [Pg.look, true_and, and_true, alives, aliveO, nxtQ, hdS, pairsA, frzA, closeQ_nil, closeQ_succ, diagQ_zero, diagQ_succ, subA, subQ, ptrsE, pairsO, frzO, subF, subG, pickOf, assocN, pairsE, pairsC, pairs0, frzE, frzC, frz0, frzH, Pg.freeze, List.foldl_nil, subOs, subO, subEv, subV_succ, subM, List.getElem?_cons_zero, reduceCtorEq, Nat.reduceEqDiff, List.nil_append, List.append_nil, ite_true, ite_false, and_self, pureB_bytes, Nat.zero_lt_succ]
    exact ⟨by decide, subX_eq rfl (pureB_bytes _)⟩
  rintro j2 ⟨hj1, hj2, hj3⟩
  have hj1 : a ≤ j2 := hj1
  have hj2 : j2 ≤ j1 := hj2
  have hj3 : scanN (qD a q) q i2 j2 = J := hj3
  simp (maxSteps := 4000000) only [↓wpA_H, ↓wpH_skip, ↓wpH_ret, ↓wpH_exit, ↓wpH_seq, ↓wpH_cond, ↓wpH_block, ↓wpH_region, iselH_if, bselH_false, runH_nil, runH_cons, gw, gselH_plain, gselH_if, kselH_1, cselH_bool, gkind, ↓chk, justK, noW, ↓oneK, ↓pureK, ↓heapK, ↓thenA_normal, ↓thenA_exit, ↓blockA_normal, ↓blockA_exit, ↓stepEv, opnd, Pg.look, binK, intOp, dstOf, Bool.false_eq_true, implies_true, imp_self, true_and, and_true, pickC, pickV, unc, gof, mux, mergeK, condsL, valV, heapV, footV, binV, intV, alives, aliveO, nxtQ, hdS, pairsA, frzA, closeQ_nil, closeQ_succ, diagQ_zero, diagQ_succ, mergeable, look_stripE, ofV, ofLeaf, sameK, retA, resK, tupA, subA, subQ, ptrsE, pairsO, frzO, subF, subG, pickOf, assocN, pairsE, pairsC, pairs0, frzE, frzC, frz0, frzH, Pg.freeze, List.foldl_nil, subOs, subO, subEv, subV_succ, subM, ldCells, objAt, ↓callT, callC, callV, normArgs, normA, resL, res8_eq, res_succ, resM, shiftR, shift1, AV.cells, TK.cells, AV.leaf, AV.leafy, putCells, Op.operands, Call.operands, Array.toList_append, List.getElem?_toArray, List.getElem?_cons_succ, List.getElem?_cons_zero, Option.bind_some, Option.getD_some, reduceCtorEq, Nat.reduceEqDiff, List.nil_append, List.append_nil, List.cons_append, List.length_cons, List.length_nil, List.map_cons, List.map_nil, List.set_cons_zero, Nat.zero_add, ite_true, ite_false, Option.some.injEq, Option.isSome_none, Bool.if_false_right, decide_eq_true_eq, decide_eq_false_iff_not, Int.not_le, Int.not_lt, List.all_cons, List.all_nil, Bool.and_self, and_self, exists_eq_left', List.toList_toArray, length_ofBytes, getD_ofBytes, set_ofBytes, cByte_dec, lOne_dec, lCons_dec, dec2_some, List.length_set, pureB_bytes, List.contains_nil, List.range'_zero, C1by_ns, C1by_pre, C1by_r, C1by_H, optP_some, optV_some, optH_some, Int.toNat_natCast, Nat.le_refl, Nat.zero_lt_succ, C1by_it, regH_none, isNext, nextF, nextG, selC_true, selC_false, pureC, ↓msel, muC, ↓callP, C1by_mu, tk5, dz5, tk32, kLess]
  refine ⟨fun h => ⟨h, by omega, by omega⟩, fun h => ⟨h, hq, by omega⟩, fun h => ⟨h, by omega, by omega⟩, fun h => ⟨h, hq, by omega⟩, fun h => ?_, fun h => ?_⟩
  · simp only [Bool.and_eq_true, decide_eq_true_eq] at h
    obtain ⟨k, rfl⟩ : ∃ k, j2 = k + 1 := ⟨j2 - 1, by omega⟩
    exact ⟨k, ⟨by omega, by omega, by rw [← hj3]; exact scanN_yes (by omega) h.2⟩, by omega, by decide, subX_eq rfl (pureB_bytes _), by rw [wrap64 (by omega) (by omega)]; omega⟩
  obtain rfl : j2 = J := by
    rw [← hj3, scanN_no]
    rintro ⟨h1, h2⟩
    have h2 : ltB (q.getD a 0) (q.getD j2 0) = true := h2
    rw [h2, Bool.and_true, decide_eq_false_iff_not] at h
    omega
  refine ⟨fun hc => ?_, fun hc => ?_⟩
  · rw [if_pos (by omega)] at hP
    repeat (first | refine And.intro ⟨by omega, by omega⟩ ?_ | refine And.intro (by omega) ?_)
    rw [hP]
    exact ⟨by decide, subX_eq rfl (pureB_bytes _), rfl⟩
  rw [if_neg (by omega)] at g5
  obtain ⟨k2, rfl⟩ : ∃ k, j2 = k + 1 := ⟨j2 - 1, by omega⟩
  rw [Nat.add_sub_cancel] at g5
  repeat (first | refine And.intro ⟨by omega, by omega⟩ ?_ | refine And.intro (by omega) ?_)
  exact ⟨(i2 + 1, k2, swpL q i2 (k2 + 1)), ⟨by rw [swpL_len]; exact hq, by show a + 1 ≤ i2 + 1; omega, by show i2 + 1 ≤ b + 1; omega, by show a ≤ k2; omega, by show k2 ≤ b - 1; omega, g5⟩, by show k2 + 1 - (i2 + 1) < j1 + 1 - i1; omega, by decide, subX_eq rfl (pureB_bytes _), by rw [wrap64 (by omega) (by omega)]; rfl, by rw [wrap64 (by omega) (by omega)]; show ((k2 + 1 : Nat) : Int) - 1 = (k2 : Int); omega⟩
def kParE : C1 := C1.mby hABP preP (fun d => .int .i64 (partE d.2.1.toNat d.2.2.1.toNat d.2.2.2.1.toNat d.1).1) (fun d => [.arr 5 1 (ofBytes (partE d.2.1.toNat d.2.2.1.toNat d.2.2.2.1.toNat d.1).2)])
theorem ok_parE : C1OK Try.prog 76 kParE := C1OK.mby (by kernel_rfl) (fun d h => by
  obtain ⟨l, a, b, p, u⟩ := d
  obtain ⟨h1, h2, h3, h4, h5⟩ := h
  have h1 : 0 ≤ a := h1
  have h2 : a ≤ p := h2
  have h3 : p < b := h3
  have h4 : b ≤ l.length := h4
  have h5 : l.length ≤ 1000 := h5
  have := calls_parE l a.toNat b.toNat p.toNat (by omega) (by omega) (by omega) h5
  rw [show ((a.toNat : Nat) : Int) = a by omega, show ((b.toNat : Nat) : Int) = b by omega, show ((p.toNat : Nat) : Int) = p by omega] at this
  exact this) (fun _ _ => Nat.le_refl _)
end Go.Pg
namespace Go.Pg
open Go Go.Proofs

set_option maxRecDepth 20000 in
set_option maxHeartbeats 4000000 in
theorem calls_ord2 (l : List UInt8) (a b s : Nat) (ha : a < l.length) (hb : b < l.length) (hl : l.length ≤ 1000) (hs : s ≤ 1000) :
    CallsR Try.prog 86 [.own 0 1 l.length, .int .i64 a, .int .i64 b, .ptr 1 1 1 0 0] [.arr 5 1 (ofBytes l), .arr 3 1 [.int .i64 s]]
      (.tuple [.int .i64 (ord2 l a b s).1, .int .i64 (ord2 l a b s).2.1]) [.arr 5 1 (ofBytes l), .arr 3 1 [.int .i64 (ord2 l a b s).2.2]] := by
  refine callsR_of (mrg := true) (dyn := []) (CtrOK.cons ok_Less (CtrOK.nil _)) mixed Try.func86 rfl (by simp [Try.ntmps86]) (by kernel_rfl) ?_
  rw [show Try.f86.results.toList = [.tmp 8, .tmp 9] from by kernel_rfl]
  have ho := ord2_eq l a b s
  have w : IntKind.i64.wrap ((s : Int) + 1) = ((s + 1 : Nat) : Int) := by rw [wrap64 (by omega) (by omega)]; omega
  cases hL : ltB (l.getD b 0) (l.getD a 0) with
  | true =>
    rw [hL, if_pos rfl] at ho
    rw [ho]
    simp (maxSteps := 4000000) only [↓wpA_H, ↓wpH_ret, ↓wpH_seq, ↓wpH_cond, ↓wpH_region, ↓iselH_true, bselH_false, runH_nil, runH_cons, gw, gselH_plain, cselH_bool, ↓chk, justK, noW, ↓oneK, ↓pureK, ↓heapK, envOf, ↓thenA_normal, ↓thenA_ret, ↓stepEv, opnd, Pg.look, binK, intOp, Bool.false_eq_true, implies_true, true_and, and_true, valV, heapV, footV, binV, intV, alives, aliveO, nxtQ, hdS, pairsA, frzA, closeQ_nil, closeQ_succ, diagQ_zero, diagQ_succ, Nat.reduceAdd, ofV, ofLeaf, retA, resK, tupA, subA, subQ, ptrsE, pairsO, frzO, subF, subG, pickOf, assocN, pairsE, pairsC, pairsL, pairs0, frzE, frzC, frzL, frz0, frzH, Pg.freeze, List.foldl_nil, subOs, subO, subEv, subV_succ, subM, subL, ldCells, objAt, ↓callT, callC, callV, callH, normArgs, normA, resL, res8_eq, res_succ, resM, shiftR, shift1, AV.cells, TK.cells, AV.leaf, AV.leafy, AV.pureLeaf, AV.pureB, putCells, List.getElem?_cons_succ, List.getElem?_cons_zero, Option.getD_some, reduceCtorEq, Nat.reduceEqDiff, Nat.reduceAdd, Nat.reduceLT, List.nil_append, List.append_nil, List.length_cons, List.length_nil, List.map_cons, List.map_nil, List.set_cons_zero, List.set_cons_succ, Nat.zero_add, ite_true, ite_false, Option.some.injEq, Option.isSome_none, List.all_cons, List.all_nil, Bool.and_self, and_self, exists_eq_left', length_ofBytes, getD_ofBytes, cByte_dec, lOne_dec, lCons_dec, dec2_some, pureB_bytes, List.contains_nil, List.range'_zero, C1by_ns, C1by_pre, C1by_r, C1by_H, optP_some, optV_some, optH_some, Int.toNat_natCast, List.getD_cons_zero, Nat.le_refl, Nat.zero_lt_succ, C1by_it, regH_none, isNext, nextF, nextG, selC_true, selC_false, pureC, ↓msel, muC, ↓callP, C1by_mu, tk3, dz3, tk5, dz5, tk32, kLess, hL, w]
    repeat (first | refine And.intro ⟨by omega, by omega⟩ ?_ | refine And.intro (by omega) ?_)
    refine ⟨by decide, subX_eq rfl (pureB_bytes _), subX_one ?_⟩
    simp (maxSteps := 4000000) only [subV_succ, subM, subL, AV.cells, and_self]
  | false =>
    rw [hL, if_neg (by simp)] at ho
    rw [ho]
    simp (maxSteps := 4000000) only [↓wpA_H, ↓wpH_skip, ↓wpH_ret, ↓wpH_seq, ↓wpH_cond, ↓wpH_region, ↓iselH_false, bselH_false, runH_nil, runH_cons, gw, gselH_plain, cselH_bool, ↓chk, justK, noW, ↓oneK, ↓pureK, ↓heapK, envOf, ↓thenA_normal, ↓stepEv, opnd, Pg.look, Bool.false_eq_true, implies_true, true_and, and_true, valV, heapV, footV, alives, aliveO, nxtQ, hdS, pairsA, frzA, closeQ_nil, closeQ_succ, diagQ_zero, diagQ_succ, Nat.reduceAdd, ofV, ofLeaf, retA, resK, tupA, subA, subQ, ptrsE, pairsO, frzO, subF, subG, pickOf, assocN, pairsE, pairsC, pairsL, pairs0, frzE, frzC, frzL, frz0, frzH, Pg.freeze, List.foldl_nil, subOs, subO, subEv, subV_succ, subM, subL, ldCells, objAt, ↓callT, callC, callV, callH, normArgs, normA, resL, res8_eq, res_succ, resM, shiftR, shift1, AV.cells, TK.cells, AV.pureLeaf, AV.pureB, List.getElem?_cons_succ, List.getElem?_cons_zero, Option.getD_some, reduceCtorEq, Nat.reduceEqDiff, Nat.reduceAdd, Nat.reduceLT, List.nil_append, List.append_nil, List.length_cons, List.length_nil, List.map_cons, List.map_nil, Nat.zero_add, ite_true, ite_false, Option.some.injEq, Option.isSome_none, List.all_cons, List.all_nil, Bool.and_self, and_self, exists_eq_left', length_ofBytes, getD_ofBytes, cByte_dec, lOne_dec, lCons_dec, dec2_some, pureB_bytes, List.contains_nil, List.range'_zero, C1by_ns, C1by_pre, C1by_r, C1by_H, optP_some, optV_some, optH_some, Int.toNat_natCast, Nat.zero_lt_succ, C1by_it, regH_none, isNext, nextF, nextG, selC_true, selC_false, pureC, ↓msel, muC, ↓callP, C1by_mu, tk5, dz5, tk32, kLess, hL]
    repeat (first | refine And.intro ⟨by omega, by omega⟩ ?_ | refine And.intro (by omega) ?_)
    refine ⟨by decide, subX_eq rfl (pureB_bytes _), subX_one ?_⟩
    simp (maxSteps := 4000000) only [subV_succ, subM, subL, AV.cells, and_self]

abbrev hAC : HL (List UInt8 × Int × Int × Int × Unit) := hCons hBys (hCons (hP .id (cInt .i64)) (hCons (hP .id (cInt .i64)) (hCons (hBox 3 1 (hP .id (cInt .i64))) hNil)))
def kOrd2 : C1 := C1.mby hAC (fun d => 0 ≤ d.2.1 ∧ d.2.1 < d.1.length ∧ 0 ≤ d.2.2.1 ∧ d.2.2.1 < d.1.length ∧ d.1.length ≤ 1000 ∧ 0 ≤ d.2.2.2.1 ∧ d.2.2.2.1 ≤ 1000)
  (fun d => .tuple [.int .i64 (ord2 d.1 d.2.1.toNat d.2.2.1.toNat d.2.2.2.1.toNat).1, .int .i64 (ord2 d.1 d.2.1.toNat d.2.2.1.toNat d.2.2.2.1.toNat).2.1])
  (fun d => [.arr 5 1 (ofBytes d.1), .arr 3 1 [.int .i64 (ord2 d.1 d.2.1.toNat d.2.2.1.toNat d.2.2.2.1.toNat).2.2]])
theorem ok_ord2 : C1OK Try.prog 86 kOrd2 := C1OK.mby (by kernel_rfl) (fun d h => by
  obtain ⟨l, a, b, s, u⟩ := d
  obtain ⟨h1, h2, h3, h4, h5, h6, h7⟩ := h
  have h1 : 0 ≤ a := h1
  have h2 : a < l.length := h2
  have h3 : 0 ≤ b := h3
  have h4 : b < l.length := h4
  have h5 : l.length ≤ 1000 := h5
  have h6 : 0 ≤ s := h6
  have h7 : s ≤ 1000 := h7
  have := calls_ord2 l a.toNat b.toNat s.toNat (by omega) (by omega) h5 (by omega)
  rw [show ((a.toNat : Nat) : Int) = a by omega, show ((b.toNat : Nat) : Int) = b by omega, show ((s.toNat : Nat) : Int) = s by omega] at this
  exact this) (fun _ _ => Nat.le_refl _)

theorem ord2_mem (l : List UInt8) (a b s : Nat) (P : Nat → Prop) (ha : P a) (hb : P b) : P (ord2 l a b s).1 ∧ P (ord2 l a b s).2.1 ∧ (ord2 l a b s).2.2 ≤ s + 1 := by
  rw [ord2_eq]
  split
  · exact ⟨hb, ha, Nat.le_refl _⟩
  · exact ⟨ha, hb, Nat.le_succ _⟩
theorem med_mem (l : List UInt8) (a b c s : Nat) (P : Nat → Prop) (ha : P a) (hb : P b) (hc : P c) : P (med l a b c s).1 ∧ (med l a b c s).2 ≤ s + 3 := by
  rw [med_eq]
  obtain ⟨a1, b1, s1⟩ := ord2_mem l a b s P ha hb
  obtain ⟨a2, b2, s2⟩ := ord2_mem l (ord2 l a b s).2.1 c (ord2 l a b s).2.2 P b1 hc
  obtain ⟨a3, b3, s3⟩ := ord2_mem l (ord2 l a b s).1 (ord2 l (ord2 l a b s).2.1 c (ord2 l a b s).2.2).1 (ord2 l (ord2 l a b s).2.1 c (ord2 l a b s).2.2).2.2 P a1 a2
  exact ⟨b3, by omega⟩

set_option maxRecDepth 20000 in
set_option maxHeartbeats 4000000 in
theorem calls_med (l : List UInt8) (a b c s : Nat) (ha : a < l.length) (hb : b < l.length) (hc : c < l.length) (hl : l.length ≤ 1000) (hs : s ≤ 100) :
    CallsR Try.prog 84 [.own 0 1 l.length, .int .i64 a, .int .i64 b, .int .i64 c, .ptr 1 1 1 0 0] [.arr 5 1 (ofBytes l), .arr 3 1 [.int .i64 s]]
      (.int .i64 (med l a b c s).1) [.arr 5 1 (ofBytes l), .arr 3 1 [.int .i64 (med l a b c s).2]] := by
  refine callsR_of (mrg := true) (dyn := []) (CtrOK.cons ok_ord2 (CtrOK.nil _)) mixed Try.func84 rfl (by simp [Try.ntmps84]) (by kernel_rfl) ?_
  rw [show Try.f84.results.toList = [.tmp 10] from by kernel_rfl]
  rw [med_eq]
  obtain ⟨a1, b1, s1⟩ := ord2_mem l a b s (fun x => x < l.length) ha hb
  obtain ⟨r1, hr1⟩ : ∃ r, r = ord2 l a b s := ⟨_, rfl⟩
  rw [← hr1] at a1 b1 s1 ⊢
  obtain ⟨a2, b2, s2⟩ := ord2_mem l r1.2.1 c r1.2.2 (fun x => x < l.length) b1 hc
  obtain ⟨r2, hr2⟩ : ∃ r, r = ord2 l r1.2.1 c r1.2.2 := ⟨_, rfl⟩
  rw [← hr2] at a2 b2 s2 ⊢
  obtain ⟨r3, hr3⟩ : ∃ r, r = ord2 l r1.1 r2.1 r2.2.2 := ⟨_, rfl⟩
  rw [← hr3]
  simp (maxSteps := 4000000) only [↓wpA_H, ↓wpH_ret, ↓wpH_seq, ↓wpH_region, bselH_false, runH_nil, runH_cons, gw, gselH_plain, ↓chk, justK, ↓oneK, ↓pureK, envOf, ↓thenA_normal, ↓stepEv, opnd, Pg.look, Bool.not_false, Bool.false_eq_true, implies_true, true_and, and_true, valV, heapV, footV, alives, aliveO, nxtQ, hdS, pairsA, frzA, closeQ_nil, closeQ_succ, diagQ_zero, diagQ_succ, Nat.reduceAdd, ofV, ofLeaf, retA, resK, tupA, subA, subQ, ptrsE, pairsO, frzO, subF, subG, pickOf, assocN, pairsE, pairsC, pairs0, frzE, frzC, frz0, frzH, Pg.freeze, List.foldl_nil, subOs, subO, subEv, subV_succ, subM, ↓callT, normA, res8_eq, res_succ, resM, AV.cells, AV.pureLeaf, AV.pureB, List.getElem?_cons_succ, List.getElem?_cons_zero, Option.getD_some, reduceCtorEq, Nat.reduceEqDiff, Nat.reduceAdd, Nat.reduceLT, Nat.reduceSub, List.nil_append, List.append_nil, List.cons_append, List.length_cons, List.length_nil, List.map_cons, List.map_nil, List.set_cons_zero, List.set_cons_succ, Nat.zero_add, ite_true, ite_false, Option.some.injEq, List.all_cons, List.all_nil, Bool.and_self, and_self, exists_eq_left', cInt_dec, length_ofBytes, decL_byte, pureB_bytes, List.contains_cons, List.contains_nil, Nat.reduceBEq, Bool.or_self, List.range'_zero, Int.toNat_natCast, Nat.sub_self, Nat.zero_lt_succ, regH_none, isNext, nextF, nextG, selC_false, ↓msel, muC, ↓callU, ↓callUV, ↓callUH, ↓callUF, C1mby_mu, runM_eq, mkM_some, hNil_dec, hCons_dec, app3_some, hP_dec, hP1_some, hP2_some, hO1_some, hO2_arr, hOwn_dec, hB1_some, hB2_arr, hBox_dec, pickF, nodupB, somes, fresh, gids, putO, ren, renL, renO, kOrd2, renL_bytes, ← hr1, ← hr2, ← hr3]
  refine ⟨⟨by omega, by omega, by omega, by omega, by omega, by omega, by omega⟩, ⟨by omega, by omega, by omega, by omega, by omega, by omega, by omega⟩, ⟨by omega, by omega, by omega, by omega, by omega, by omega, by omega⟩, by decide, subX_eq rfl (pureB_bytes _), subX_one ?_⟩
  simp (maxSteps := 4000000) only [subV_succ, subM, subL, AV.cells, and_self]
def kMed : C1 := C1.mby (hCons hBys (hCons (hP .id (cInt .i64)) (hCons (hP .id (cInt .i64)) (hCons (hP .id (cInt .i64)) (hCons (hBox 3 1 (hP .id (cInt .i64))) hNil)))))
  (fun d => 0 ≤ d.2.1 ∧ d.2.1 < d.1.length ∧ 0 ≤ d.2.2.1 ∧ d.2.2.1 < d.1.length ∧ 0 ≤ d.2.2.2.1 ∧ d.2.2.2.1 < d.1.length ∧ d.1.length ≤ 1000 ∧ 0 ≤ d.2.2.2.2.1 ∧ d.2.2.2.2.1 ≤ 100)
  (fun d => .int .i64 (med d.1 d.2.1.toNat d.2.2.1.toNat d.2.2.2.1.toNat d.2.2.2.2.1.toNat).1)
  (fun d => [.arr 5 1 (ofBytes d.1), .arr 3 1 [.int .i64 (med d.1 d.2.1.toNat d.2.2.1.toNat d.2.2.2.1.toNat d.2.2.2.2.1.toNat).2]])
theorem ok_med : C1OK Try.prog 84 kMed := C1OK.mby (by kernel_rfl) (fun d h => by
  obtain ⟨l, a, b, c, s, u⟩ := d
  obtain ⟨h1, h2, h3, h4, g1, g2, h5, h6, h7⟩ := h
  have h1 : 0 ≤ a := h1
  have h2 : a < l.length := h2
  have h3 : 0 ≤ b := h3
  have h4 : b < l.length := h4
  have g1 : 0 ≤ c := g1
  have g2 : c < l.length := g2
  have h5 : l.length ≤ 1000 := h5
  have h6 : 0 ≤ s := h6
  have h7 : s ≤ 100 := h7
  have := calls_med l a.toNat b.toNat c.toNat s.toNat (by omega) (by omega) (by omega) h5 (by omega)
  rw [show ((a.toNat : Nat) : Int) = a by omega, show ((b.toNat : Nat) : Int) = b by omega, show ((c.toNat : Nat) : Int) = c by omega, show ((s.toNat : Nat) : Int) = s by omega] at this
  exact this) (fun _ _ => Nat.le_refl _)

def chP (a b : Nat) (l : List UInt8) : Nat × Nat := med l (a + (b - a) / 4 * 1) (a + (b - a) / 4 * 2) (a + (b - a) / 4 * 3) 0
def chI (a b : Nat) (l : List UInt8) : Int := if (chP a b l).2 = 0 then 1 else 0
theorem chP_mem {a b : Nat} (l : List UInt8) (h : a + 8 ≤ b) : a ≤ (chP a b l).1 ∧ (chP a b l).1 < b ∧ (chP a b l).2 ≤ 3 := by
  obtain ⟨h1, h2⟩ := med_mem l (a + (b - a) / 4 * 1) (a + (b - a) / 4 * 2) (a + (b - a) / 4 * 3) 0 (fun x => a ≤ x ∧ x < b) (by omega) (by omega) (by omega)
  exact ⟨h1.1, h1.2, by unfold chP; omega⟩
theorem chP_eq {a b : Nat} (l : List UInt8) (h : a + 8 ≤ b) (h2 : b < a + 50) : Sort.choosePivot ltB l.toArray a b = ((chP a b l).1, if (chP a b l).2 = 0 then .increasing else .unknown) := by
  unfold Sort.choosePivot
  simp only [if_pos (show b - a ≥ 8 by omega), if_neg (show ¬ b - a ≥ 50 by omega)]
  show ((chP a b l).1, if (chP a b l).2 = 0 then Sort.Hint.increasing else if (chP a b l).2 = 12 then Sort.Hint.decreasing else Sort.Hint.unknown) = _
  have := (chP_mem l h).2.2
  rw [if_neg (show ¬ (chP a b l).2 = 12 by omega)]

set_option maxRecDepth 20000 in
set_option maxHeartbeats 4000000 in
theorem calls_choose (l : List UInt8) (a b : Nat) (h8 : a + 8 ≤ b) (h50 : b < a + 50) (hb : b ≤ l.length) (hl : l.length ≤ 1000) :
    CallsR Try.prog 72 [.own 0 1 l.length, .int .i64 a, .int .i64 b] [.arr 5 1 (ofBytes l)]
      (.tuple [.int .i64 (chP a b l).1, .int .i64 (chI a b l)]) [.arr 5 1 (ofBytes l)] := by
  refine callsR_of (mrg := true) (dyn := []) (CtrOK.cons ok_med (CtrOK.nil _)) mixed Try.func72 rfl (by simp [Try.ntmps72]) (by kernel_rfl) ?_
  rw [show Try.f72.results.toList = [.tmp 6, .tmp 7] from by kernel_rfl]
  obtain ⟨n, rfl⟩ : ∃ n, b = a + n := ⟨b - a, by omega⟩
  obtain ⟨q, hq⟩ : ∃ q, q = n / 4 := ⟨_, rfl⟩
  have hm := chP_mem l h8
  have hr : chP a (a + n) l = med l (a + q) (a + q * 2) (a + q * 3) 0 := by unfold chP; rw [Nat.add_sub_cancel_left, hq, Nat.mul_one]
  have hI : chI a (a + n) l = if (chP a (a + n) l).2 = 0 then 1 else 0 := rfl
  obtain ⟨r, hr0⟩ : ∃ r, r = chP a (a + n) l := ⟨_, rfl⟩
  rw [← hr0] at hm hr hI ⊢
  rw [hI]
  have w0 : IntKind.i64.wrap (((a + n : Nat) : Int) - (a : Int)) = (n : Int) := by rw [wrap64 (by omega) (by omega)]; omega
  have w1 : IntKind.i64.wrap ((n : Int).tdiv 4) = (q : Int) := by
    rw [show (n : Int).tdiv 4 = ((n / 4 : Nat) : Int) from rfl, wrap64 (by omega) (by omega), hq]
  have v1 : IntKind.i64.wrap ((q : Int) * 1) = (q : Int) := by rw [wrap64 (by omega) (by omega)]; omega
  have v2 : IntKind.i64.wrap ((q : Int) * 2) = ((q * 2 : Nat) : Int) := by rw [wrap64 (by omega) (by omega)]; omega
  have v3 : IntKind.i64.wrap ((q : Int) * 3) = ((q * 3 : Nat) : Int) := by rw [wrap64 (by omega) (by omega)]; omega
  have u1 : IntKind.i64.wrap ((a : Int) + (q : Int)) = ((a + q : Nat) : Int) := by rw [wrap64 (by omega) (by omega)]; omega
  have u2 : IntKind.i64.wrap ((a : Int) + ((q * 2 : Nat) : Int)) = ((a + q * 2 : Nat) : Int) := by rw [wrap64 (by omega) (by omega)]; omega
  have u3 : IntKind.i64.wrap ((a : Int) + ((q * 3 : Nat) : Int)) = ((a + q * 3 : Nat) : Int) := by rw [wrap64 (by omega) (by omega)]; omega
  have c8 : decide ((n : Int) ≥ 8) = true := decide_eq_true (by omega)
  have c50 : decide ((n : Int) ≥ 50) = false := decide_eq_false (by omega)
  have c12 : ((r.2 : Int) == 12) = false := by simp; omega
  by_cases hz : r.2 = 0
  · have cz : ((r.2 : Int) == 0) = true := by simp; omega
    rw [if_pos hz]
    simp (maxSteps := 4000000) only [↓wpA_H, ↓wpH_skip, ↓wpH_ret, ↓wpH_seq, ↓wpH_cond, ↓wpH_block, ↓wpH_region, ↓iselH_true, ↓iselH_false, bselH_false, runH_nil, runH_cons, gw, gselH_plain, cselH_bool, ↓chk, justK, noW, ↓oneK, ↓pureK, ↓heapK, envOf, ↓thenA_normal, ↓blockA_ret, ↓stepEv, opnd, Pg.look, binK, intOp, Bool.not_false, Bool.false_eq_true, implies_true, true_and, and_true, valV, heapV, footV, binV, intV, alives, aliveO, nxtQ, hdS, pairsA, frzA, closeQ_nil, closeQ_succ, diagQ_zero, diagQ_succ, Nat.reduceAdd, ofV, ofLeaf, retA, resK, tupA, subA, subQ, ptrsE, pairsO, frzO, subF, subG, pickOf, assocN, pairsE, pairsC, pairsL, pairs0, frzE, frzC, frzL, frz0, frzH, Pg.freeze, List.foldl_nil, subOs, subO, subEv, subV_succ, subM, subL, ldCells, objAt, ↓callT, normA, res8_eq, res_succ, resM, AV.cells, TK.cells, AV.definite, List.getElem?_cons_succ, List.getElem?_cons_zero, Option.getD_some, reduceCtorEq, Nat.reduceEqDiff, Nat.reduceAdd, Nat.reduceSub, List.nil_append, List.append_nil, List.cons_append, List.length_cons, List.length_nil, List.map_cons, List.map_nil, List.set_cons_zero, List.set_cons_succ, Nat.zero_add, Int.reduceToNat, ite_true, ite_false, Option.some.injEq, ne_eq, List.all_cons, List.all_nil, Bool.and_self, and_self, exists_eq_left', cInt_dec, length_ofBytes, Int.reduceLE, decL_byte, pureB_bytes, List.contains_cons, List.contains_nil, Nat.reduceBEq, Bool.or_self, List.range'_zero, Int.toNat_natCast, List.getD_cons_zero, Nat.sub_self, Nat.zero_lt_succ, regH_none, isNext, nextF, nextG, selC_false, ↓msel, muC, ↓callU, ↓callUV, ↓callUH, ↓callUF, C1mby_mu, runM_eq, mkM_some, hNil_dec, hCons_dec, app3_some, hP_dec, hP1_some, hP2_some, hO1_some, hO2_arr, hOwn_dec, hB1_some, hB2_arr, hBox_dec, pickF, nodupB, somes, fresh, gids, putO, ren, renL, renO, tk3, tz3, dz3, kMed, w0, w1, v1, v2, v3, u1, u2, u3, c8, c50, cz, renL_bytes, ← hr]
    exact ⟨by decide, by decide, by decide, ⟨by omega, by omega, by omega, by omega, by omega, by omega, by omega⟩, by decide, subX_eq rfl (pureB_bytes _)⟩
  · have cz : ((r.2 : Int) == 0) = false := by simp; omega
    rw [if_neg hz]
    simp (maxSteps := 4000000) only [↓wpA_H, ↓wpH_skip, ↓wpH_ret, ↓wpH_seq, ↓wpH_cond, ↓wpH_block, ↓wpH_region, ↓iselH_true, ↓iselH_false, bselH_false, runH_nil, runH_cons, gw, gselH_plain, cselH_bool, ↓chk, justK, noW, ↓oneK, ↓pureK, ↓heapK, envOf, ↓thenA_normal, ↓blockA_ret, ↓stepEv, opnd, Pg.look, binK, intOp, Bool.not_false, Bool.false_eq_true, implies_true, true_and, and_true, valV, heapV, footV, binV, intV, alives, aliveO, nxtQ, hdS, pairsA, frzA, closeQ_nil, closeQ_succ, diagQ_zero, diagQ_succ, Nat.reduceAdd, ofV, ofLeaf, retA, resK, tupA, subA, subQ, ptrsE, pairsO, frzO, subF, subG, pickOf, assocN, pairsE, pairsC, pairsL, pairs0, frzE, frzC, frzL, frz0, frzH, Pg.freeze, List.foldl_nil, subOs, subO, subEv, subV_succ, subM, subL, ldCells, objAt, ↓callT, normA, res8_eq, res_succ, resM, AV.cells, TK.cells, AV.definite, List.getElem?_cons_succ, List.getElem?_cons_zero, Option.getD_some, reduceCtorEq, Nat.reduceEqDiff, Nat.reduceAdd, Nat.reduceSub, List.nil_append, List.append_nil, List.cons_append, List.length_cons, List.length_nil, List.map_cons, List.map_nil, List.set_cons_zero, List.set_cons_succ, Nat.zero_add, Int.reduceToNat, ite_true, ite_false, Option.some.injEq, ne_eq, List.all_cons, List.all_nil, Bool.and_self, and_self, exists_eq_left', cInt_dec, length_ofBytes, Int.reduceLE, decL_byte, pureB_bytes, List.contains_cons, List.contains_nil, Nat.reduceBEq, Bool.or_self, List.range'_zero, Int.toNat_natCast, List.getD_cons_zero, Nat.sub_self, Nat.zero_lt_succ, regH_none, isNext, nextF, nextG, selC_false, ↓msel, muC, ↓callU, ↓callUV, ↓callUH, ↓callUF, C1mby_mu, runM_eq, mkM_some, hNil_dec, hCons_dec, app3_some, hP_dec, hP1_some, hP2_some, hO1_some, hO2_arr, hOwn_dec, hB1_some, hB2_arr, hBox_dec, pickF, nodupB, somes, fresh, gids, putO, ren, renL, renO, tk3, tz3, dz3, kMed, w0, w1, v1, v2, v3, u1, u2, u3, c8, c50, c12, cz, renL_bytes, ← hr]
    exact ⟨by decide, by decide, by decide, ⟨by omega, by omega, by omega, by omega, by omega, by omega, by omega⟩, by decide, subX_eq rfl (pureB_bytes _)⟩
def kChoose : C1 := C1.mby hAB (fun d => 0 ≤ d.2.1 ∧ d.2.1 + 8 ≤ d.2.2.1 ∧ d.2.2.1 < d.2.1 + 50 ∧ d.2.2.1 ≤ d.1.length ∧ d.1.length ≤ 1000) (fun d => .tuple [.int .i64 (chP d.2.1.toNat d.2.2.1.toNat d.1).1, .int .i64 (chI d.2.1.toNat d.2.2.1.toNat d.1)]) (fun d => [.arr 5 1 (ofBytes d.1)])
theorem ok_choose : C1OK Try.prog 72 kChoose := C1OK.mby (by kernel_rfl) (fun d h => by
  obtain ⟨l, a, b, u⟩ := d
  obtain ⟨h1, h2, h3, h4, h5⟩ := h
  have h1 : 0 ≤ a := h1
  have h2 : a + 8 ≤ b := h2
  have h3 : b < a + 50 := h3
  have h4 : b ≤ l.length := h4
  have h5 : l.length ≤ 1000 := h5
  have := calls_choose l a.toNat b.toNat (by omega) (by omega) (by omega) h5
  rw [show ((a.toNat : Nat) : Int) = a by omega, show ((b.toNat : Nat) : Int) = b by omega] at this
  exact this) (fun _ _ => Nat.le_refl _)

set_option maxRecDepth 20000 in
set_option maxHeartbeats 4000000 in
theorem calls_partial (l : List UInt8) (a b : Nat) (h8 : a < b) (h50 : b < a + 50) (hb : b ≤ l.length) (hl : l.length ≤ 1000) :
    CallsR Try.prog 74 [.own 0 1 l.length, .int .i64 a, .int .i64 b] [.arr 5 1 (ofBytes l)]
      (.bool (decide (scanS l b (a + 1) = b))) [.arr 5 1 (ofBytes l)] := by
  refine callsR_of (mrg := true) (dyn := []) (CtrOK.cons ok_Less (CtrOK.nil _)) mixed Try.func74 rfl (by simp [Try.ntmps74]) (by kernel_rfl) ?_
  rw [show Try.f74.results.toList = [.tmp 6] from by kernel_rfl]
  have w0 : IntKind.i64.wrap ((a : Int) + 1) = ((a + 1 : Nat) : Int) := by rw [wrap64 (by omega) (by omega)]; omega
  have w1 : IntKind.i64.wrap ((b : Int) - (a : Int)) = ((b - a : Nat) : Int) := by rw [wrap64 (by omega) (by omega)]; omega
  have c50 : decide (((b - a : Nat) : Int) < 50) = true := decide_eq_true (by omega)
  obtain ⟨I, hI⟩ : ∃ I, I = scanS l b (a + 1) := ⟨_, rfl⟩
  rw [← hI]
  simp (maxSteps := 4000000) only [↓wpA_H, ↓wpH_seq, ↓wpH_block, ↓wpH_loop, ↓wpH_region, bselH_false, runH_nil, runH_cons, gw, gselH_plain, ↓chk, justK, ↓oneK, ↓pureK, envOf, ↓thenA_normal, ↓stepEv, opnd, Pg.look, binK, intOp, Bool.false_eq_true, implies_true, true_and, valV, heapV, footV, binV, intV, Nat.reduceAdd, ofV, ofLeaf, reduceCtorEq, Nat.reduceEqDiff, Nat.reduceAdd, List.length_cons, List.length_nil, Nat.zero_add, ite_true, ite_false, and_self, List.contains_nil, regH_none, isNext, nextF, nextG, selC_false, kLess, w0]
  refine loopH_intro (α := Unit) (fun _ => ([(8, .int .i64 0), (7, .int .i64 (a + 1 : Nat)), (0, .own 0 1 l.length), (1, .int .i64 a), (2, .int .i64 b)], [.arr 5 1 (ofBytes l)])) (fun _ => True) (fun _ => 0) () trivial ?_ ?_
  · simp (maxSteps := 4000000) only [Pg.look, true_and, and_true, alives, aliveO, nxtQ, hdS, pairsA, frzA, closeQ_nil, closeQ_succ, diagQ_zero, diagQ_succ, subA, subQ, ptrsE, pairsO, frzO, subF, subG, pickOf, assocN, pairsE, pairsC, pairs0, frzE, frzC, frz0, frzH, Pg.freeze, List.foldl_nil, subOs, subO, subEv, subV_succ, subM, List.getElem?_cons_zero, reduceCtorEq, Nat.reduceEqDiff, List.nil_append, List.append_nil, ite_true, ite_false, and_self, pureB_bytes, Nat.zero_lt_succ]
    exact ⟨by decide, subX_eq rfl (pureB_bytes _)⟩
  intro _ _
  simp (maxSteps := 4000000) only [↓wpA_H, ↓wpH_skip, ↓wpH_ret, ↓wpH_exit, ↓wpH_seq, ↓wpH_cond, ↓wpH_block, ↓wpH_loop, ↓wpH_region, iselH_if, bselH_false, runH_nil, runH_cons, gw, gselH_plain, cselH_bool, ↓chk, justK, ↓oneK, ↓pureK, ↓thenA_normal, ↓thenA_exit, ↓blockA_exit, ↓stepEv, opnd, Pg.look, binK, intOp, Bool.false_eq_true, false_implies, implies_true, true_and, and_true, forall_const, valV, heapV, footV, binV, intV, alives, aliveO, nxtQ, hdS, pairsA, frzA, closeQ_nil, closeQ_succ, diagQ_zero, diagQ_succ, ofV, ofLeaf, retA, resK, tupA, subA, subQ, ptrsE, pairsO, frzO, subF, subG, pickOf, assocN, pairsE, pairsC, pairs0, frzE, frzC, frz0, frzH, Pg.freeze, List.foldl_nil, subOs, subO, subEv, subV_succ, subM, List.getElem?_cons_zero, reduceCtorEq, Nat.reduceEqDiff, List.nil_append, List.append_nil, List.length_cons, List.length_nil, Nat.zero_add, ite_true, ite_false, decide_eq_true_eq, decide_eq_false_iff_not, not_true_eq_false, and_self, Int.reduceLT, pureB_bytes, List.contains_nil, Nat.zero_lt_succ, regH_none, isNext, nextF, nextG, selC_false, kLess]
  refine loopH_intro (α := Nat) (fun i => ([(7, .int .i64 i), (8, .int .i64 0), (0, .own 0 1 l.length), (1, .int .i64 a), (2, .int .i64 b)], [.arr 5 1 (ofBytes l)])) (fun i => a + 1 ≤ i ∧ i ≤ b ∧ scanS l b i = I) (fun i => b - i) (a + 1) ⟨Nat.le_refl _, h8, hI.symm⟩ ?_ ?_
  · simp (maxSteps := 4000000) only [Pg.look, true_and, and_true, alives, aliveO, nxtQ, hdS, pairsA, frzA, closeQ_nil, closeQ_succ, diagQ_zero, diagQ_succ, subA, subQ, ptrsE, pairsO, frzO, subF, subG, pickOf, assocN, pairsE, pairsC, pairs0, frzE, frzC, frz0, frzH, Pg.freeze, List.foldl_nil, subOs, subO, subEv, subV_succ, subM, List.getElem?_cons_zero, reduceCtorEq, Nat.reduceEqDiff, List.nil_append, List.append_nil, ite_true, ite_false, and_self, pureB_bytes, Nat.zero_lt_succ]
    exact ⟨by decide, subX_eq rfl (pureB_bytes _)⟩
  rintro i ⟨hi1, hi2, hi3⟩
  have hi1 : a + 1 ≤ i := hi1
  have hi2 : i ≤ b := hi2
  have hi3 : scanS l b i = I := hi3
  obtain ⟨k, rfl⟩ : ∃ k, i = k + 1 := ⟨i - 1, by omega⟩
  have w2 : IntKind.i64.wrap (((k + 1 : Nat) : Int) - 1) = (k : Int) := by rw [wrap64 (by omega) (by omega)]; omega
  have w3 : (k + 1 : Nat) < b → IntKind.i64.wrap (((k + 1 : Nat) : Int) + 1) = ((k + 1 + 1 : Nat) : Int) := fun _ => by rw [wrap64 (by omega) (by omega)]; omega
  have hsc := scanS_eq l b (k + 1)
  rw [hi3, Nat.add_sub_cancel] at hsc
  simp (maxSteps := 4000000) only [↓wpA_H, ↓wpH_skip, ↓wpH_ret, ↓wpH_exit, ↓wpH_seq, ↓wpH_cond, ↓wpH_block, ↓wpH_region, ↓iselH_true, iselH_if, bselH_false, runH_nil, runH_cons, gw, gselH_plain, gselH_if, kselH_1, cselH_bool, gkind, ↓chk, justK, noW, ↓oneK, ↓pureK, ↓heapK, ↓thenA_normal, ↓thenA_ret, ↓thenA_exit, ↓blockA_normal, ↓blockA_ret, ↓blockA_exit, ↓stepEv, opnd, Pg.look, binK, intOp, dstOf, Bool.false_eq_true, implies_true, imp_self, true_and, and_true, pickC, pickV, unc, gof, mux, mergeK, condsL, valV, heapV, footV, binV, intV, alives, aliveO, nxtQ, hdS, pairsA, frzA, closeQ_nil, closeQ_succ, diagQ_zero, diagQ_succ, mergeable, look_stripE, ofV, ofLeaf, sameK, retA, resK, tupA, subA, subQ, ptrsE, pairsO, frzO, subF, subG, pickOf, assocN, pairsE, pairsC, pairs0, frzE, frzC, frz0, frzH, Pg.freeze, List.foldl_nil, subOs, subO, subEv, subV_succ, subM, ldCells, objAt, ↓callT, callC, callV, normArgs, normA, resL, res8_eq, res_succ, resM, shiftR, shift1, AV.cells, TK.cells, Op.operands, Call.operands, Array.toList_append, List.getElem?_toArray, List.getElem?_cons_succ, List.getElem?_cons_zero, Option.bind_some, Option.getD_some, reduceCtorEq, Nat.reduceEqDiff, List.nil_append, List.append_nil, List.cons_append, List.length_cons, List.length_nil, List.map_cons, List.map_nil, Nat.zero_add, ite_true, ite_false, Option.some.injEq, Option.isSome_none, Bool.if_false_right, decide_eq_true_eq, decide_eq_false_iff_not, Int.not_lt, Bool.and_self, and_self, exists_eq_left', List.toList_toArray, length_ofBytes, getD_ofBytes, cByte_dec, lOne_dec, lCons_dec, dec2_some, pureB_bytes, List.contains_nil, List.range'_zero, C1by_ns, C1by_pre, C1by_r, C1by_H, optP_some, optV_some, optH_some, Int.toNat_natCast, Nat.lt_irrefl, Nat.zero_lt_succ, C1by_it, regH_none, isNext, nextF, nextG, selC_true, selC_false, pureC, ↓msel, muC, ↓callP, C1by_mu, tk5, dz5, tk32, kLess, w1, c50, w2]
  have hb1 : decide (((k + 1 : Nat) : Int) < (b : Int)) = decide (k + 1 < b) := by rw [Bool.eq_iff_iff]; simp only [decide_eq_true_eq]; omega
  rw [hb1]
  refine ⟨fun h => ⟨h, by omega, by omega⟩, fun h => ⟨h, by omega⟩, fun h => ⟨h, by omega, by omega⟩, fun h => ⟨h, by omega⟩, fun h => ?_, fun h => ?_⟩
  · rw [if_pos h] at hsc
    simp only [Bool.and_eq_true, decide_eq_true_eq] at h
    exact ⟨k + 1 + 1, ⟨by omega, by omega, hsc.symm⟩, by omega, by decide, subX_eq rfl (pureB_bytes _), w3 h.1⟩
  · rw [if_neg (by rw [h]; simp)] at hsc
    rw [hsc]
    refine ⟨fun h => ⟨by decide, subX_eq rfl (pureB_bytes _), ?_⟩, fun h => ⟨by decide, subX_eq rfl (pureB_bytes _), ?_⟩⟩
    · simp only [beq_iff_eq] at h
      exact (decide_eq_true (by omega)).symm
    · simp only [beq_eq_false_iff_ne, ne_eq] at h
      exact (decide_eq_false (by omega)).symm
def kPartial : C1 := C1.mby hAB (fun d => 0 ≤ d.2.1 ∧ d.2.1 < d.2.2.1 ∧ d.2.2.1 < d.2.1 + 50 ∧ d.2.2.1 ≤ d.1.length ∧ d.1.length ≤ 1000) (fun d => .bool (decide (scanS d.1 d.2.2.1.toNat (d.2.1.toNat + 1) = d.2.2.1.toNat))) (fun d => [.arr 5 1 (ofBytes d.1)])
theorem ok_partial : C1OK Try.prog 74 kPartial := C1OK.mby (by kernel_rfl) (fun d h => by
  obtain ⟨l, a, b, u⟩ := d
  obtain ⟨h1, h2, h3, h4, h5⟩ := h
  have h1 : 0 ≤ a := h1
  have h2 : a < b := h2
  have h3 : b < a + 50 := h3
  have h4 : b ≤ l.length := h4
  have h5 : l.length ≤ 1000 := h5
  have := calls_partial l a.toNat b.toNat (by omega) (by omega) (by omega) h5
  rw [show ((a.toNat : Nat) : Int) = a by omega, show ((b.toNat : Nat) : Int) = b by omega] at this
  exact this) (fun _ _ => Nat.le_refl _)
end Go.Pg
namespace Go.Pg
open Go Go.Proofs

theorem calls_Len (x : Int) (h0 : 0 ≤ x) (h1 : x ≤ 18446744073709551615) : CallsR Try.prog 67 [.int .u64 x] [] (.int .i64 (Lib.bitLen x.toNat)) [] := by
  refine callsR_below fun E vals hv => ?_
  obtain ⟨u, rfl, k⟩ := hv.one
  rw [k.int_inv]
  refine (Try.bits_Len x E.W h0 h1).mono fun e W' ⟨he, hw⟩ => ⟨⟨_, he, fun E' => .int _ _⟩, by rw [hw]; exact RowKit.Below.refl _ _⟩
def kLen : C1 := C1.by [.id] (lOne (cInt .u64)) (fun d => 0 ≤ d ∧ d ≤ 18446744073709551615) (fun d => .int .i64 (Lib.bitLen d.toNat)) (fun _ => [])
theorem ok_Len : C1OK Try.prog 67 kLen := C1OK.by (by kernel_rfl) (fun d h => calls_Len d h.1 h.2) (fun _ => rfl) (fun _ => rfl)

/-! ### In order -/
theorem swoB : Sort.SWO ltB where
  irrefl x := by simp [ltB]
  trans x y z h1 h2 := by simp only [ltB, decide_eq_true_eq] at *; omega
  ntrans x y z h1 h2 := by simp only [ltB, decide_eq_false_iff_not] at *; omega
def leU (x y : UInt8) : Bool := !ltB y x
def srt (l : List UInt8) : List UInt8 := l.mergeSort leU
theorem leU_iff (x y : UInt8) : leU x y = true ↔ x.toNat ≤ y.toNat := by simp [leU, ltB]
theorem srt_perm {l l' : List UInt8} (h : l.Perm l') : srt l = srt l' := by
  have tr : ∀ a b c : UInt8, leU a b = true → leU b c = true → leU a c = true := fun a b c h1 h2 => by simp only [leU_iff] at *; omega
  have to : ∀ a b : UInt8, (leU a b || leU b a) = true := fun a b => by simp only [Bool.or_eq_true, leU_iff]; omega
  refine List.Perm.eq_of_pairwise (le := fun a b => leU a b = true) (fun a b _ _ h1 h2 => ?_) (List.pairwise_mergeSort tr to l) (List.pairwise_mergeSort tr to l') (((List.mergeSort_perm l leU).trans h).trans (List.mergeSort_perm l' leU).symm)
  simp only [leU_iff] at h1 h2
  exact UInt8.toNat_inj.1 (by omega)
theorem frs_bytes (l : List UInt8) : (ofBytes l).all (fun v => v.cells.all (AV.frs 4)) = true := by
  simp only [ofBytes, List.all_map, List.all_eq_true]
  intro b _
  rfl
end Go.Pg
